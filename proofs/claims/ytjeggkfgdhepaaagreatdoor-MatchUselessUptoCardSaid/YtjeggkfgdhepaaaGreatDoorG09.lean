/- slices.Grow of nil and slices.Concat, at patterns and at types. -/
import Derived.Test.YtjeggkfgdhepaaaGreatDoorG08
import Derived.Lib.AppendZeros
import Derived.Laws.OwnMore
set_option linter.unusedVariables false
set_option linter.unusedSimpArgs false
namespace Go.Proofs.YtjeggkfgdhepaaaGreatDoor
open Go.RowKit
open Go.Proofs
theorem flat_at : ∀ (K : Nat) (l : List (List Value)),(∀ x ∈ l,x.length = K) → ∀ (q : Nat) (u : Value),l.flatten[q]? = some u → ∃ i x j,q = i * K + j ∧ l[i]? = some x ∧ x[j]? = some u
 | K,[],_,q,u,h => by simp at h
 | K,x :: l,hk,q,u,h => by
  have hx : x.length = K:=hk x (by simp)
  rw [List.flatten_cons] at h
  by_cases hq : q < x.length
  ·rw [List.getElem?_append_left hq] at h
   exact ⟨0,x,q,by simp,rfl,h⟩
  ·rw [List.getElem?_append_right (by omega)] at h
   obtain ⟨i,y,j,e,hi,hj⟩:=flat_at K l (fun z hz => hk z (by simp [hz])) (q - x.length) u h
   exact ⟨i + 1,y,j,by rw [Nat.add_mul]; omega,by simpa using hi,hj⟩
theorem flat_len : ∀ (K : Nat) (l : List (List Value)),(∀ x ∈ l,x.length = K) → l.flatten.length = l.length * K
 | K,[],_ => by simp
 | K,x :: l,hk => by
  rw [List.flatten_cons,List.length_append,hk x (by simp),flat_len K l (fun z hz => hk z (by simp [hz])),List.length_cons,Nat.add_mul]
  omega
theorem append_rowat {P : Program} {w : World} {ops : Array Oper} {rest : List Oper} {o : Oper} {a : Act} {Q : Exit → Act → World → Prop} (hgd : o.guard = none) (s x : Operand) (t : TypeId)
  (ho : o.op = .call { callee:=.builtin .append,args:=#[s,x],argTypes:=#[t,t] }) (base : Nat) (e : TypeId) (i : TypeInfo) (z : Value) (size bytes : Nat) (ht : P.underlying t = some (.slice e)) (hi : P.info? e = some i) (hz : i.zero = some z)
  (hsize : i.size = size) (hby : i.bytes = bytes) (hzs : z.cells.size = size) (hsz : 0 < size) (v : Value) (n : Nat) (xs : List Value) (hs : a.eval s = v) (hown : w.ownsRow base e size v n xs)
  (B : Nat) (A : Option Addr) (l : List (List Value)) (c : Nat) (hx : a.eval x = .slice A l.length c) (hA : A = none → c = 0) (hrow : RowAt B w size A l) (hle : l.length ≤ c) (hk : ∀ y ∈ l,y.length = size) (h1 : ∀ y ∈ l,∀ u ∈ y,u.oneCell' = true)
  (h63 : n + l.length ≤ maxLen) (hbytes : (n + l.length) * bytes ≤ 140737488355328) (hbase : base ≤ w.heap.size)
  (h : ∀ v' w',w'.ownsRow base e size v' (n + l.length) (xs ++ l.flatten) → w.grownBy w' v.ownBlock → (v'.ownBlock = v.ownBlock ∨ v'.ownBlock = some w.heap.size) → wpList P ops Q rest (a.put o.dst v') w') :
  wpList P ops Q (o :: rest) a w:=by
 rcases A with _ | ad
 ·have hc:=hA rfl
  have hl : l = []:=List.eq_nil_of_length_eq_zero (by omega)
  subst hl
  subst hc
  refine wpList_append_own_none hgd s x t ho base e i size ht hi v n xs hs hown hx ?_
  exact h v w (by simpa using hown) (World.grownBy.refl w _) (.inl rfl)
 ·refine wpList_append_own_at w hgd s x t ho base e i z size bytes ht hi hz hsize hby hzs hsz v n xs hs hown ad l.length c l.flatten hx (flat_len size l hk) ?_ ?_ h63 hbytes hbase fun v' w' k1 k2 _ k4 => h v' w' k1 k2 k4
  ·intro j u hu
   obtain ⟨i',y,j',rfl,hi',hj'⟩:=flat_at size l hk j u hu
   obtain ⟨b,off,he,-,hc⟩:=hrow (by have:=(List.getElem?_eq_some_iff.1 hi').1; omega)
   simp only [Option.some.injEq] at he
   subst he
   have e : (⟨b,off,none⟩ : Addr).add (i' * size + j') = ⟨b,off + i' * size + j',none⟩:=by
    unfold Addr.add
    split
    ·rename_i h0
     have : i' * size = 0:=by omega
     have : j' = 0:=by omega
     simp [*]
    ·simp only [Nat.add_assoc]
   rw [e]
   exact hc i' y hi' j' u hj'
  ·intro u hu
   obtain ⟨y,hy,huy⟩:=List.mem_flatten.1 hu
   exact h1 y hy u huy
theorem infoTy : (Tryz.prog.info? 25).map (fun i => (i.zero,i.size,i.bytes)) = some (some (.agg #[.string ⟨#[]⟩,.string ⟨#[]⟩,.slice none 0 0]),3,56):=by kernel_rfl
set_option maxRecDepth 100000 in
set_option maxHeartbeats 2000000 in
theorem growP_any (n : Nat) (w : World) (hn : n ≤ 1048576) :
  Calls Tryz.prog 141 #[.slice none 0 0,.int .i64 n] w fun e w' => ∃ v,e = .returned v ∧ Below w.heap.size w w' ∧ w'.ownsRow w.heap.size 28 4 v 0 []:=by
 obtain ⟨i0,hi,hz0,hz1,hz2⟩:=info_parts infoPat
 rcases Nat.eq_zero_or_pos n with h0 | h0
 ·subst h0
  go_enter Tryz.func141,Tryz.ntmps141
  go_wp2_with fail
  go_ret
  exact ⟨_,rfl,Below.refl _ _,World.ownsRow_nil _ _ _ _⟩
 ·have h1 : ¬((n : Int) < 0):=by omega
  have h2 : (0 : Int) < (n : Int):=by omega
  have hw : wrap64 ((n : Int) - 0) = n:=by unfold wrap64; omega
  have hrz : ∀ ty,(Builtin.append_ #[26,3] ty #[.slice none 0 0,.int .i64 (n : Int)]).run Tryz.prog w =
    .ok (.slice (some ⟨w.heap.size,0,none⟩) n (grownCap w n 0 28)) (w.drew.alloc (.cells (Builtin.zeroCells (.agg #[.string ⟨#[]⟩,.string ⟨#[]⟩,.int .i64 0,.slice none 0 0] : Value).cells n ++ Builtin.zeroCells (.agg #[.string ⟨#[]⟩,.string ⟨#[]⟩,.int .i64 0,.slice none 0 0] : Value).cells (grownCap w n 0 28 - n)) 28)):=fun ty =>
   Lib.run_append_nil_zeros w 26 3 ty 28 i0 _ .i64 .i64 Tryz.underlying26 Tryz.underlying3 hi hz0 n h0 (by rw [hz1]; decide) (by omega) (by rw [hz2]; omega)
  have hG:=grownCap_ge w n 0 28
  have hG63:=grownCap_le_maxLen w n 0 28 (by unfold maxLen; omega)
  have hown : (w.drew.alloc (.cells (Builtin.zeroCells (.agg #[.string ⟨#[]⟩,.string ⟨#[]⟩,.int .i64 0,.slice none 0 0] : Value).cells n ++ Builtin.zeroCells (.agg #[.string ⟨#[]⟩,.string ⟨#[]⟩,.int .i64 0,.slice none 0 0] : Value).cells (grownCap w n 0 28 - n)) 28)).ownsRow w.heap.size 28 4 (.slice (some ⟨w.heap.size,0,none⟩) 0 (grownCap w n 0 28)) 0 []:=by
   refine ⟨by simp,.inr ⟨w.heap.size,_,_,rfl,Nat.le_refl _,heap_alloc_new w.drew _,Nat.zero_le _,hG63, ?_,by simp⟩⟩
   simp only [Array.size_append,size_zeroCells]
   have : (.agg #[.string ⟨#[]⟩,.string ⟨#[]⟩,.int .i64 0,.slice none 0 0] : Value).cells.size = 4:=rfl
   rw [this]
   omega
  have HOWN:=Lib.hid hown
  have HB:=Lib.hid ((Below.refl w.heap.size w).drew.alloc (Nat.le_refl _) (.cells (Builtin.zeroCells (.agg #[.string ⟨#[]⟩,.string ⟨#[]⟩,.int .i64 0,.slice none 0 0] : Value).cells n ++ Builtin.zeroCells (.agg #[.string ⟨#[]⟩,.string ⟨#[]⟩,.int .i64 0,.slice none 0 0] : Value).cells (grownCap w n 0 28 - n)) 28))
  generalize (w.drew.alloc (.cells (Builtin.zeroCells (.agg #[.string ⟨#[]⟩,.string ⟨#[]⟩,.int .i64 0,.slice none 0 0] : Value).cells n ++ Builtin.zeroCells (.agg #[.string ⟨#[]⟩,.string ⟨#[]⟩,.int .i64 0,.slice none 0 0] : Value).cells (grownCap w n 0 28 - n)) 28)) = w2 at hrz HOWN HB hown
  generalize grownCap w n 0 28 = G at hrz HOWN hG hG63
  clear hown
  have hG63' : (G : Int) ≤ 9223372036854775807:=by unfold maxLen at hG63; omega
  go_enter Tryz.func141,Tryz.ntmps141
  go_wp2_with (at_builtin; refine Lib.wpList_append_run _ rfl _ _ _ _ rfl _ _ rfl rfl _ _ (hrz _) ?_)
  go_ret
  exact ⟨_,rfl,HB.out,HOWN.out⟩
set_option maxRecDepth 100000 in
set_option maxHeartbeats 2000000 in
theorem growT_any (n : Nat) (w : World) (hn : n ≤ 1048576) :
  Calls Tryz.prog 123 #[.slice none 0 0,.int .i64 n] w fun e w' => ∃ v,e = .returned v ∧ Below w.heap.size w w' ∧ w'.ownsRow w.heap.size 25 3 v 0 []:=by
 obtain ⟨i0,hi,hz0,hz1,hz2⟩:=info_parts infoTy
 rcases Nat.eq_zero_or_pos n with h0 | h0
 ·subst h0
  go_enter Tryz.func123,Tryz.ntmps123
  go_wp2_with fail
  go_ret
  exact ⟨_,rfl,Below.refl _ _,World.ownsRow_nil _ _ _ _⟩
 ·have h1 : ¬((n : Int) < 0):=by omega
  have h2 : (0 : Int) < (n : Int):=by omega
  have hw : wrap64 ((n : Int) - 0) = n:=by unfold wrap64; omega
  have hrz : ∀ ty,(Builtin.append_ #[23,3] ty #[.slice none 0 0,.int .i64 (n : Int)]).run Tryz.prog w =
    .ok (.slice (some ⟨w.heap.size,0,none⟩) n (grownCap w n 0 25)) (w.drew.alloc (.cells (Builtin.zeroCells (.agg #[.string ⟨#[]⟩,.string ⟨#[]⟩,.slice none 0 0] : Value).cells n ++ Builtin.zeroCells (.agg #[.string ⟨#[]⟩,.string ⟨#[]⟩,.slice none 0 0] : Value).cells (grownCap w n 0 25 - n)) 25)):=fun ty =>
   Lib.run_append_nil_zeros w 23 3 ty 25 i0 _ .i64 .i64 Tryz.underlying23 Tryz.underlying3 hi hz0 n h0 (by rw [hz1]; decide) (by omega) (by rw [hz2]; omega)
  have hG:=grownCap_ge w n 0 25
  have hG63:=grownCap_le_maxLen w n 0 25 (by unfold maxLen; omega)
  have hown : (w.drew.alloc (.cells (Builtin.zeroCells (.agg #[.string ⟨#[]⟩,.string ⟨#[]⟩,.slice none 0 0] : Value).cells n ++ Builtin.zeroCells (.agg #[.string ⟨#[]⟩,.string ⟨#[]⟩,.slice none 0 0] : Value).cells (grownCap w n 0 25 - n)) 25)).ownsRow w.heap.size 25 3 (.slice (some ⟨w.heap.size,0,none⟩) 0 (grownCap w n 0 25)) 0 []:=by
   refine ⟨by simp,.inr ⟨w.heap.size,_,_,rfl,Nat.le_refl _,heap_alloc_new w.drew _,Nat.zero_le _,hG63, ?_,by simp⟩⟩
   simp only [Array.size_append,size_zeroCells]
   have : (.agg #[.string ⟨#[]⟩,.string ⟨#[]⟩,.slice none 0 0] : Value).cells.size = 3:=rfl
   rw [this]
   omega
  have HOWN:=Lib.hid hown
  have HB:=Lib.hid ((Below.refl w.heap.size w).drew.alloc (Nat.le_refl _) (.cells (Builtin.zeroCells (.agg #[.string ⟨#[]⟩,.string ⟨#[]⟩,.slice none 0 0] : Value).cells n ++ Builtin.zeroCells (.agg #[.string ⟨#[]⟩,.string ⟨#[]⟩,.slice none 0 0] : Value).cells (grownCap w n 0 25 - n)) 25))
  generalize (w.drew.alloc (.cells (Builtin.zeroCells (.agg #[.string ⟨#[]⟩,.string ⟨#[]⟩,.slice none 0 0] : Value).cells n ++ Builtin.zeroCells (.agg #[.string ⟨#[]⟩,.string ⟨#[]⟩,.slice none 0 0] : Value).cells (grownCap w n 0 25 - n)) 25)) = w2 at hrz HOWN HB hown
  generalize grownCap w n 0 25 = G at hrz HOWN hG hG63
  clear hown
  have hG63' : (G : Int) ≤ 9223372036854775807:=by unfold maxLen at hG63; omega
  go_enter Tryz.func123,Tryz.ntmps123
  go_wp2_with (at_builtin; refine Lib.wpList_append_run _ rfl _ _ _ _ rfl _ _ rfl rfl _ _ (hrz _) ?_)
  go_ret
  exact ⟨_,rfl,HB.out,HOWN.out⟩
structure Rt where
 at_ : Option Addr
 cap : Nat
 tys : List Ty
 deriving Inhabited
def Rt.val (r : Rt) : Value:=.slice r.at_ r.tys.length r.cap
def Rt.In (B : Nat) (w : World) (r : Rt) : Prop:=RowAt B w 3 r.at_ (r.tys.map Ty.cells) ∧ (∀ p ∈ r.tys,p.In B w) ∧ r.tys.length ≤ r.cap ∧ r.cap ≤ 9223372036854775807
theorem Rt.In.keep {B : Nat} {w w' : World} {r : Rt} (h : r.In B w) (hb : Below B w w') : r.In B w':=⟨h.1.keep hb,fun p hp => Ty.In.keep hb _ (h.2.1 p hp),h.2.2⟩
theorem Rt.In.wider {B B' : Nat} {w : World} {r : Rt} (h : r.In B w) (hb : B ≤ B') : r.In B' w:=⟨h.1.wider hb,fun p hp => Ty.In.wider hb _ (h.2.1 p hp),h.2.2⟩
structure RtsIn (B : Nat) (w : World) (A : Option Addr) (rs : List Rt) : Prop where
 row : RowAt B w 1 A (rs.map fun r => [r.val])
 each : ∀ r ∈ rs,r.In B w
 len : rs.length ≤ 1048576
theorem RtsIn.arg_at {B : Nat} {w wr : World} {A : Option Addr} {rs : List Rt} {k : Nat} (h : RtsIn B w A rs) (hb : Below B w wr) (hlt : k < rs.length) :
  ∃ r b off,rs[k]? = some r ∧ r ∈ rs ∧ A = some ⟨b,off,none⟩ ∧ b < B ∧ wr.cell? ⟨b,off + k,none⟩ = some r.val:=by
 obtain ⟨r,hr⟩ : ∃ r,rs[k]? = some r:=⟨_,List.getElem?_eq_getElem hlt⟩
 obtain ⟨b,off,rfl,hb',hc⟩:=h.row (by simp; omega)
 have h1:=hc k [r.val] (by simp [hr]) 0 _ rfl
 simp only [Nat.mul_one,Nat.add_zero] at h1
 exact ⟨r,b,off,hr,List.mem_of_getElem? hr,rfl,hb',(hb.cell (p:=⟨b,off + k,none⟩) hb').trans h1⟩
def TysO (B : Nat) (w : World) (v : Value) (ps : List Ty) : Prop:=∃ A c,v = .slice A ps.length c ∧ w.ownsRow B 25 3 (.slice A ps.length c) ps.length ((ps.map Ty.cells).flatten)
theorem len_take {α β : Type} {f : α → List β} {l : List α} {k : Nat} {q : α} (h : l[k]? = some q) : ((l.take (k + 1)).flatMap f).length = ((l.take k).flatMap f).length + (f q).length ∧ ((l.take (k + 1)).flatMap f).length ≤ (l.flatMap f).length:=by
 have e : (l.take (k + 1)).flatMap f = (l.take k).flatMap f ++ f q:=by rw [List.take_add_one,h]; simp
 refine ⟨by rw [e,List.length_append], ?_⟩
 have e2 : l.flatMap f = (l.take (k + 1)).flatMap f ++ (l.drop (k + 1)).flatMap f:=by rw [← List.flatMap_append,List.take_append_drop]
 rw [e2,List.length_append]
 omega
theorem flat_succ {α β : Type} {f : α → List β} {l : List α} {k : Nat} {q : α} (h : l[k]? = some q) : (l.take (k + 1)).flatMap f = (l.take k).flatMap f ++ f q:=by rw [List.take_add_one,h]; simp
set_option maxRecDepth 100000 in
set_option maxHeartbeats 4000000 in
theorem concatP_any (A : Option Addr) (rs : List Rw) (c : Nat) (w : World) (h : RowsIn w.heap.size w A rs) (hno : ∀ r ∈ rs,r.at_ = none → r.cap = 0) (hlen : (rs.flatMap Rw.pats).length ≤ 1048576) :
  Calls Tryz.prog 122 #[.slice A rs.length c] w fun e w' => Below w.heap.size w w' ∧ ∃ v,e = .returned v ∧ PatsO w.heap.size w' v (rs.flatMap Rw.pats):=by
 have H:=Lib.hid h
 have HNO:=Lib.hid hno
 have HLEN:=Lib.hid hlen
 have hl:=h.len
 obtain ⟨i0,hi,hz0,hz1,hz2⟩:=info_parts infoPat
 clear h hno hlen
 go_enter Tryz.func122,Tryz.ntmps122
 go_wp2_with fail
 go_loopw [3,11] (fun sv iv wr => ∃ k m : Nat,iv = .int .i64 k ∧ k ≤ rs.length ∧ sv = .int .i64 m ∧ Hid (m = ((rs.take k).flatMap Rw.pats).length) ∧ wr = w) (fun _ iv _ => rs.length - (intOf iv).toNat)
 case atStart => exact ⟨0,0,rfl,Nat.zero_le _,rfl,Lib.hid rfl,rfl⟩
 case round =>
  obtain ⟨k,m,rfl,hk,rfl,HM,rfl⟩:=hrel
  by_cases hlt : k < rs.length
  ·obtain ⟨r,b0,off,hr,hmem,rfl,hb,x0⟩:=H.out.arg_at (Below.refl _ _) hlt
   obtain ⟨ra,rc,rp⟩:=r
   have hq:=len_take (f:=Rw.pats) hr
   have hm:=HM.out
   have hlen:=HLEN.out
   have hm2 : m + rp.length ≤ 1048576:=by simp only at hq; omega
   have HM2:=Lib.hid (show m + rp.length = ((rs.take (k + 1)).flatMap Rw.pats).length by rw [hq.1,hm])
   have hpos : ¬((m : Int) + (rp.length : Int) < 0):=by omega
   have hwr : wrap64 ((m : Int) + (rp.length : Int)) = (m : Int) + (rp.length : Int):=by unfold wrap64; omega
   unfold Rw.val at x0
   clear hr hq hm hlen
   go_wp2_with fail
   exact ⟨⟨k + 1,m + rp.length,by go_num,by omega,by push_cast; rfl,HM2.out,trivial⟩,by simp [intOf]; omega⟩
  ·have hk2 : k = rs.length:=by omega
   have hm:=HM.out
   rw [hk2,List.take_length] at hm
   have hlen:=HLEN.out
   have hm2 : m ≤ 1048576:=by omega
   have HG:=Lib.hid (growP_any m wr hm2)
   clear hk2 hm hlen
   go_wp2_with fail
   refine Calls.mono HG.out ?_
   rintro e w1 ⟨v1,rfl,hb1,hown1⟩
   obtain ⟨A1,c1,rfl,-⟩:=row_slice hown1
   have HB1:=Lib.hid hb1
   have HO1:=Lib.hid hown1
   clear hb1 hown1
   go_wp2_with fail
   obtain ⟨w,rfl⟩ : ∃ wx : World,wx = wr:=⟨_,rfl⟩
   go_loopw [6,27] (fun nv iv wr => ∃ (j n : Nat) (An : Option Addr) (cn : Nat),iv = .int .i64 j ∧ j ≤ rs.length ∧ nv = .slice An n cn ∧ Hid (n = ((rs.take j).flatMap Rw.pats).length) ∧ Hid (Below w.heap.size w wr) ∧ Hid (wr.ownsRow w.heap.size 28 4 (.slice An n cn) n ((((rs.take j).flatMap Rw.pats).map Pt.cells).flatten))) (fun _ iv _ => rs.length - (intOf iv).toNat)
   case atStart => exact ⟨0,0,A1,c1,rfl,Nat.zero_le _,rfl,Lib.hid rfl,HB1.out,HO1.out⟩
   case round =>
    obtain ⟨j,n,An,cn,rfl,hj,rfl,HN,HB,HO⟩:=hrel
    by_cases hlt : j < rs.length
    ·obtain ⟨r,b0,off,hr,hmem,rfl,hb,x0⟩:=H.out.arg_at HB.out hlt
     have hri:=H.out.each r hmem
     have hrn:=HNO.out r hmem
     obtain ⟨ra,rc,rp⟩:=r
     have hq:=len_take (f:=Rw.pats) hr
     have hn:=HN.out
     have hlen:=HLEN.out
     have hn2 : n + rp.length ≤ 1048576:=by simp only at hq; omega
     have HN2:=Lib.hid (show n + rp.length = ((rs.take (j + 1)).flatMap Rw.pats).length by rw [hq.1,hn])
     have HF:=Lib.hid (flat_succ (f:=Rw.pats) hr)
     have HRI:=Lib.hid hri
     have HRN:=Lib.hid hrn
     have hs0:=HB.out.size
     unfold Rw.val at x0
     clear hr hq hn hlen hri hrn
     go_wp2_with (at_builtin; go_must (refine append_rowat rfl (.tmp 31) (.tmp 32) 26 rfl w.heap.size 28 i0 _ 4 64 Tryz.underlying26 hi hz0 hz1 hz2 rfl (by decide) (.slice An n cn) n ((((rs.take j).flatMap Rw.pats).map Pt.cells).flatten) rfl ?own w.heap.size ra (rp.map Pt.cells) rc ?hx ?hA ?hrow ?hle ?hk ?h1 ?h63 ?hby ?hba ?_))
     case own => exact HO.out
     try case hx => simp [Act.eval,Act.put]
     case hA => exact HRN.out
     case hrow => exact HRI.out.1.keep HB.out
     case hle => simpa using HRI.out.2.2.1
     case hk => intro y hy; rfl
     case h1 => intro y hy u hu; simp only [Pt.cells,List.mem_cons,List.not_mem_nil,or_false] at hu; rcases hu with rfl | rfl | rfl | rfl <;> rfl
     case h63 => unfold maxLen; omega
     case hby => omega
     try case hba => exact hs0
     intro v3 w3 hown hgrow _
     try rw [List.length_map] at hown
     obtain ⟨A3,c3,rfl,-⟩:=row_slice hown
     have HB3:=Lib.hid (HB.out.grown hgrow hs0 (fun i hi => (HO.out.lt i hi).1))
     have HO3:=Lib.hid hown
     clear hown hgrow
     go_wp2_with fail
     refine ⟨⟨j + 1,n + rp.length,A3,c3,by go_num,by omega,rfl,HN2.out,HB3.out, ?_⟩,by simp [intOf]; omega⟩
     refine Lib.hid ?_
     rw [HF.out,List.map_append,List.flatten_append]
     exact HO3.out
    ·have hj2 : j = rs.length:=by omega
     have hn:=HN.out
     have ho:=HO.out
     rw [hj2,List.take_length] at hn ho
     have HO2:=Lib.hid ho
     have HN2:=Lib.hid hn
     clear hj2 hn ho
     go_wp2_with fail
     go_ret
     refine ⟨HB.out,_,rfl,An,cn,by rw [← HN2.out]; rfl, ?_⟩
     rw [← HN2.out]
     exact HO2.out
set_option maxRecDepth 100000 in
set_option maxHeartbeats 4000000 in
theorem concatT_any (A : Option Addr) (rs : List Rt) (c : Nat) (w : World) (h : RtsIn w.heap.size w A rs) (hno : ∀ r ∈ rs,r.at_ = none → r.cap = 0) (hlen : (rs.flatMap Rt.tys).length ≤ 1048576) :
  Calls Tryz.prog 91 #[.slice A rs.length c] w fun e w' => Below w.heap.size w w' ∧ ∃ v,e = .returned v ∧ TysO w.heap.size w' v (rs.flatMap Rt.tys):=by
 have H:=Lib.hid h
 have HNO:=Lib.hid hno
 have HLEN:=Lib.hid hlen
 have hl:=h.len
 obtain ⟨i0,hi,hz0,hz1,hz2⟩:=info_parts infoTy
 clear h hno hlen
 go_enter Tryz.func91,Tryz.ntmps91
 go_wp2_with fail
 go_loopw [3,11] (fun sv iv wr => ∃ k m : Nat,iv = .int .i64 k ∧ k ≤ rs.length ∧ sv = .int .i64 m ∧ Hid (m = ((rs.take k).flatMap Rt.tys).length) ∧ wr = w) (fun _ iv _ => rs.length - (intOf iv).toNat)
 case atStart => exact ⟨0,0,rfl,Nat.zero_le _,rfl,Lib.hid rfl,rfl⟩
 case round =>
  obtain ⟨k,m,rfl,hk,rfl,HM,rfl⟩:=hrel
  by_cases hlt : k < rs.length
  ·obtain ⟨r,b0,off,hr,hmem,rfl,hb,x0⟩:=H.out.arg_at (Below.refl _ _) hlt
   obtain ⟨ra,rc,rp⟩:=r
   have hq:=len_take (f:=Rt.tys) hr
   have hm:=HM.out
   have hlen:=HLEN.out
   have hm2 : m + rp.length ≤ 1048576:=by simp only at hq; omega
   have HM2:=Lib.hid (show m + rp.length = ((rs.take (k + 1)).flatMap Rt.tys).length by rw [hq.1,hm])
   have hpos : ¬((m : Int) + (rp.length : Int) < 0):=by omega
   have hwr : wrap64 ((m : Int) + (rp.length : Int)) = (m : Int) + (rp.length : Int):=by unfold wrap64; omega
   unfold Rt.val at x0
   clear hr hq hm hlen
   go_wp2_with fail
   exact ⟨⟨k + 1,m + rp.length,by go_num,by omega,by push_cast; rfl,HM2.out,trivial⟩,by simp [intOf]; omega⟩
  ·have hk2 : k = rs.length:=by omega
   have hm:=HM.out
   rw [hk2,List.take_length] at hm
   have hlen:=HLEN.out
   have hm2 : m ≤ 1048576:=by omega
   have HG:=Lib.hid (growT_any m wr hm2)
   clear hk2 hm hlen
   go_wp2_with fail
   refine Calls.mono HG.out ?_
   rintro e w1 ⟨v1,rfl,hb1,hown1⟩
   obtain ⟨A1,c1,rfl,-⟩:=row_slice hown1
   have HB1:=Lib.hid hb1
   have HO1:=Lib.hid hown1
   clear hb1 hown1
   go_wp2_with fail
   obtain ⟨w,rfl⟩ : ∃ wx : World,wx = wr:=⟨_,rfl⟩
   go_loopw [6,27] (fun nv iv wr => ∃ (j n : Nat) (An : Option Addr) (cn : Nat),iv = .int .i64 j ∧ j ≤ rs.length ∧ nv = .slice An n cn ∧ Hid (n = ((rs.take j).flatMap Rt.tys).length) ∧ Hid (Below w.heap.size w wr) ∧ Hid (wr.ownsRow w.heap.size 25 3 (.slice An n cn) n ((((rs.take j).flatMap Rt.tys).map Ty.cells).flatten))) (fun _ iv _ => rs.length - (intOf iv).toNat)
   case atStart => exact ⟨0,0,A1,c1,rfl,Nat.zero_le _,rfl,Lib.hid rfl,HB1.out,HO1.out⟩
   case round =>
    obtain ⟨j,n,An,cn,rfl,hj,rfl,HN,HB,HO⟩:=hrel
    by_cases hlt : j < rs.length
    ·obtain ⟨r,b0,off,hr,hmem,rfl,hb,x0⟩:=H.out.arg_at HB.out hlt
     have hri:=H.out.each r hmem
     have hrn:=HNO.out r hmem
     obtain ⟨ra,rc,rp⟩:=r
     have hq:=len_take (f:=Rt.tys) hr
     have hn:=HN.out
     have hlen:=HLEN.out
     have hn2 : n + rp.length ≤ 1048576:=by simp only at hq; omega
     have HN2:=Lib.hid (show n + rp.length = ((rs.take (j + 1)).flatMap Rt.tys).length by rw [hq.1,hn])
     have HF:=Lib.hid (flat_succ (f:=Rt.tys) hr)
     have HRI:=Lib.hid hri
     have HRN:=Lib.hid hrn
     have hs0:=HB.out.size
     unfold Rt.val at x0
     clear hr hq hn hlen hri hrn
     go_wp2_with (at_builtin; go_must (refine append_rowat rfl (.tmp 31) (.tmp 32) 23 rfl w.heap.size 25 i0 _ 3 56 Tryz.underlying23 hi hz0 hz1 hz2 rfl (by decide) (.slice An n cn) n ((((rs.take j).flatMap Rt.tys).map Ty.cells).flatten) rfl ?own w.heap.size ra (rp.map Ty.cells) rc ?hx ?hA ?hrow ?hle ?hk ?h1 ?h63 ?hby ?hba ?_))
     case own => exact HO.out
     try case hx => simp [Act.eval,Act.put]
     case hA => exact HRN.out
     case hrow => exact HRI.out.1.keep HB.out
     case hle => simpa using HRI.out.2.2.1
     case hk => intro y hy; rfl
     case h1 => intro y hy u hu; simp only [Ty.cells,List.mem_cons,List.not_mem_nil,or_false] at hu; rcases hu with rfl | rfl | rfl <;> rfl
     case h63 => unfold maxLen; omega
     case hby => omega
     try case hba => exact hs0
     intro v3 w3 hown hgrow _
     try rw [List.length_map] at hown
     obtain ⟨A3,c3,rfl,-⟩:=row_slice hown
     have HB3:=Lib.hid (HB.out.grown hgrow hs0 (fun i hi => (HO.out.lt i hi).1))
     have HO3:=Lib.hid hown
     clear hown hgrow
     go_wp2_with fail
     refine ⟨⟨j + 1,n + rp.length,A3,c3,by go_num,by omega,rfl,HN2.out,HB3.out, ?_⟩,by simp [intOf]; omega⟩
     refine Lib.hid ?_
     rw [HF.out,List.map_append,List.flatten_append]
     exact HO3.out
    ·have hj2 : j = rs.length:=by omega
     have hn:=HN.out
     have ho:=HO.out
     rw [hj2,List.take_length] at hn ho
     have HO2:=Lib.hid ho
     have HN2:=Lib.hid hn
     clear hj2 hn ho
     go_wp2_with fail
     go_ret
     refine ⟨HB.out,_,rfl,An,cn,by rw [← HN2.out]; rfl, ?_⟩
     rw [← HN2.out]
     exact HO2.out
end Go.Proofs.YtjeggkfgdhepaaaGreatDoor

namespace Go.Proofs.YtjeggkfgdhepaaaGreatDoor
open Go.RowKit
open Go.Proofs
open Go.Maps
theorem map_look_gen {w : World} {b n : Nat} {L : List (ByteArray × Value)} {t e : TypeId} (c : Bool) (ht : Tryz.prog.underlying t = some (.map 9 e)) {z : Value} (hz : (zeroValue e).run Tryz.prog w = .ok z w) (h : MapAt ofV w b n L) (s : ByteArray) (hs : s.size ≤ 1099511627776) :
  (Instr.lookup t (.map (some b)) (.string s) c).run Tryz.prog w = .ok (if c then .tuple #[(lookL L s).getD z,.bool (lookL L s).isSome] else (lookL L s).getD z) w:=by
 obtain ⟨D,hown,hnm⟩:=h
 obtain ⟨es,clock,hb,F,_,rfl⟩:=hown
 rcases Maps.fit_look c lawStr ht hz hb F (Go.WideMaps.keyOf_string_mk Tryz.underlying9 (maxLen_ge hs)) with ⟨hrun,_,hat⟩ | ⟨e0,y,_,_,hrun,hRv,hat,_⟩
 ·rw [hrun]
  cases hl : lookL L s with
  | none => rfl
  | some y =>
   have h1:=hnm.at_ s y hl .nil
   rw [show DataW.atKey _ (keyL s) .nil = .nil from hat .nil] at h1
   cases h1
 ·rw [hrun]
  obtain ⟨-,he⟩:=rdE_inv hRv
  cases hl : lookL L s with
  | none =>
   have hno:=hnm.has s
   rw [hl] at hno
   have h1:=Maps.atKey_of_not_has (show _ = false from hno) .nil
   rw [show DataW.atKey _ (keyL s) .nil = y.1 from hat .nil,he] at h1
   cases h1
  | some x =>
   have h1:=hnm.at_ s x hl .nil
   rw [show DataW.atKey _ (keyL s) .nil = y.1 from hat .nil,he] at h1
   simp only [DataW.held.injEq] at h1
   rw [h1]
   rfl
structure Sk where
 b : Nat
 bD : Nat
 bC : Nat
 bE : Nat
 bN : Nat
def Sk.cells (K : Sk) (f : Bool) : Array Value:=#[.map (some K.bD),.map (some K.bC),.map (some K.bE),.map (some K.bN),.bool f]
def Sk.val (K : Sk) : Value:=.pointer (some ⟨K.b,0,none⟩)
structure Sm (K : Sk) (w w' : World) : Prop where
 os : w'.os = w.os
 tape : w'.tape = w.tape
 output : w'.output = w.output
 size : w.heap.size ≤ w'.heap.size
 block : ∀ k,k < w.heap.size → k ≠ K.b → w'.heap[k]? = w.heap[k]?
 flag : ∃ f f',Blk w K.b (K.cells f) 90 ∧ Blk w' K.b (K.cells f') 90 ∧ (f = true → f' = true)
section
variable {K : Sk} {w w1 w2 : World}
theorem Blk.same {w : World} {b : Nat} {c d : Array Value} {t u : TypeId} (h : Blk w b c t) (k : Blk w b d u) : c = d:=by
 unfold Blk at h k
 rw [h] at k
 simp only [Option.some.injEq,Obj.cells.injEq] at k
 exact k.1
theorem Sk.cells_inj {K : Sk} {f g : Bool} (h : K.cells f = K.cells g) : f = g:=by
 unfold Sk.cells at h
 simpa using h
theorem Sm.trans (h : Sm K w w1) (k : Sm K w1 w2) : Sm K w w2:=by
 obtain ⟨f,f',hf,hf',hm⟩:=h.flag
 obtain ⟨g,g',hg,hg',hn⟩:=k.flag
 have e:=Sk.cells_inj (hf'.same hg)
 refine ⟨k.os.trans h.os,k.tape.trans h.tape,k.output.trans h.output,Nat.le_trans h.size k.size,fun i hi hs => (k.block i (Nat.lt_of_lt_of_le hi h.size) hs).trans (h.block i hi hs),f,g',hf,hg',fun hh => hn (by rw [← e]; exact hm hh)⟩
theorem Sm.of_below {f : Bool} (hk : Blk w K.b (K.cells f) 90) (hb : Below w.heap.size w w1) : Sm K w w1:=
 ⟨hb.os,hb.tape,hb.output,hb.size,fun k hk _ => hb.block k hk,f,f,hk,hk.below hb hk.lt,fun h => h⟩
theorem Sm.then (h : Sm K w w1) (hb : Below w1.heap.size w1 w2) : Sm K w w2:=by
 obtain ⟨f,f',hf,hf',hm⟩:=h.flag
 exact h.trans (Sm.of_below hf' hb)
theorem Sm.below {B : Nat} (h : Sm K w w1) (hB : B ≤ w.heap.size) (hK : B ≤ K.b) : Below B w w1:=⟨h.os,h.tape,h.output,h.size,fun k hk => h.block k (by omega) (by omega)⟩
theorem Sm.blk {c : Array Value} {t : TypeId} {b : Nat} (h : Sm K w w1) (hb : Blk w b c t) (hne : t ≠ 90) : Blk w1 b c t:=by
 obtain ⟨f,f',hf,hf',hm⟩:=h.flag
 refine (h.block b hb.lt ?_).trans hb
 intro e
 subst e
 unfold Blk at hb hf
 rw [hb] at hf
 simp only [Option.some.injEq,Obj.cells.injEq] at hf
 exact hne hf.2.1
theorem Sm.ne {b o : Nat} {s : ByteArray} (h : Sm K w w1) (hc : w.cell? ⟨b,o,none⟩ = some (.string s)) : b ≠ K.b:=by
 obtain ⟨f,f',hf,hf',hm⟩:=h.flag
 intro e
 subst e
 rw [hf.cell] at hc
 unfold Sk.cells at hc
 match o,hc with
 | 0,hc => simp at hc
 | 1,hc => simp at hc
 | 2,hc => simp at hc
 | 3,hc => simp at hc
 | 4,hc => simp at hc
 | o + 5,hc => simp at hc
theorem Sm.row {B k : Nat} {A : Option Addr} {l : List (List Value)} (h : Sm K w w1) (hB : B ≤ w.heap.size) (hl : ∀ x ∈ l,∃ s : ByteArray,x[0]? = some (.string s)) (hr : RowAt B w k A l) : RowAt B w1 k A l:=by
 intro hlen
 obtain ⟨b,off,rfl,hb,hc⟩:=hr hlen
 obtain ⟨s,hs⟩:=hl l[0] (by simp)
 have h0:=hc 0 l[0] (List.getElem?_eq_getElem hlen) 0 _ hs
 have hne:=h.ne h0
 refine ⟨b,off,rfl,hb,fun i x hi j v hj => ?_⟩
 have hblk:=h.block b (by omega) hne
 have : w1.cell? ⟨b,off + i * k + j,none⟩ = w.cell? ⟨b,off + i * k + j,none⟩:=World.cell?_of_block hblk
 rw [this]
 exact hc i x hi j v hj
theorem pt_text (l : List Pt) : ∀ x ∈ l.map Pt.cells,∃ s : ByteArray,x[0]? = some (.string s):=by
 intro x hx
 obtain ⟨p,-,rfl⟩:=List.mem_map.1 hx
 exact ⟨_,rfl⟩
theorem ty_text (l : List Ty) : ∀ x ∈ l.map Ty.cells,∃ s : ByteArray,x[0]? = some (.string s):=by
 intro x hx
 obtain ⟨p,-,rfl⟩:=List.mem_map.1 hx
 exact ⟨_,rfl⟩
theorem cn_text (l : List Cn) : ∀ x ∈ l.map Cn.cells,∃ s : ByteArray,x[0]? = some (.string s):=by
 intro x hx
 obtain ⟨p,-,rfl⟩:=List.mem_map.1 hx
 exact ⟨_,rfl⟩
theorem Sm.pt {B : Nat} (h : Sm K w w1) (hB : B ≤ w.heap.size) (p : Pt) : p.In B w → p.In B w1:=by
 refine Pt.induct (p:=fun p => p.In B w → p.In B w1) (fun d s n a c l ih hin => ?_) p
 rw [Pt.In_mk] at hin ⊢
 exact ⟨hin.1,hin.2.1,hin.2.2.1,hin.2.2.2.1,hin.2.2.2.2.1,h.row hB (pt_text l) hin.2.2.2.2.2.1,fun t ht => ih t ht (hin.2.2.2.2.2.2 t ht)⟩
theorem Sm.ty {B : Nat} (h : Sm K w w1) (hB : B ≤ w.heap.size) (p : Ty) : p.In B w → p.In B w1:=by
 refine Ty.induct (p:=fun p => p.In B w → p.In B w1) (fun d s a c l ih hin => ?_) p
 rw [Ty.In_mk] at hin ⊢
 exact ⟨hin.1,hin.2.1,hin.2.2.1,hin.2.2.2.1,h.row hB (ty_text l) hin.2.2.2.2.1,fun t ht => ih t ht (hin.2.2.2.2.2 t ht)⟩
theorem Sm.dt {B : Nat} (h : Sm K w w1) (hB : B ≤ w.heap.size) (d : Dt) (hin : d.In B w) : d.In B w1:=
 ⟨hin.1,hin.2.1,hin.2.2.1,h.row hB (cn_text _) hin.2.2.2.1,fun c hc => ⟨(hin.2.2.2.2 c hc).1,h.ty hB _ (hin.2.2.2.2 c hc).2⟩⟩
theorem Sm.map {b n : Nat} {L : List (ByteArray × Value)} (h : Sm K w w1) (hm : MapAt ofV w b n L) (hne : b ≠ K.b) : MapAt ofV w1 b n L:=hm.block (h.block b hm.lt hne)
end
abbrev Nums:=ByteArray → Option Int
def numL (L : List (ByteArray × Value)) : Nums:=fun s => match lookL L s with | some (.int _ m) => some m | _ => none
def nodesN (N : Nums) : Ty → Int × Bool
 | .mk d n _ _ l => if isDo [112,97,105,114] d then (match l.map (fun t => nodesN N t) with | [a,b] => (min (a.1 + b.1 + 1) 2001,a.2 && b.2) | _ => (1,true)) else if isDo [100,97,116,97] d then (match N n with | some m => (m,true) | none => (0,false)) else (1,true)
theorem nodesN_mk (N : Nums) (d n : ByteArray) (a : Option Addr) (c : Nat) (l : List Ty) : nodesN N (.mk d n a c l) =
  if isDo [112,97,105,114] d then (match l.map (nodesN N) with | [a,b] => (min (a.1 + b.1 + 1) 2001,a.2 && b.2) | _ => (1,true)) else if isDo [100,97,116,97] d then (match N n with | some m => (m,true) | none => (0,false)) else (1,true):=by
 rw [nodesN]
def conN (N : Nums) (c : Cn) : Int × Bool:=if c.has then (min ((nodesN N c.ty).1 + 1) 2001,(nodesN N c.ty).2) else (1,true)
def NumsOk (N : Nums) : Prop:=∀ s m,N s = some m → 1 ≤ m ∧ m ≤ 2001
theorem nodesN_range {N : Nums} (hN : NumsOk N) (t : Ty) : 0 ≤ (nodesN N t).1 ∧ (nodesN N t).1 ≤ 2001:=by
 refine Ty.induct (p:=fun t => 0 ≤ (nodesN N t).1 ∧ (nodesN N t).1 ≤ 2001) (fun d n a c l ih => ?_) t
 rw [nodesN_mk]
 split
 ·match l,ih with
  | [],_ => simp
  | [x],_ => simp
  | [x,y],ih =>
   have h1:=ih x (by simp)
   have h2:=ih y (by simp)
   simp only [List.map_cons,List.map_nil]
   omega
  | x :: y :: z :: r,_ => simp
 ·split
  ·cases h : N n with
   | none => simp
   | some m => have:=hN n m h; simp only; omega
  ·simp
def hasN (N : Nums) : ByteArray → Bool:=fun s => (N s).isSome
theorem nodesN_has {l : List Dt} (N : Nums) (t : Ty) : okT l t → (nodesN N t).2 = hasV (hasN N) t:=by
 refine Ty.induct (p:=fun t => okT l t → (nodesN N t).2 = hasV (hasN N) t) (fun d n a c ts ih ht => ?_) t
 rw [nodesN_mk,hasV_mk]
 cases hp : isDo [112,97,105,114] d with
 | true =>
  obtain ⟨t0,t1,hargs⟩:=pair_args ht hp
  have hok:=okT_args ht
  simp only [Ty.args] at hargs hok
  subst hargs
  simp [ih t0 (by simp) (hok t0 (by simp)),ih t1 (by simp) (hok t1 (by simp))]
 | false =>
  simp only [Bool.false_eq_true,if_false]
  split
  ·unfold hasN
   cases N n <;> rfl
  ·rfl
structure SkAt (K : Sk) (l : List Dt) (L : List (ByteArray × Value)) (w : World) : Prop where
 blk : ∃ f,Blk w K.b (K.cells f) 90
 d : MapAt ofV w K.bD l.length (dTo l l.length)
 n : ∃ m,MapAt ofV w K.bN m L
 vals : ∀ s v,lookL L s = some v → ∃ m : Int,v = .int .i64 m ∧ 1 ≤ m ∧ m ≤ 2001
 ned : K.bD ≠ K.b
 nen : K.bN ≠ K.b
theorem numsOk {L : List (ByteArray × Value)} (h : ∀ s v,lookL L s = some v → ∃ m : Int,v = .int .i64 m ∧ 1 ≤ m ∧ m ≤ 2001) : NumsOk (numL L):=by
 intro s m hm
 unfold numL at hm
 cases hl : lookL L s with
 | none => rw [hl] at hm; cases hm
 | some v =>
  obtain ⟨m',rfl,h1⟩:=h s v hl
  rw [hl] at hm
  simp only [Option.some.injEq] at hm
  subst hm
  exact h1
section
variable {K : Sk} {l : List Dt} {L : List (ByteArray × Value)} {w w1 : World}
theorem SkAt.next (h : SkAt K l L w) (hb : Below w.heap.size w w1) : SkAt K l L w1:=by
 obtain ⟨f,hf⟩:=h.blk
 obtain ⟨m,hm⟩:=h.n
 exact ⟨⟨f,hf.below hb hf.lt⟩,h.d.next hb,⟨m,hm.next hb⟩,h.vals,h.ned,h.nen⟩
theorem SkAt.sm (h : SkAt K l L w) (hs : Sm K w w1) : SkAt K l L w1:=by
 obtain ⟨f,f',hf,hf',-⟩:=hs.flag
 obtain ⟨m,hm⟩:=h.n
 exact ⟨⟨f',hf'⟩,hs.map h.d h.ned,⟨m,hs.map hm h.nen⟩,h.vals,h.ned,h.nen⟩
theorem SkAt.same (h : SkAt K l L w) (hb : Below w.heap.size w w1) : Sm K w w1:=by
 obtain ⟨f,hf⟩:=h.blk
 exact Sm.of_below hf hb
end
theorem zeroInt (w : World) : (zeroValue 3).run Tryz.prog w = .ok (.int .i64 0) w:=by kernel_rfl
def SN (bt : Nat) (K : Sk) (s : ByteArray) (v : Value) (is : Bool) (W : World) : Prop:=
 W.cell? ⟨bt,1,none⟩ = some (.string s) ∧ bt < W.heap.size ∧ W.cell? ⟨K.b,3,none⟩ = some (.map (some K.bN)) ∧ K.b < W.heap.size ∧ (Instr.lookup 88 (.map (some K.bN)) (.string s) true).run Tryz.prog W = .ok (.tuple #[v,.bool is]) W
end Go.Proofs.YtjeggkfgdhepaaaGreatDoor

namespace Go.Proofs.YtjeggkfgdhepaaaGreatDoor
open Go.RowKit
open Go.Proofs
open Go.Maps
theorem num_look {L : List (ByteArray × Value)} (hv : ∀ s v,lookL L s = some v → ∃ m : Int,v = .int .i64 m ∧ 1 ≤ m ∧ m ≤ 2001) (s : ByteArray) : ((lookL L s).getD (.int .i64 0),(lookL L s).isSome) = (Value.int .i64 (match numL L s with | some m => m | none => 0),(numL L s).isSome):=by
 unfold numL
 cases hl : lookL L s with
 | none => rfl
 | some v =>
  obtain ⟨m,rfl,-⟩:=hv s v hl
  rfl
set_option maxRecDepth 100000 in
set_option maxHeartbeats 4000000 in
theorem nodes_any (K : Sk) (l : List Dt) (L : List (ByteArray × Value)) : ∀ (t : Ty) (w : World),okT l t → t.In w.heap.size w → SkAt K l L w →
  Calls Tryz.prog 87 #[K.val,t.val] w fun e w' => e = .returned (.tuple #[.int .i64 (nodesN (numL L) t).1,.bool (nodesN (numL L) t).2]) ∧ Below w.heap.size w w':=by
 refine Ty.induct fun d n A c ts ih w ht hin hsk => ?_
 have hmk:=nodesN_mk (numL L) d n A c ts
 have hnum:=numsOk hsk.vals
 have HNUM:=Lib.hid hnum
 have HSK:=Lib.hid hsk
 obtain ⟨hd,hn,hl,-,hrow,hall⟩:=Ty.In_mk.1 hin
 have HB0:=Lib.hid ((Below.refl w.heap.size w).alloc (Nat.le_refl _) (.cells #[.string d,.string n,.slice A ts.length c] 25))
 have HK:=Lib.hid (Blk.new w #[.string d,.string n,.slice A ts.length c] 25)
 obtain ⟨tp,hp⟩ : ∃ x,(d.toList == [112,97,105,114]) = x:=⟨_,rfl⟩
 obtain ⟨td,hdt⟩ : ∃ x,(d.toList == [100,97,116,97]) = x:=⟨_,rfl⟩
 unfold isDo at hmk
 rw [hp,hdt] at hmk
 cases tp
 case true =>
  obtain ⟨t0,t1,hargs⟩:=pair_args ht (show isDo [112,97,105,114] d = true from hp)
  have hok:=okT_args ht
  simp only [Ty.args] at hargs hok
  subst hargs
  obtain ⟨b1,o1,rfl,hb1,htc⟩:=two_tys hrow
  simp only [if_true,List.map_cons,List.map_nil] at hmk
  have HMK:=Lib.hid hmk
  have HC0:=Lib.hid (fun (W : World) (hW : Below w.heap.size w W) => ih t0 (by simp) W (hok t0 (by simp)) ((hall t0 (by simp)).next hW) (HSK.out.next hW))
  have HC1:=Lib.hid (fun (W : World) (hW : Below w.heap.size w W) => ih t1 (by simp) W (hok t1 (by simp)) ((hall t1 (by simp)).next hW) (HSK.out.next hW))
  have HTC:=Lib.hid htc
  obtain ⟨r0a,r0b⟩:=nodesN_range HNUM.out t0
  obtain ⟨r1a,r1b⟩:=nodesN_range HNUM.out t1
  clear hmk hin hsk hrow hall htc hok ih ht
  generalize nodesN (numL L) (.mk d n (some ⟨b1,o1,none⟩) c [t0,t1]) = res at HMK ⊢
  generalize nodesN (numL L) t0 = a0 at HMK HC0 r0a r0b
  generalize nodesN (numL L) t1 = a1 at HMK HC1 r1a r1b
  obtain ⟨m0,k0⟩:=a0
  obtain ⟨m1,k1⟩:=a1
  simp only at r0a r0b r1a r1b HMK HC0 HC1
  obtain ⟨y0,y1,y2,y3,y4,y5⟩:=HTC.out _ HB0.out
  have hb1' : b1 < (w.alloc (.cells #[.string d,.string n,.slice (some ⟨b1,o1,none⟩) 2 c] 25)).heap.size:=by simp; omega
  have h1 : wrap64 (m0 + m1) = m0 + m1:=by unfold wrap64; omega
  have h2 : wrap64 (m0 + m1 + 1) = m0 + m1 + 1:=by unfold wrap64; omega
  unfold Sk.val Ty.val
  simp only [List.length_cons,List.length_nil,Nat.zero_add,Nat.reduceAdd] at HB0 HK y0 y1 y2 y3 y4 y5 hb1' hl
  simp only [Ty.dof,Ty.name,Ty.at_,Ty.cap,Ty.args,List.length_cons,List.length_nil,Nat.zero_add,Nat.reduceAdd]
  unfold Sk.val Ty.val at HC0 HC1
  go_enter Tryz.func87,Tryz.ntmps87
  go_wp2_with fail
  refine Calls.mono (HC0.out _ HB0.out) ?_
  rintro e w1 ⟨rfl,hb1⟩
  have HB1:=Lib.hid (HB0.out.trans (hb1.mono HB0.out.size))
  have HK1:=Lib.hid (HK.out.below hb1 HK.out.lt)
  obtain ⟨x0,x1,x2⟩:=HK1.out.three
  have xl:=HK1.out.lt
  clear hb1 y0 y1 y2 y3 y4 y5 hb1'
  obtain ⟨y0,y1,y2,y3,y4,y5⟩:=HTC.out _ HB1.out
  have hb1' : b1 < w1.heap.size:=by have:=HB1.out.size; omega
  go_wp2_with fail
  refine Calls.mono (HC1.out _ HB1.out) ?_
  rintro e w2 ⟨rfl,hb2⟩
  have HB2:=Lib.hid (HB1.out.trans (hb2.mono HB1.out.size))
  clear hb2 y0 y1 y2 y3 y4 y5 hb1' x0 x1 x2 xl
  cases k0
  all_goals
   go_wp2_with fail
   go_ret2
   refine ⟨?_,HB2.out⟩
   rw [HMK.out]
   simp
 case false =>
  simp only [Bool.false_eq_true,if_false] at hmk
  cases td
  case true =>
   simp only [if_true] at hmk
   have hlk:=num_look hsk.vals n
   simp only [Prod.mk.injEq] at hlk
   obtain ⟨v,hv⟩ : ∃ v : Int,(match numL L n with | some m => m | none => 0) = v:=⟨_,rfl⟩
   obtain ⟨is,his⟩ : ∃ b,(numL L n).isSome = b:=⟨_,rfl⟩
   have HRES:=Lib.hid (show nodesN (numL L) (.mk d n A c ts) = (v,is) by
    rw [hmk,← hv,← his]
    cases numL L n <;> rfl)
   have hbox : ∀ W,Below (w.alloc (.cells #[.string d,.string n,.slice A ts.length c] 25)).heap.size (w.alloc (.cells #[.string d,.string n,.slice A ts.length c] 25)) W → SN w.heap.size K n (.int .i64 v) is W:=fun W hW => by
    have k1:=HK.out.below hW HK.out.lt
    have hw1 : Below w.heap.size w W:=HB0.out.trans (hW.mono HB0.out.size)
    have hs:=HSK.out.next hw1
    obtain ⟨f,hf⟩:=hs.blk
    obtain ⟨m,hm⟩:=hs.n
    refine ⟨k1.cell 1,k1.lt,hf.cell 3,hf.lt, ?_⟩
    have h9:=map_look_gen true Tryz.underlying88 (zeroInt W) hm n hn
    rw [hlk.1,hlk.2,hv,his] at h9
    exact h9
   have HBOX:=Lib.hid hbox
   generalize nodesN (numL L) (.mk d n A c ts) = res at HRES ⊢
   clear hmk hsk hrow hall hin ih ht hlk hbox hv his
   unfold Sk.val Ty.val
   simp only [Ty.dof,Ty.name,Ty.at_,Ty.cap,Ty.args]
   go_enter Tryz.func87,Tryz.ntmps87
   go_wp2_with fail
   generalize w.alloc (.cells #[.string d,.string n,.slice A ts.length c] 25) = w0 at HB0 HBOX ⊢
   refine region_mix (SN w.heap.size K n (.int .i64 v) is) [(0,true),(1,true),(2,true),(3,true),(4,true),(5,true),(6,true),(7,true),(8,true),(9,true),(10,false),(11,false)] 11 (by kernel_rfl) (by kernel_rfl) (HBOX.out _ (Below.refl _ _).drew) ?_
   simp only [pickM,List.filterMap_cons,List.getElem?_cons_zero,List.getElem?_cons_succ,List.filterMap_nil,Option.map_some]
   repeat
    refine wpMix_read ?_ (by rfl) (fun W hW => ?_) ?_
    rotate_left
    ·unfold SN at hW
     go_simp
     try with_reducible rfl
    simp only [Act.put,List.setIfInBounds_toArray,List.set_cons_zero,List.set_cons_succ]
   iterate 2
    refine wpMix_step rfl (fun K hK => ?_)
    go_simp
    refine hK _ _ (fun _ => HBOX.out _ (Below.refl _ _).drew) ?_
    clear hK K
   refine wpMix_nil ?_
   refine NoPanic.normal ?_
   go_wp2_with fail
   go_ret2
   exact ⟨by rw [HRES.out]; rfl,HB0.out.drew⟩
  case false =>
   simp only [Bool.false_eq_true,if_false] at hmk
   rw [hmk]
   unfold Sk.val Ty.val
   simp only [Ty.dof,Ty.name,Ty.at_,Ty.cap,Ty.args]
   clear hmk hsk hrow hall hin ih ht
   go_enter Tryz.func87,Tryz.ntmps87
   go_wp2_with fail
   go_ret2
   exact ⟨rfl,HB0.out⟩
set_option maxRecDepth 100000 in
set_option maxHeartbeats 2000000 in
theorem conNodes_any (K : Sk) (l : List Dt) (L : List (ByteArray × Value)) (cn : Cn) (w : World) (hok : cn.has = true → okT l cn.ty) (hin : cn.In w.heap.size w) (hsk : SkAt K l L w) :
  Calls Tryz.prog 118 #[K.val,cn.val] w fun e w' => e = .returned (.tuple #[.int .i64 (conN (numL L) cn).1,.bool (conN (numL L) cn).2]) ∧ Below w.heap.size w w':=by
 have HB0:=Lib.hid ((Below.refl w.heap.size w).alloc (Nat.le_refl _) (.cells #[.string cn.name,.bool cn.has,.string cn.ty.dof,.string cn.ty.name,.slice cn.ty.at_ cn.ty.args.length cn.ty.cap] 117))
 have HC:=Lib.hid (fun (hh : cn.has = true) (W : World) (hW : Below w.heap.size w W) => nodes_any K l L cn.ty W (hok hh) (hin.2.next hW) (hsk.next hW))
 have hr:=nodesN_range (numsOk hsk.vals) cn.ty
 clear hin hsk hok
 unfold conN Cn.val at *
 generalize nodesN (numL L) cn.ty = a at HC hr ⊢
 obtain ⟨m,k⟩:=a
 simp only at hr HC ⊢
 have h1 : wrap64 (m + 1) = m + 1:=by unfold wrap64; omega
 unfold Sk.val Ty.val at *
 cases hh : cn.has
 case false =>
  rw [hh] at HB0
  go_enter Tryz.func118,Tryz.ntmps118
  go_wp2_with fail
  go_ret2
  exact ⟨rfl,HB0.out⟩
 case true =>
  rw [hh] at HB0
  have HC1:=Lib.hid (HC.out hh)
  go_enter Tryz.func118,Tryz.ntmps118
  go_wp2_with fail
  refine Calls.mono (HC1.out _ HB0.out) ?_
  rintro e w1 ⟨rfl,hb1⟩
  have HB1:=Lib.hid (HB0.out.trans (hb1.mono HB0.out.size))
  clear hb1
  go_wp2_with fail
  go_ret2
  exact ⟨by simp,HB1.out⟩
end Go.Proofs.YtjeggkfgdhepaaaGreatDoor

namespace Go.Proofs.YtjeggkfgdhepaaaGreatDoor
open Go.RowKit
open Go.Proofs
structure Fm where
 form : Form
 at_ : Option Addr
 cap : Nat
def Fm.cells (f : Fm) : List Value:=[.string f.form.dof,.string f.form.name,.int .i64 f.form.num,.slice none 0 0,.slice f.at_ f.form.types.length f.cap]
def Fm.val (f : Fm) : Value:=.agg #[.string f.form.dof,.string f.form.name,.int .i64 f.form.num,.slice none 0 0,.slice f.at_ f.form.types.length f.cap]
def Fm.rt (f : Fm) : Rt:=⟨f.at_,f.cap,f.form.types⟩
theorem tail_in {B : Nat} {w : World} {b o c : Nat} {p : Pt} {ps : List Pt} (h : Rw.In B w ⟨some ⟨b,o,none⟩,c,p :: ps⟩) : Rw.In B w ⟨if c = 1 then some ⟨b,o,none⟩ else some ⟨b,o + 4,none⟩,c - 1,ps⟩:=by
 obtain ⟨h1,h2,h3,h4⟩:=h
 simp only [List.length_cons] at h3
 refine ⟨fun hlen => ?_,fun q hq => h2 q (by simp [hq]),by simp only; omega,by simp only at h4 ⊢; omega⟩
 simp only [List.length_map] at hlen
 obtain ⟨b',o',he,hb,hc⟩:=h1 (by simp)
 simp only [Option.some.injEq,Addr.mk.injEq,and_true] at he
 obtain ⟨rfl,rfl⟩:=he
 have hc1 : c ≠ 1:=by omega
 refine ⟨b,o + 4,by simp [hc1],hb,fun i x hi j v hj => ?_⟩
 have:=hc (i + 1) x (by simpa using hi) j v hj
 rw [show o + 4 + i * 4 + j = o + (i + 1) * 4 + j by omega]
 exact this
theorem cells_anys (k : Nat) : (List.replicate (k + 1) anyPt) = List.replicate k anyPt ++ [anyPt]:=by rw [List.replicate_succ']
def OpenPost (w : World) (o : Option (List Pt)) (e : Ending) (w' : World) : Prop:=Below w.heap.size w w' ∧ match o with
 | some ps => ∃ v,e = .returned (.tuple #[v,.bool true]) ∧ PatsO w.heap.size w' v ps
 | none => e = .returned (.tuple #[.slice none 0 0,.bool false])
theorem OpenPost.no {w w' : World} {o : Option (List Pt)} (hb : Below w.heap.size w w') (h : o = none) : OpenPost w o (.returned (.tuple #[.slice none 0 0,.bool false])) w':=by subst h; exact ⟨hb,rfl⟩
theorem OpenPost.yes {w w' : World} {o : Option (List Pt)} {v : Value} {ps : List Pt} (hb : Below w.heap.size w w') (h : o = some ps) (hv : PatsO w.heap.size w' v ps) : OpenPost w o (.returned (.tuple #[v,.bool true])) w':=by subst h; exact ⟨hb,v,rfl,hv⟩
theorem two_cells (w : World) (v1 v2 : Value) (T : TypeId) : RowAt (w.alloc (.cells #[v1,v2] T)).heap.size (w.alloc (.cells #[v1,v2] T)) 1 (some ⟨w.heap.size,0,none⟩) [[v1],[v2]]:=by
 intro _
 have hb : Blk (w.alloc (.cells #[v1,v2] T)) w.heap.size #[v1,v2] T:=Blk.new w _ _
 refine ⟨w.heap.size,0,rfl,by simp,fun i x hi j v hj => ?_⟩
 match i,hi with
 | 0,hi =>
  simp only [List.getElem?_cons_zero,Option.some.injEq] at hi
  subst hi
  match j,hj with
  | 0,hj =>
   simp only [List.getElem?_cons_zero,Option.some.injEq] at hj
   subst hj
   exact hb.cell 0
  | j + 1,hj => simp at hj
 | 1,hi =>
  simp only [List.getElem?_cons_succ,List.getElem?_cons_zero,Option.some.injEq] at hi
  subst hi
  match j,hj with
  | 0,hj =>
   simp only [List.getElem?_cons_zero,Option.some.injEq] at hj
   subst hj
   exact hb.cell 1
  | j + 1,hj => simp at hj
 | i + 2,hi => simp at hi
theorem own_cap {w : World} {B n size c : Nat} {e : TypeId} {A : Option Addr} {xs : List Value} (h : w.ownsRow B e size (.slice A n c) n xs) : n ≤ c ∧ (A = none → c = 0) ∧ c ≤ maxLen:=by
 rcases h.2 with ⟨he,hn⟩ | ⟨g,cap,cur,he,-,-,hcap,hmax,-⟩
 ·simp only [Value.slice.injEq] at he
  obtain ⟨rfl,rfl,rfl⟩:=he
  exact ⟨Nat.le_refl _,fun _ => rfl,by unfold maxLen; omega⟩
 ·simp only [Value.slice.injEq] at he
  obtain ⟨rfl,-,rfl⟩:=he
  exact ⟨hcap,fun h => (by cases h),hmax⟩
theorem PatsO.in_ {B : Nat} {w : World} {A : Option Addr} {c : Nat} {ps : List Pt} (h : w.ownsRow B 28 4 (.slice A ps.length c) ps.length ((ps.map Pt.cells).flatten)) (hall : ∀ p ∈ ps,p.In w.heap.size w) : Rw.In w.heap.size w ⟨A,c,ps⟩:=
 ⟨PatsO.row h,hall,(own_cap h).1,by have:=(own_cap h).2.2; unfold maxLen at this; exact this⟩
theorem anyPt_in (B : Nat) (w : World) : anyPt.In B w:=by
 unfold anyPt
 rw [Pt.In_mk]
 exact ⟨by decide,by decide,⟨by decide,by decide⟩,by simp,⟨by simp,fun _ => rfl⟩,fun h => by simp at h,fun t ht => by cases ht⟩
theorem PatsO.wider {B B' : Nat} {w : World} {v : Value} {l : List Pt} (h : PatsO B w v l) (hB : B' ≤ B) : PatsO B' w v l:=by
 obtain ⟨A,c,rfl,h⟩:=h
 refine ⟨A,c,rfl,h.1, ?_⟩
 rcases h.2 with hn | ⟨g,cap,cur,e,hb,rest⟩
 ·exact .inl hn
 ·exact .inr ⟨g,cap,cur,e,by omega,rest⟩
set_option maxRecDepth 100000 in
set_option maxHeartbeats 8000000 in
theorem opened_any (f : Fm) (b o c : Nat) (p : Pt) (ps : List Pt) (w : World) (hf : f.form.types.length ≤ 2) (hfi : Rt.In w.heap.size w f.rt) (h : Rw.In w.heap.size w ⟨some ⟨b,o,none⟩,c,p :: ps⟩) (hlen : p.args.length + ps.length ≤ 999990) (hpc : p.cap ≤ 9223372036854775807) :
  Calls Tryz.prog 90 #[f.val,.slice (some ⟨b,o,none⟩) (ps.length + 1) c] w (OpenPost w (opened f.form (p :: ps))):=by
 have HTAIL:=Lib.hid (tail_in h)
 have H:=Lib.hid h
 have HP:=Lib.hid (h.2.1 p (by simp))
 have hcle : ps.length + 1 ≤ c:=by have:=h.2.2.1; simpa using this
 obtain ⟨b',o',he,hb,hcell⟩:=h.1 (by simp)
 simp only [Option.some.injEq,Addr.mk.injEq,and_true] at he
 obtain ⟨rfl,rfl⟩:=he
 have hc0:=hcell 0 p.cells rfl
 have x0:=hc0 0 _ rfl
 have x1:=hc0 1 _ rfl
 have x2:=hc0 2 _ rfl
 have x3:=hc0 3 _ rfl
 simp only [Nat.zero_mul,Nat.add_zero] at x0 x1 x2 x3
 have HOC:=Lib.hid (opened_cons f.form p ps)
 generalize hres : opened f.form (p :: ps) = res at HOC ⊢
 obtain ⟨i0,hi,hz0,hz1,hz2⟩:=info_parts infoPat
 have HB0:=Lib.hid ((((Below.refl w.heap.size w).alloc (Nat.le_refl _) (.cells #[.string f.form.dof,.string f.form.name,.int .i64 f.form.num,.slice none 0 0,.slice f.at_ f.form.types.length f.cap] 138))).alloc (by simp) (.cells #[.string p.dof,.string p.name,.int .i64 p.num,.slice p.at_ p.args.length p.cap] 28))
 have K1:=Lib.hid ((Blk.new w #[.string f.form.dof,.string f.form.name,.int .i64 f.form.num,.slice none 0 0,.slice f.at_ f.form.types.length f.cap] 138).alloc (.cells #[.string p.dof,.string p.name,.int .i64 p.num,.slice p.at_ p.args.length p.cap] 28))
 have K2:=Lib.hid (Blk.new' (w.alloc (.cells #[.string f.form.dof,.string f.form.name,.int .i64 f.form.num,.slice none 0 0,.slice f.at_ f.form.types.length f.cap] 138)) #[.string p.dof,.string p.name,.int .i64 p.num,.slice p.at_ p.args.length p.cap] 28 (w.heap.size + 1) (by simp))
 have HCW:=Lib.hid (fun W => isWild_any p W)
 have HLEN:=Lib.hid hlen
 have HPC:=Lib.hid hpc
 have hc : c ≤ 9223372036854775807:=h.2.2.2
 -- what follows once the Args are there
 have HCAT:=Lib.hid (fun (W : World) (hW : Below w.heap.size w W) (A1 : Option Addr) (c1 : Nat) (as1 : List Pt) (h1 : Rw.In W.heap.size W ⟨A1,c1,as1⟩) (hn1 : A1 = none → c1 = 0) (hl1 : as1.length + ps.length ≤ 1000000) (A2 : Option Addr) (hA2 : A2 = (if c = 1 then some ⟨b,o,none⟩ else some ⟨b,o + 4,none⟩)) =>
  (show Calls Tryz.prog 122 #[.slice (some ⟨W.heap.size,0,none⟩) 2 2] (W.alloc (.cells #[.slice A1 as1.length c1,.slice A2 ps.length (c - 1)] 26)) fun e w' => Below (W.alloc (.cells #[.slice A1 as1.length c1,.slice A2 ps.length (c - 1)] 26)).heap.size (W.alloc (.cells #[.slice A1 as1.length c1,.slice A2 ps.length (c - 1)] 26)) w' ∧ ∃ v,e = .returned v ∧ PatsO (W.alloc (.cells #[.slice A1 as1.length c1,.slice A2 ps.length (c - 1)] 26)).heap.size w' v (as1 ++ ps) by
   subst hA2
   have hb9:=(Below.refl W.heap.size W).alloc (Nat.le_refl _) (.cells #[.slice A1 as1.length c1,.slice (if c = 1 then some ⟨b,o,none⟩ else some ⟨b,o + 4,none⟩) ps.length (c - 1)] 26)
   have ht:=((HTAIL.out.keep hW).wider hW.size).keep hb9
   have:=concatP_any (some ⟨W.heap.size,0,none⟩) [⟨A1,c1,as1⟩,⟨if c = 1 then some ⟨b,o,none⟩ else some ⟨b,o + 4,none⟩,c - 1,ps⟩] 2 (W.alloc (.cells #[.slice A1 as1.length c1,.slice (if c = 1 then some ⟨b,o,none⟩ else some ⟨b,o + 4,none⟩) ps.length (c - 1)] 26)) ⟨two_cells W _ _ _,fun r hr => by
    simp only [List.mem_cons,List.not_mem_nil,or_false] at hr
    rcases hr with rfl | rfl
    ·exact (h1.keep hb9).wider hb9.size
    ·exact ht.wider hb9.size,by simp⟩ (fun r hr hno => by
    simp only [List.mem_cons,List.not_mem_nil,or_false] at hr
    rcases hr with rfl | rfl
    ·exact hn1 hno
    ·simp only at hno; split at hno <;> cases hno) (by simp; omega)
   simpa using this))
 clear h hcell hc0 hlen
 have HPP:=Lib.hid (show p.args.length ≤ 1099511627776 ∧ RowAt w.heap.size w 4 p.at_ (p.args.map Pt.cells) ∧ (∀ q ∈ p.args,q.In w.heap.size w) ∧ p.args.length ≤ p.cap ∧ (p.at_ = none → p.cap = 0) by
  have h9:=HP.out
  obtain ⟨d9,s9,n9,a9,c9,l9⟩:=p
  obtain ⟨-,-,-,k1,k2,k3,k4⟩:=Pt.In_mk.1 h9
  exact ⟨k1,k3,k4,k2.1,k2.2⟩)
 unfold Fm.val
 unfold Pt.val at HCW
 go_enter Tryz.func90,Tryz.ntmps90
 go_upto_block 0 with (fail)
 generalize ((w.alloc (.cells #[.string f.form.dof,.string f.form.name,.int .i64 f.form.num,.slice none 0 0,.slice f.at_ f.form.types.length f.cap] 138)).alloc (.cells #[.string p.dof,.string p.name,.int .i64 p.num,.slice p.at_ p.args.length p.cap] 28)) = w0 at HB0 K1 K2 ⊢
 go_cut [7] (fun av wx => ∃ (A1 : Option Addr) (c1 : Nat) (as1 : List Pt),av = .slice A1 as1.length c1 ∧ Hid (res = some (as1 ++ ps)) ∧ Hid (Rw.In wx.heap.size wx ⟨A1,c1,as1⟩) ∧ Hid (A1 = none → c1 = 0) ∧ Hid (as1.length + ps.length ≤ 1000000) ∧ Hid (Below w.heap.size w wx))
 case first =>
  obtain ⟨y0,y1,y2,y3,y4⟩:=K1.out.five
  obtain ⟨z0,z1,z2,z3⟩:=K2.out.four
  have yl:=K1.out.lt
  have zl:=K2.out.lt
  cases hw : wildD p.dof
  case true =>
   rw [hw] at HOC HCW
   simp only [if_true] at HOC
   generalize hk9 : f.form.types.length = k at *
   go_wp2_with fail
   refine Calls.mono (HCW.out _) ?_
   rintro e w1 ⟨rfl,hb1⟩
   have HB1:=Lib.hid (HB0.out.trans (hb1.mono HB0.out.size))
   have K11:=Lib.hid (K1.out.below hb1 K1.out.lt)
   clear hb1 y0 y1 y2 y3 y4 yl z0 z1 z2 z3 zl
   obtain ⟨y0,y1,y2,y3,y4⟩:=K11.out.five
   have yl:=K11.out.lt
   go_wp2_with fail
   obtain ⟨wx,rfl⟩ : ∃ wx : World,wx = w1:=⟨_,rfl⟩
   go_loopw [19,7] (fun iv av wr => ∃ (j : Nat) (Aj : Option Addr) (cj : Nat),iv = .int .i64 j ∧ j ≤ k ∧ av = .slice Aj j cj ∧ Hid (Below w.heap.size w wr) ∧ Hid (wr.ownsRow w.heap.size 28 4 (.slice Aj j cj) j (((List.replicate j anyPt).map Pt.cells).flatten))) (fun iv _ _ => k - (intOf iv).toNat)
   case atStart => exact ⟨0,none,0,rfl,Nat.zero_le _,rfl,HB1.out,World.ownsRow_nil _ _ _ _⟩
   case round =>
    obtain ⟨j,Aj,cj,rfl,hj,rfl,HB,HO⟩:=hrel
    have hs0:=HB.out.size
    by_cases hlt : j < k
    ·go_wp2_with (at_builtin; go_must (refine wpList_append_own_at _ rfl (.tmp 21) (.tmp 23) 26 rfl w.heap.size 28 i0 _ 4 64 Tryz.underlying26 hi hz0 hz1 hz2 rfl (by decide) (.slice Aj j cj) j (((List.replicate j anyPt).map Pt.cells).flatten) rfl ?hown ⟨wr.heap.size,0,none⟩ 1 1 anyPt.cells rfl rfl ?c1 ?c2 ?c3 ?c4 ?c5 ?_))
     case hown => exact World.ownsRow.alloc HO.out _
     case c1 => exact World.news_of_block (heap_alloc_new wr _)
     case c2 => simp [Value.oneCell',Pt.cells]
     case c3 => unfold maxLen; omega
     case c4 => omega
     case c5 => first | omega | (simp; omega)
     intro v' w2 hown hgrow _ _
     obtain ⟨A2,c2,rfl,-⟩:=row_slice hown
     have HB2:=Lib.hid ((HB.out.alloc hs0 (.cells #[.string ⟨#[97,110,121]⟩,.string ⟨#[]⟩,.int .i64 0,.slice none 0 0] 28)).grown hgrow (by simp; omega) (fun i hi => (HO.out.lt i hi).1))
     have HO2:=Lib.hid hown
     clear hown hgrow
     go_wp2_with fail
     refine ⟨⟨j + 1,A2,c2,by go_num,by omega,rfl,HB2.out,Lib.hid ?_⟩,by simp [intOf]; omega⟩
     rw [cells_anys,List.map_append,List.flatten_append]
     simpa using HO2.out
    ·have hj2 : j = k:=by omega
     subst hj2
     have HL2:=Lib.hid (show (List.replicate j anyPt).length + ps.length ≤ 1000000 by have:=HLEN.out; simp; omega)
     have hcj:=own_cap HO.out
     have HRW:=Lib.hid (PatsO.in_ (A:=Aj) (c:=cj) (ps:=List.replicate j anyPt) (w:=wr) (B:=w.heap.size) (by simpa using HO.out) (fun q hq => by rw [List.eq_of_mem_replicate hq]; exact anyPt_in _ _))
     have HNO:=Lib.hid hcj.2.1
     clear hcj
     go_wp2_with fail
     go_meet
     exact ⟨Aj,cj,List.replicate j anyPt,by simp,HOC.out,HRW.out,HNO.out,HL2.out,HB.out⟩
  case false =>
   rw [hw] at HOC HCW
   simp only [Bool.false_eq_true,if_false] at HOC
   obtain ⟨b1,h1⟩ : ∃ x,(p.dof.toList == f.form.dof.toList) = x:=⟨_,rfl⟩
   obtain ⟨b2,h2⟩ : ∃ x,(p.name.toList == f.form.name.toList) = x:=⟨_,rfl⟩
   obtain ⟨b3,h3⟩ : ∃ x,(p.num == f.form.num) = x:=⟨_,rfl⟩
   have h1':=bne_of h1
   have h2':=bne_of h2
   have h3' : (p.num != f.form.num) = !b3:=by rw [bne,h3]
   have HIS:=Lib.hid (show f.form.is p = (b1 && (b2 && b3)) by unfold Form.is; rw [h1,h2,h3])
   cases b1
   case false =>
    have HR:=Lib.hid (show res = none by rw [HOC.out,HIS.out]; rfl)
    go_wp2_with fail
    refine Calls.mono (HCW.out _) ?_
    rintro e w1 ⟨rfl,hb1⟩
    have HB1:=Lib.hid (HB0.out.trans (hb1.mono HB0.out.size))
    have K11:=Lib.hid (K1.out.below hb1 K1.out.lt)
    have K21:=Lib.hid (K2.out.below hb1 K2.out.lt)
    clear hb1 y0 y1 y2 y3 y4 yl z0 z1 z2 z3 zl
    obtain ⟨y0,y1,y2,y3,y4⟩:=K11.out.five
    obtain ⟨z0,z1,z2,z3⟩:=K21.out.four
    have yl:=K11.out.lt
    have zl:=K21.out.lt
    go_wp2_with fail
    exact bodyPost_ret (v:=.tuple #[.slice none 0 0,.bool false]) (by simp [results,Tryz.results90,go_sem]) rfl (OpenPost.no HB1.out HR.out)
   cases b2
   case false =>
    have HR:=Lib.hid (show res = none by rw [HOC.out,HIS.out]; rfl)
    go_wp2_with fail
    refine Calls.mono (HCW.out _) ?_
    rintro e w1 ⟨rfl,hb1⟩
    have HB1:=Lib.hid (HB0.out.trans (hb1.mono HB0.out.size))
    have K11:=Lib.hid (K1.out.below hb1 K1.out.lt)
    have K21:=Lib.hid (K2.out.below hb1 K2.out.lt)
    clear hb1 y0 y1 y2 y3 y4 yl z0 z1 z2 z3 zl
    obtain ⟨y0,y1,y2,y3,y4⟩:=K11.out.five
    obtain ⟨z0,z1,z2,z3⟩:=K21.out.four
    have yl:=K11.out.lt
    have zl:=K21.out.lt
    go_wp2_with fail
    exact bodyPost_ret (v:=.tuple #[.slice none 0 0,.bool false]) (by simp [results,Tryz.results90,go_sem]) rfl (OpenPost.no HB1.out HR.out)
   cases b3
   case false =>
    have HR:=Lib.hid (show res = none by rw [HOC.out,HIS.out]; rfl)
    go_wp2_with fail
    refine Calls.mono (HCW.out _) ?_
    rintro e w1 ⟨rfl,hb1⟩
    have HB1:=Lib.hid (HB0.out.trans (hb1.mono HB0.out.size))
    have K11:=Lib.hid (K1.out.below hb1 K1.out.lt)
    have K21:=Lib.hid (K2.out.below hb1 K2.out.lt)
    clear hb1 y0 y1 y2 y3 y4 yl z0 z1 z2 z3 zl
    obtain ⟨y0,y1,y2,y3,y4⟩:=K11.out.five
    obtain ⟨z0,z1,z2,z3⟩:=K21.out.four
    have yl:=K11.out.lt
    have zl:=K21.out.lt
    go_wp2_with fail
    exact bodyPost_ret (v:=.tuple #[.slice none 0 0,.bool false]) (by simp [results,Tryz.results90,go_sem]) rfl (OpenPost.no HB1.out HR.out)
   case true =>
    have HR:=Lib.hid (show res = some (p.args ++ ps) by rw [HOC.out,HIS.out]; rfl)
    go_wp2_with fail
    refine Calls.mono (HCW.out _) ?_
    rintro e w1 ⟨rfl,hb1⟩
    have HB1:=Lib.hid (HB0.out.trans (hb1.mono HB0.out.size))
    have K11:=Lib.hid (K1.out.below hb1 K1.out.lt)
    have K21:=Lib.hid (K2.out.below hb1 K2.out.lt)
    clear hb1 y0 y1 y2 y3 y4 yl z0 z1 z2 z3 zl
    obtain ⟨y0,y1,y2,y3,y4⟩:=K11.out.five
    obtain ⟨z0,z1,z2,z3⟩:=K21.out.four
    have yl:=K11.out.lt
    have zl:=K21.out.lt
    have HRW:=Lib.hid (show Rw.In w1.heap.size w1 ⟨p.at_,p.cap,p.args⟩ from Rw.In.wider (Rw.In.keep (w:=w) (B:=w.heap.size) (r:=⟨p.at_,p.cap,p.args⟩) ⟨HPP.out.2.1,HPP.out.2.2.1,HPP.out.2.2.2.1,HPC.out⟩ HB1.out) HB1.out.size)
    have HL2:=Lib.hid (show p.args.length + ps.length ≤ 1000000 by have:=HLEN.out; omega)
    go_wp2_with fail
    go_meet
    exact ⟨p.at_,p.cap,p.args,rfl,HR.out,HRW.out,HPP.out.2.2.2.2,HL2.out,HB1.out⟩
 case rest =>
  obtain ⟨A1,c1,as1,rfl,HRES,H1,HN1,HL1,HBX⟩:=hcut
  by_cases hc1 : c = 1
  ·subst hc1
   have hps : ps = []:=List.eq_nil_of_length_eq_zero (by omega)
   subst hps
   have hcc:=HCAT.out wc HBX.out A1 c1 as1 H1.out HN1.out HL1.out (some ⟨b,o,none⟩) (by simp)
   simp only [Nat.sub_self,List.length_nil] at hcc
   have HCC:=Lib.hid hcc
   clear hcc
   have HBY:=Lib.hid (HBX.out.alloc HBX.out.size (.cells #[.slice A1 as1.length c1,.slice (some ⟨b,o,none⟩) 0 0] 26))
   go_wp2_with fail
   refine Calls.mono HCC.out ?_
   rintro e w2 ⟨hb2,v,rfl,hv⟩
   have HB2:=Lib.hid (HBY.out.trans (hb2.mono HBY.out.size))
   have HV:=Lib.hid (PatsO.wider hv HBY.out.size)
   clear hb2 hv
   go_wp2_with fail
   exact bodyPost_ret (v:=.tuple #[v,.bool true]) (by simp [results,Tryz.results90,go_sem]) rfl (OpenPost.yes HB2.out HRES.out HV.out)
  ·have HCC:=Lib.hid (HCAT.out wc HBX.out A1 c1 as1 H1.out HN1.out HL1.out (some ⟨b,o + 4,none⟩) (by simp [hc1]))
   have HBY:=Lib.hid (HBX.out.alloc HBX.out.size (.cells #[.slice A1 as1.length c1,.slice (some ⟨b,o + 4,none⟩) ps.length (c - 1)] 26))
   go_wp2_with fail
   refine Calls.mono HCC.out ?_
   rintro e w2 ⟨hb2,v,rfl,hv⟩
   have HB2:=Lib.hid (HBY.out.trans (hb2.mono HBY.out.size))
   have HV:=Lib.hid (PatsO.wider hv HBY.out.size)
   clear hb2 hv
   go_wp2_with fail
   exact bodyPost_ret (v:=.tuple #[v,.bool true]) (by simp [results,Tryz.results90,go_sem]) rfl (OpenPost.yes HB2.out HRES.out HV.out)
end Go.Proofs.YtjeggkfgdhepaaaGreatDoor

namespace Go.Proofs.YtjeggkfgdhepaaaGreatDoor
open Go.RowKit
open Go.Proofs
def FmSize (f : Form) : Prop:=f.dof.size ≤ 1099511627776 ∧ f.name.size ≤ 1099511627776 ∧ -9223372036854775808 ≤ f.num ∧ f.num ≤ 9223372036854775807
def FormsPost (l : List Dt) (t : Ty) (col : List Pt) (w : World) (e : Ending) (w' : World) : Prop:=Below w.heap.size w w' ∧ ∃ (A : Option Addr) (c : Nat) (fms : List Fm),e = .returned (.slice A fms.length c) ∧ RowAt w'.heap.size w' 5 A (fms.map Fm.cells) ∧
 (∀ f ∈ fms,Rt.In w'.heap.size w' f.rt ∧ (f.at_ = none → f.cap = 0) ∧ f.form.types.length ≤ 2 ∧ FmSize f.form) ∧ fms.length ≤ 4194304 ∧ IsForms l t col (fms.map Fm.form)
theorem rt_nil (B : Nat) (w : World) : Rt.In B w ⟨none,0,[]⟩:=⟨fun h => by simp at h,fun p hp => (by cases hp),Nat.le_refl _,by simp⟩
theorem forms_row {w : World} {g : Nat} {T : TypeId} : ∀ (fms : List Fm) (o : Nat) (pre post : List Value),pre.length = o → Blk w g (pre ++ (fms.map Fm.cells).flatten ++ post).toArray T → RowAt w.heap.size w 5 (some ⟨g,o,none⟩) (fms.map Fm.cells):=by
 intro fms o pre post ho hb _
 refine ⟨g,o,rfl,hb.lt,fun i x hi j v hj => ?_⟩
 rw [hb.cell]
 rw [List.getElem?_map] at hi
 obtain ⟨f,hf,rfl⟩:=Option.map_eq_some_iff.1 hi
 have hjl : j < 5:=by have:=(List.getElem?_eq_some_iff.1 hj).1; simpa [Fm.cells] using this
 have key : ∀ (l : List Fm) (i : Nat),l[i]? = some f → ((l.map Fm.cells).flatten)[i * 5 + j]? = some v:=by
  intro l
  induction l with
  | nil => intro i h; simp at h
  | cons y l ih =>
   intro i h
   rw [List.map_cons,List.flatten_cons]
   cases i with
   | zero =>
    simp only [List.getElem?_cons_zero,Option.some.injEq] at h
    subst h
    rw [Nat.zero_mul,Nat.zero_add,List.getElem?_append_left (by simp [Fm.cells]; omega)]
    exact hj
   | succ i =>
    simp only [List.getElem?_cons_succ] at h
    rw [List.getElem?_append_right (by simp [Fm.cells]; omega)]
    rw [show (i + 1) * 5 + j - y.cells.length = i * 5 + j by simp [Fm.cells]; omega]
    exact ih i h
 have hk:=key fms i hf
 have hlt:=(List.getElem?_eq_some_iff.1 hk).1
 rw [List.getElem?_toArray,List.getElem?_append_left (by rw [List.length_append]; omega),List.getElem?_append_right (by omega),show o + i * 5 + j - pre.length = i * 5 + j by omega]
 exact hk
set_option maxRecDepth 100000 in
set_option maxHeartbeats 4000000 in
theorem forms_pair (v : Value) (l : List Dt) (t : Ty) (Ac : Option Addr) (col : List Pt) (cc : Nat) (w : World) (ht : okT l t) (hd : isDo [112,97,105,114] t.dof = true) (hin : t.In w.heap.size w) (hcap : t.cap ≤ 9223372036854775807) :
  Calls Tryz.prog 89 #[v,t.val,.slice Ac col.length cc] w (FormsPost l t col w):=by
 have HIN:=Lib.hid hin
 obtain ⟨t0,t1,hargs⟩:=pair_args ht hd
 have HB0:=Lib.hid ((Below.refl w.heap.size w).alloc (Nat.le_refl _) (.cells #[.string t.dof,.string t.name,.slice t.at_ t.args.length t.cap] 25))
 have HP:=Lib.hid (Ty.In.parts hin)
 have HAT:=Lib.hid (show t.args.length ≤ t.cap ∧ (t.at_ = none → t.cap = 0) by
  obtain ⟨d9,n9,a9,c9,l9⟩:=t
  exact (Ty.In_mk.1 hin).2.2.2.1)
 have HPOST:=Lib.hid (fun (w' : World) (A : Option Addr) (c : Nat) (hb : Below w.heap.size w w') (hr : RowAt w'.heap.size w' 5 A ([Fm.mk ⟨dPair,emptyS,0,t.args⟩ t.at_ t.cap].map Fm.cells)) =>
  (show FormsPost l t col w (.returned (.slice A 1 c)) w' from ⟨hb,A,c,[Fm.mk ⟨dPair,emptyS,0,t.args⟩ t.at_ t.cap],rfl,hr,fun f hf => by
   simp only [List.mem_singleton] at hf
   subst hf
   exact ⟨Rt.In.wider (Rt.In.keep (w:=w) (B:=w.heap.size) (r:=⟨t.at_,t.cap,t.args⟩) ⟨HP.out.2.1,HP.out.2.2,HAT.out.1,hcap⟩ hb) hb.size,HAT.out.2,(by simp only; rw [hargs]; simp),(by decide : dPair.size ≤ 1099511627776),(by decide : emptyS.size ≤ 1099511627776),(by decide : (-9223372036854775808 : Int) ≤ 0),(by decide : (0 : Int) ≤ 9223372036854775807)⟩,by simp,.inl ⟨hd,rfl⟩⟩))
 have hp : (t.dof.toList == [112,97,105,114]) = true:=hd
 clear hargs
 unfold Ty.val
 go_enter Tryz.func89,Tryz.ntmps89
 go_wp2_with fail
 go_ret
 refine HPOST.out _ _ _ (HB0.out.alloc (by simp) _) ?_
 exact forms_row [Fm.mk ⟨dPair,emptyS,0,t.args⟩ t.at_ t.cap] 0 [] [] rfl (Blk.new' _ _ _ _ (by simp))
set_option maxRecDepth 100000 in
set_option maxHeartbeats 4000000 in
theorem forms_bool (v : Value) (l : List Dt) (t : Ty) (Ac : Option Addr) (col : List Pt) (cc : Nat) (w : World) (hd : isDo [98,111,111,108] t.dof = true) :
  Calls Tryz.prog 89 #[v,t.val,.slice Ac col.length cc] w (FormsPost l t col w):=by
 have HB0:=Lib.hid ((Below.refl w.heap.size w).alloc (Nat.le_refl _) (.cells #[.string t.dof,.string t.name,.slice t.at_ t.args.length t.cap] 25))
 have HPOST:=Lib.hid (fun (w' : World) (A : Option Addr) (c : Nat) (hb : Below w.heap.size w w') (hr : RowAt w'.heap.size w' 5 A ([Fm.mk ⟨dBool,emptyS,0,[]⟩ none 0,Fm.mk ⟨dBool,emptyS,1,[]⟩ none 0].map Fm.cells)) =>
  (show FormsPost l t col w (.returned (.slice A 2 c)) w' from ⟨hb,A,c,[Fm.mk ⟨dBool,emptyS,0,[]⟩ none 0,Fm.mk ⟨dBool,emptyS,1,[]⟩ none 0],rfl,hr,fun f hf => by
   simp only [List.mem_cons,List.not_mem_nil,or_false] at hf
   rcases hf with rfl | rfl
   ·exact ⟨rt_nil _ _,fun _ => rfl,(by simp),⟨by decide,by decide,by decide,by decide⟩⟩
   ·exact ⟨rt_nil _ _,fun _ => rfl,(by simp),⟨by decide,by decide,by decide,by decide⟩⟩,by simp,.inr (.inr (.inl ⟨hd,rfl⟩))⟩))
 have hb : (t.dof.toList == [98,111,111,108]) = true:=hd
 have g1:=do_other (b:=[112,97,105,114]) hb (by decide)
 have g2:=do_other (b:=[108,105,115,116]) hb (by decide)
 unfold Ty.val
 go_enter Tryz.func89,Tryz.ntmps89
 go_wp2_with fail
 go_ret
 refine HPOST.out _ _ _ (HB0.out.alloc (by simp) _) ?_
 exact forms_row [Fm.mk ⟨dBool,emptyS,0,[]⟩ none 0,Fm.mk ⟨dBool,emptyS,1,[]⟩ none 0] 0 [] [] rfl (Blk.new' _ _ _ _ (by simp))
set_option maxRecDepth 100000 in
set_option maxHeartbeats 4000000 in
theorem forms_unit (v : Value) (l : List Dt) (t : Ty) (Ac : Option Addr) (col : List Pt) (cc : Nat) (w : World) (hd : isDo [117,110,105,116] t.dof = true) :
  Calls Tryz.prog 89 #[v,t.val,.slice Ac col.length cc] w (FormsPost l t col w):=by
 have HB0:=Lib.hid ((Below.refl w.heap.size w).alloc (Nat.le_refl _) (.cells #[.string t.dof,.string t.name,.slice t.at_ t.args.length t.cap] 25))
 have HPOST:=Lib.hid (fun (w' : World) (A : Option Addr) (c : Nat) (hb : Below w.heap.size w w') (hr : RowAt w'.heap.size w' 5 A ([Fm.mk ⟨dUnit,emptyS,0,[]⟩ none 0].map Fm.cells)) =>
  (show FormsPost l t col w (.returned (.slice A 1 c)) w' from ⟨hb,A,c,[Fm.mk ⟨dUnit,emptyS,0,[]⟩ none 0],rfl,hr,fun f hf => by
   simp only [List.mem_singleton] at hf
   subst hf
   exact ⟨rt_nil _ _,fun _ => rfl,(by simp),⟨by decide,by decide,by decide,by decide⟩⟩,by simp,.inr (.inr (.inr (.inl ⟨hd,rfl⟩)))⟩))
 have hb : (t.dof.toList == [117,110,105,116]) = true:=hd
 have g1:=do_other (b:=[112,97,105,114]) hb (by decide)
 have g2:=do_other (b:=[108,105,115,116]) hb (by decide)
 have g3:=do_other (b:=[98,111,111,108]) hb (by decide)
 unfold Ty.val
 go_enter Tryz.func89,Tryz.ntmps89
 go_wp2_with fail
 go_ret
 refine HPOST.out _ _ _ (HB0.out.alloc (by simp) _) ?_
 exact forms_row [Fm.mk ⟨dUnit,emptyS,0,[]⟩ none 0] 0 [] [] rfl (Blk.new' _ _ _ _ (by simp))
def SL (bt : Nat) (t : Ty) (b1 o1 : Nat) (t0 : Ty) (W : World) : Prop:=
 W.cell? ⟨bt,0,none⟩ = some (.string t.dof) ∧ W.cell? ⟨bt,1,none⟩ = some (.string t.name) ∧ W.cell? ⟨bt,2,none⟩ = some (.slice (some ⟨b1,o1,none⟩) 1 t.cap) ∧ bt < W.heap.size ∧
 W.cell? ⟨b1,o1,none⟩ = some (.string t0.dof) ∧ W.cell? ⟨b1,o1 + 1,none⟩ = some (.string t0.name) ∧ W.cell? ⟨b1,o1 + 2,none⟩ = some (.slice t0.at_ t0.args.length t0.cap) ∧ b1 < W.heap.size
set_option maxRecDepth 100000 in
set_option maxHeartbeats 4000000 in
theorem forms_list (v : Value) (l : List Dt) (t : Ty) (Ac : Option Addr) (col : List Pt) (cc : Nat) (w : World) (ht : okT l t) (hd : isDo [108,105,115,116] t.dof = true) (hin : t.In w.heap.size w) :
  Calls Tryz.prog 89 #[v,t.val,.slice Ac col.length cc] w (FormsPost l t col w):=by
 have HIN:=Lib.hid hin
 obtain ⟨t0,hargs⟩:=list_args ht hd
 have HP:=Ty.In.parts hin
 rw [hargs] at HP
 obtain ⟨b1,o1,hat,hb1,hc1⟩:=one_ty HP.2.1
 have HT0:=Lib.hid (HP.2.2 t0 (by simp))
 have HC1:=Lib.hid hc1
 have HB0:=Lib.hid ((Below.refl w.heap.size w).alloc (Nat.le_refl _) (.cells #[.string t.dof,.string t.name,.slice t.at_ t.args.length t.cap] 25))
 have HK:=Lib.hid (Blk.new w #[.string t.dof,.string t.name,.slice t.at_ t.args.length t.cap] 25)
 have hbox : ∀ W,Below (w.alloc (.cells #[.string t.dof,.string t.name,.slice t.at_ t.args.length t.cap] 25)).heap.size (w.alloc (.cells #[.string t.dof,.string t.name,.slice t.at_ t.args.length t.cap] 25)) W → SL w.heap.size t b1 o1 t0 W:=fun W hW => by
  have k1:=HK.out.below hW HK.out.lt
  have hb:=HB0.out.trans (hW.mono HB0.out.size)
  obtain ⟨q0,q1,q2⟩:=HC1.out W hb
  have h2:=k1.cell 2
  rw [hat,hargs] at h2
  exact ⟨k1.cell 0,k1.cell 1,h2,k1.lt,q0,q1,q2,by have:=hb.size; omega⟩
 have HBOX:=Lib.hid hbox
 have hp : (t.dof.toList == [108,105,115,116]) = true:=hd
 have g1:=do_other (b:=[112,97,105,114]) hp (by decide)
 have HPOST:=Lib.hid (fun (w' : World) (A : Option Addr) (c : Nat) (g : Nat) (hb : Below w.heap.size w w') (hk : Blk w' g #[.string t0.dof,.string t0.name,.slice t0.at_ t0.args.length t0.cap,.string t.dof,.string t.name,.slice t.at_ t.args.length t.cap] 25)
   (hr : RowAt w'.heap.size w' 5 A ([Fm.mk ⟨dNil,emptyS,0,[]⟩ none 0,Fm.mk ⟨dCons,emptyS,0,[t0,t]⟩ (some ⟨g,0,none⟩) 2].map Fm.cells)) =>
  (show FormsPost l t col w (.returned (.slice A 2 c)) w' from ⟨hb,A,c,[Fm.mk ⟨dNil,emptyS,0,[]⟩ none 0,Fm.mk ⟨dCons,emptyS,0,[t0,t]⟩ (some ⟨g,0,none⟩) 2],rfl,hr,fun f hf => by
   simp only [List.mem_cons,List.not_mem_nil,or_false] at hf
   rcases hf with rfl | rfl
   ·exact ⟨rt_nil _ _,fun _ => rfl,(by simp),⟨by decide,by decide,by decide,by decide⟩⟩
   ·refine ⟨⟨row_tys hk hk.lt,fun u hu => ?_,by simp [Fm.rt],by simp [Fm.rt]⟩,fun h => (by cases h),(by simp),(by decide : dCons.size ≤ 1099511627776),(by decide : emptyS.size ≤ 1099511627776),(by decide : (-9223372036854775808 : Int) ≤ 0),(by decide : (0 : Int) ≤ 9223372036854775807)⟩
    simp only [Fm.rt,List.mem_cons,List.not_mem_nil,or_false] at hu
    rcases hu with rfl | rfl
    ·exact HT0.out.at_ hb hb.size
    ·exact HIN.out.at_ hb hb.size,by simp,.inr (.inl ⟨hd,by simp [hargs]⟩)⟩))
 clear hin HP hc1 hbox
 rw [hat,hargs] at HB0 HK HBOX HPOST
 simp only [List.length_cons,List.length_nil,Nat.zero_add,Nat.reduceAdd] at HB0 HK HBOX HPOST
 unfold Ty.val
 go_enter Tryz.func89,Tryz.ntmps89
 go_wp2_with fail
 generalize w.alloc (.cells #[.string t.dof,.string t.name,.slice (some ⟨b1,o1,none⟩) 1 t.cap] 25) = w0 at HB0 HK HBOX ⊢
 refine region_mix (SL w.heap.size t b1 o1 t0) [(0,true),(1,true),(2,true),(3,true),(4,true),(5,true),(6,true),(7,true),(8,false),(9,true),(10,false),(11,false)] 10 (by kernel_rfl) (by kernel_rfl) (HBOX.out _ (Below.refl _ _).drew) ?_
 simp only [pickM,List.filterMap_cons,List.getElem?_cons_zero,List.getElem?_cons_succ,List.filterMap_nil,Option.map_some]
 iterate 8
  refine wpMix_read ?_ (by rfl) (fun W hW => ?_) ?_
  rotate_left
  ·unfold SL at hW
   go_simp
   try with_reducible rfl
  simp only [Act.put,List.setIfInBounds_toArray,List.set_cons_zero,List.set_cons_succ]
 have HBG:=Lib.hid (((Below.refl w0.heap.size w0).alloc (Nat.le_refl _) (.cells #[.string t0.dof,.string t0.name,.slice t0.at_ t0.args.length t0.cap,.string t.dof,.string t.name,.slice (some ⟨b1,o1,none⟩) 1 t.cap] 25)).drew)
 have HKG:=Lib.hid ((Blk.new w0 #[.string t0.dof,.string t0.name,.slice t0.at_ t0.args.length t0.cap,.string t.dof,.string t.name,.slice (some ⟨b1,o1,none⟩) 1 t.cap] 25).drewN 1)
 refine wpMix_step rfl (fun K hK => ?_)
 go_simp
 refine hK _ _ (fun _ => HBOX.out _ HBG.out) ?_
 clear hK K
 refine wpMix_read ?_ (by rfl) (fun W hW => ?_) ?_
 rotate_left
 ·unfold SL at hW
  go_simp
  try with_reducible rfl
 simp only [Act.put,List.setIfInBounds_toArray,List.set_cons_zero,List.set_cons_succ]
 have HBH:=Lib.hid (HBG.out.alloc HBG.out.size (.cells #[.string ⟨#[110,105,108]⟩,.string ⟨#[]⟩,.int .i64 0,.slice none 0 0,.slice none 0 0,.string ⟨#[99,111,110,115]⟩,.string ⟨#[]⟩,.int .i64 0,.slice none 0 0,.slice (some ⟨w0.heap.size,0,none⟩) 2 2] 138))
 have HKH:=Lib.hid (HKG.out.alloc (.cells #[.string ⟨#[110,105,108]⟩,.string ⟨#[]⟩,.int .i64 0,.slice none 0 0,.slice none 0 0,.string ⟨#[99,111,110,115]⟩,.string ⟨#[]⟩,.int .i64 0,.slice none 0 0,.slice (some ⟨w0.heap.size,0,none⟩) 2 2] 138))
 refine wpMix_step rfl (fun K hK => ?_)
 go_simp
 refine hK _ _ (fun h => absurd h (by decide)) ?_
 clear hK K
 refine wpMix_step rfl (fun K hK => ?_)
 go_simp
 refine hK _ _ (fun h => absurd h (by decide)) ?_
 clear hK K
 refine wpMix_nil ?_
 refine NoPanic.normal ?_
 go_wp2_with fail
 go_ret
 refine HPOST.out _ _ _ w0.heap.size (HB0.out.trans (HBH.out.mono HB0.out.size)) HKH.out ?_
 exact forms_row [Fm.mk ⟨dNil,emptyS,0,[]⟩ none 0,Fm.mk ⟨dCons,emptyS,0,[t0,t]⟩ (some ⟨w0.heap.size,0,none⟩) 2] 0 [] [] rfl (Blk.new' _ _ _ _ (by simp))
end Go.Proofs.YtjeggkfgdhepaaaGreatDoor

namespace Go.Proofs.YtjeggkfgdhepaaaGreatDoor
open Go.RowKit
open Go.Proofs
theorem infoForm : (Tryz.prog.info? 138).map (fun i => (i.zero,i.size,i.bytes)) = some (some (.agg #[.string ⟨#[]⟩,.string ⟨#[]⟩,.int .i64 0,.slice none 0 0,.slice none 0 0]),5,88):=by kernel_rfl
theorem flatK {K : Nat} : ∀ (L : List (List Value)),(∀ x ∈ L,x.length = K) → ∀ (i : Nat) (x : List Value) (j : Nat) (v : Value),L[i]? = some x → x[j]? = some v → L.flatten[i * K + j]? = some v
 | [],_,i,x,j,v,h,_ => by simp at h
 | y :: L,hk,0,x,j,v,h,hj => by
  simp only [List.getElem?_cons_zero,Option.some.injEq] at h
  subst h
  have hlt:=(List.getElem?_eq_some_iff.1 hj).1
  rw [List.flatten_cons,Nat.zero_mul,Nat.zero_add,List.getElem?_append_left hlt]
  exact hj
 | y :: L,hk,i + 1,x,j,v,h,hj => by
  simp only [List.getElem?_cons_succ] at h
  have ih:=flatK L (fun z hz => hk z (by simp [hz])) i x j v h hj
  have hy:=hk y (by simp)
  rw [List.flatten_cons,List.getElem?_append_right (by rw [hy,Nat.add_mul]; omega)]
  rw [show (i + 1) * K + j - y.length = i * K + j by rw [hy,Nat.add_mul]; omega]
  exact ih
theorem own_rowAt {B K n c : Nat} {w : World} {A : Option Addr} {e : TypeId} {L : List (List Value)} (hpos : 0 < K) (hk : ∀ x ∈ L,x.length = K) (h : w.ownsRow B e K (.slice A n c) n L.flatten) : RowAt w.heap.size w K A L:=by
 intro hlen
 have h0 : (L[0]).length = K:=hk _ (by simp)
 have hx:=flatK L hk 0 L[0] 0 _ (List.getElem?_eq_getElem hlen) (List.getElem?_eq_getElem (by omega))
 obtain ⟨g,hg,-,-⟩:=row_cell h _ _ hx
 subst hg
 refine ⟨g,0,rfl,(h.lt g rfl).2,fun i x hi j v hj => ?_⟩
 obtain ⟨g',hg',hc,-⟩:=row_cell h _ _ (flatK L hk i x j v hi hj)
 simp only [Option.some.injEq,Addr.mk.injEq,and_true] at hg'
 subst hg'
 simpa using hc
def FmsO (B : Nat) (w : World) (A : Option Addr) (c : Nat) (fms : List Fm) : Prop:=w.ownsRow B 138 5 (.slice A fms.length c) fms.length ((fms.map Fm.cells).flatten)
theorem fms_len (fms : List Fm) : ∀ x ∈ fms.map Fm.cells,x.length = 5:=by
 intro x hx
 obtain ⟨f,-,rfl⟩:=List.mem_map.1 hx
 rfl
def intFm (n : Int) : Fm:=⟨⟨dInt,emptyS,n,[]⟩,none,0⟩
def intsOf (col : List Pt) : List Int:=(col.filter fun p => isDo [105,110,116] p.dof).map Pt.num
theorem intsOf_succ {col : List Pt} {k : Nat} {q : Pt} (h : col[k]? = some q) : intsOf (col.take (k + 1)) = intsOf (col.take k) ++ (if isDo [105,110,116] q.dof then [q.num] else []):=by
 unfold intsOf
 rw [List.take_add_one,h]
 simp only [Option.toList_some,List.filter_append,List.map_append]
 congr 1
 cases hq : isDo [105,110,116] q.dof <;> simp [hq]
theorem intsOf_len (col : List Pt) : (intsOf col).length ≤ col.length:=by
 unfold intsOf
 rw [List.length_map]
 exact List.length_filter_le _ _
theorem pigeon : ∀ (n : Nat) (L : List Int),(∀ i : Nat,i < n → (i : Int) ∈ L) → n ≤ L.length
 | 0,_,_ => Nat.zero_le _
 | n + 1,L,h => by
  have hm:=h n (by omega)
  have hl:=List.length_erase_of_mem hm
  have ih:=pigeon n (L.erase (n : Int)) (fun i hi => (List.mem_erase_of_ne (by omega)).2 (h i (by omega)))
  have hp:=List.length_pos_of_mem hm
  omega
theorem news_at {w : World} {b : Nat} {cs : List Value} {T : TypeId} (hb : Blk w b cs.toArray T) : ∀ (j : Nat) (u : Value),cs[j]? = some u → w.cell? ((⟨b,0,none⟩ : Addr).add j) = some u:=by
 intro j u hu
 have e : (⟨b,0,none⟩ : Addr).add j = ⟨b,j,none⟩:=by unfold Addr.add; split <;> simp_all
 rw [e,hb.cell]
 simpa using hu
def numAt (b : Nat) (w : World) : Nat:=match w.cell? ⟨b,0,none⟩ with | some (.int _ n) => n.toNat | _ => 0
set_option maxRecDepth 100000 in
set_option maxHeartbeats 2000000 in
theorem formsInt_any (q : Pt) (n : Int) (b : Nat) (w : World) (hb : w.cell? ⟨b,0,none⟩ = some (.int .i64 n)) (hl : b < w.heap.size) :
  Calls Tryz.prog 121 #[q.val,.pointer (some ⟨b,0,none⟩)] w fun e w' => e = .returned (.bool (isDo [105,110,116] q.dof && q.num == n)) ∧ Below w.heap.size w w':=by
 have HB0:=Lib.hid ((Below.refl w.heap.size w).alloc (Nat.le_refl _) (.cells #[.string q.dof,.string q.name,.int .i64 q.num,.slice q.at_ q.args.length q.cap] 28))
 have hb2 : (w.alloc (.cells #[.string q.dof,.string q.name,.int .i64 q.num,.slice q.at_ q.args.length q.cap] 28)).cell? ⟨b,0,none⟩ = some (.int .i64 n):=(((Below.refl w.heap.size w).alloc (Nat.le_refl _) _).cell (p:=⟨b,0,none⟩) hl).trans hb
 have hbl : b < (w.alloc (.cells #[.string q.dof,.string q.name,.int .i64 q.num,.slice q.at_ q.args.length q.cap] 28)).heap.size:=by simp; omega
 unfold isDo Pt.val
 obtain ⟨x,hx⟩ : ∃ x,(q.dof.toList == [105,110,116]) = x:=⟨_,rfl⟩
 obtain ⟨y,hy⟩ : ∃ y,(q.num == n) = y:=⟨_,rfl⟩
 rw [hx,hy]
 cases x <;> cases y
 all_goals
  go_enter Tryz.func121,Tryz.ntmps121
  go_wp2_with fail
  go_ret
  exact ⟨rfl,HB0.out⟩
theorem hasInt_any (Ac : Option Addr) (col : List Pt) (cc : Nat) (n : Int) (b : Nat) (w : World) (hrow : RowAt w.heap.size w 4 Ac (col.map Pt.cells)) (hl : col.length ≤ 1099511627776) (hb : w.cell? ⟨b,0,none⟩ = some (.int .i64 n)) (hbl : b < w.heap.size) :
  Calls Tryz.prog 54 #[.slice Ac col.length cc,.func (.func 121) #[] #[.pointer (some ⟨b,0,none⟩)]] w fun e w' => e = .returned (.bool (col.any fun q => isDo [105,110,116] q.dof && q.num == n)) ∧ Below w.heap.size w w':=by
 have HR:=Lib.hid hrow
 refine Calls.mono (containsPat 121 (enters_of Tryz.func121 (by kernel_rfl) rfl) #[.pointer (some ⟨b,0,none⟩)] col Ac cc w
   (fun k W => Below w.heap.size w W ∧ ((col.take k).any fun q => isDo [105,110,116] q.dof && q.num == n) = false) (fun k W => Below w.heap.size w W ∧ (col.any fun q => isDo [105,110,116] q.dof && q.num == n) = true) hl
   (fun k W hh => ⟨_,HR.out.keep hh.1⟩) ⟨Below.refl _ _,rfl⟩
   (fun k W q hq ⟨hbW,hw⟩ => by
    have hcl:=formsInt_any q n b W ((hbW.cell (p:=⟨b,0,none⟩) hbl).trans hb) (by have:=hbW.size; omega)
    show Calls _ _ #[_,_] _ _
    refine Calls.mono hcl ?_
    rintro e W' ⟨rfl,hb2⟩
    have hb3:=hbW.trans (hb2.mono hbW.size)
    cases hr : (isDo [105,110,116] q.dof && q.num == n)
    ·refine .inr ⟨rfl,hb3, ?_⟩
     rw [List.take_add_one,hq]
     simp only [Option.toList_some,List.any_append,List.any_cons,List.any_nil,Bool.or_false,hw,hr]
    ·exact .inl ⟨rfl,hb3,List.any_eq_true.2 ⟨q,List.mem_of_getElem? hq,hr⟩⟩)) ?_
 rintro e w2 (⟨i,hi,rfl,hb2,hno⟩ | ⟨rfl,hb2,hyes⟩)
 ·exact ⟨by rw [hno],hb2⟩
 ·rw [List.take_length] at hyes
  exact ⟨by rw [hyes],hb2⟩
set_option maxRecDepth 100000 in
set_option maxHeartbeats 8000000 in
theorem forms_int (v : Value) (l : List Dt) (t : Ty) (Ac : Option Addr) (col : List Pt) (cc : Nat) (w : World) (hd : isDo [105,110,116] t.dof = true) (hrow : RowAt w.heap.size w 4 Ac (col.map Pt.cells)) (hl : col.length ≤ 1048576) (hnum : ∀ p ∈ col,-9223372036854775808 ≤ p.num ∧ p.num ≤ 9223372036854775807) :
  Calls Tryz.prog 89 #[v,t.val,.slice Ac col.length cc] w (FormsPost l t col w):=by
 have HR:=Lib.hid hrow
 have HD:=Lib.hid hd
 have HNUMS:=Lib.hid hnum
 clear hnum
 obtain ⟨i0,hi,hz0,hz1,hz2⟩:=info_parts infoForm
 have HB0:=Lib.hid (((Below.refl w.heap.size w).alloc (Nat.le_refl _) (.cells #[.string t.dof,.string t.name,.slice t.at_ t.args.length t.cap] 25)).alloc (by simp) (.cells #[.int .i64 0] 3))
 have HK:=Lib.hid (Blk.new' (w.alloc (.cells #[.string t.dof,.string t.name,.slice t.at_ t.args.length t.cap] 25)) #[.int .i64 0] 3 (w.heap.size + 1) (by simp))
 have hb : (t.dof.toList == [105,110,116]) = true:=hd
 have g1:=do_other (b:=[112,97,105,114]) hb (by decide)
 have g2:=do_other (b:=[108,105,115,116]) hb (by decide)
 have g3:=do_other (b:=[98,111,111,108]) hb (by decide)
 have g4:=do_other (b:=[117,110,105,116]) hb (by decide)
 clear hrow hd
 unfold Ty.val
 go_enter Tryz.func89,Tryz.ntmps89
 go_wp2_with fail
 generalize ((w.alloc (.cells #[.string t.dof,.string t.name,.slice t.at_ t.args.length t.cap] 25)).alloc (.cells #[.int .i64 0] 3)) = w0 at HB0 HK ⊢
 clear hb g1 g2 g3 g4
 go_loopw [53,7] (fun iv ov wr => ∃ (k : Nat) (ns : List Int) (A : Option Addr) (c : Nat),iv = .int .i64 k ∧ k ≤ col.length ∧ ov = .slice A ns.length c ∧ Hid (ns = intsOf (col.take k)) ∧ Hid (Below w.heap.size w wr) ∧ Hid (Blk wr (w.heap.size + 1) #[.int .i64 0] 3) ∧ Hid (wr.ownsRow (w.heap.size + 2) 138 5 (.slice A ns.length c) ns.length (((ns.map intFm).map Fm.cells).flatten))) (fun iv _ _ => col.length - (intOf iv).toNat)
 case atStart => exact ⟨0,[],none,0,rfl,Nat.zero_le _,rfl,rfl,HB0.out,HK.out,World.ownsRow_nil _ _ _ _⟩
 case round =>
  obtain ⟨k,ns,A,c,rfl,hk,rfl,HNS,HB,HKR,HO⟩:=hrel
  have hs0:=HB.out.size
  have hbl:=HKR.out.lt
  have hnl : ns.length ≤ 1048576:=by
   have h1:=HNS.out
   have h2:=intsOf_len (col.take k)
   rw [h1]
   rw [List.length_take] at h2
   omega
  by_cases hlt : k < col.length
  ·obtain ⟨q,b0,off,hq,hmem,rfl,hb,x0,x1,x2,x3⟩:=Pt.arg_at HR.out HB.out hlt
   have HQ:=Lib.hid (intsOf_succ hq)
   obtain ⟨x,hx⟩ : ∃ x,(q.dof.toList == [105,110,116]) = x:=⟨_,rfl⟩
   have HX:=Lib.hid hx
   clear hq
   have HB1:=Lib.hid (HB.out.alloc hs0 (.cells #[.string q.dof,.string q.name,.int .i64 q.num,.slice q.at_ q.args.length q.cap] 28))
   have HK1:=Lib.hid (HKR.out.alloc (.cells #[.string q.dof,.string q.name,.int .i64 q.num,.slice q.at_ q.args.length q.cap] 28))
   cases x
   case false =>
    go_wp2_with fail
    refine ⟨⟨k + 1,ns,A,c,by go_num,by omega,rfl,Lib.hid ?_,HB1.out,HK1.out,HO.out.alloc _⟩,by simp [intOf]; omega⟩
    rw [HQ.out]
    unfold isDo
    rw [HX.out]
    simpa using HNS.out
   case true =>
    go_wp2_with (at_builtin; go_must (refine wpList_append_own_at _ rfl (.tmp 60) (.tmp 65) 135 rfl (w.heap.size + 2) 138 i0 _ 5 88 Tryz.underlying135 hi hz0 hz1 hz2 rfl (by decide) (.slice A ns.length c) ns.length (((ns.map intFm).map Fm.cells).flatten) rfl ?hown ⟨wr.heap.size + 1,0,none⟩ 1 1 (intFm q.num).cells rfl rfl ?c1 ?c2 ?c3 ?c4 ?c5 ?_))
    case hown => exact (HO.out.alloc _).alloc _
    case c1 => exact news_at (Blk.new' _ (intFm q.num).cells.toArray 138 _ (by simp))
    case c2 => simp [Value.oneCell',Fm.cells,intFm]
    case c3 => unfold maxLen; omega
    case c4 => omega
    case c5 => simp; omega
    intro v' w2 hown hgrow _ _
    obtain ⟨A2,c2,rfl,-⟩:=row_slice hown
    have hlt2:=fun j hj => (HO.out.lt j hj)
    have HB2:=Lib.hid ((HB1.out.alloc (by simp; omega) (.cells #[.string ⟨#[105,110,116]⟩,.string ⟨#[]⟩,.int .i64 q.num,.slice none 0 0,.slice none 0 0] 138)).grown hgrow (by simp; omega) (fun j hj => by have:=(hlt2 j hj).1; omega))
    have HK2:=Lib.hid (show Blk w2 (w.heap.size + 1) #[.int .i64 0] 3 from (hgrow.block (w.heap.size + 1) (by simp; omega) (fun e => by have:=(hlt2 _ e.symm).1; omega)).trans (HK1.out.alloc (.cells #[.string ⟨#[105,110,116]⟩,.string ⟨#[]⟩,.int .i64 q.num,.slice none 0 0,.slice none 0 0] 138)))
    have HO2:=Lib.hid hown
    clear hown hgrow hlt2
    go_wp2_with fail
    refine ⟨⟨k + 1,ns ++ [q.num],A2,c2,by go_num,by omega,by simp,Lib.hid ?_,HB2.out,HK2.out, ?_⟩,by simp [intOf]; omega⟩
    ·rw [HQ.out]
     unfold isDo
     rw [HX.out,← HNS.out]
     simp
    ·rw [List.length_append,List.map_append,List.map_append,List.flatten_append]
     exact Lib.hid (by simpa using HO2.out)
  ·have hk2 : k = col.length:=by omega
   have hns:=HNS.out
   rw [hk2,List.take_length] at hns
   have HNS2:=Lib.hid hns
   clear hns hk2
   go_wp2_with fail
   obtain ⟨wx,rfl⟩ : ∃ wx : World,wx = wr:=⟨_,rfl⟩
   go_loopw [70] (fun _ wr => ∃ n : Nat,Hid (Below w.heap.size w wr) ∧ Hid (Blk wr (w.heap.size + 1) #[.int .i64 n] 3) ∧ Hid (wr.ownsRow (w.heap.size + 2) 138 5 (.slice A ns.length c) ns.length (((ns.map intFm).map Fm.cells).flatten)) ∧ Hid (∀ i : Nat,i < n → (i : Int) ∈ intsOf col)) (fun _ wr => col.length + 1 - numAt (w.heap.size + 1) wr)
   case atStart => exact ⟨0,HB.out,HKR.out,HO.out,Lib.hid (fun i hi => absurd hi (Nat.not_lt_zero _))⟩
   case round =>
    obtain ⟨n,HB3,HK3,HO3,HN3⟩:=hrel
    have hs3:=HB3.out.size
    have kl:=HK3.out.lt
    have kc:=HK3.out.cell 0
    have kf:=HK3.out.free 0
    simp only [List.getElem?_toArray,List.getElem?_cons_zero] at kc
    have hnle : n ≤ col.length:=Nat.le_trans (pigeon n _ HN3.out) (intsOf_len col)
    have HCI:=Lib.hid (hasInt_any Ac col cc n (w.heap.size + 1) wr ((HR.out.keep HB3.out).wider hs3) (by omega) kc kl)
    obtain ⟨any,hany⟩ : ∃ x,(col.any fun q => isDo [105,110,116] q.dof && q.num == (n : Int)) = x:=⟨_,rfl⟩
    rw [hany] at HCI
    have HANY:=Lib.hid hany
    have hnum : numAt (w.heap.size + 1) wr = n:=by unfold numAt; rw [kc]; simp
    have HNUM:=Lib.hid hnum
    clear hany hnum kc
    cases any
    case true =>
     have HIN:=Lib.hid (show (n : Int) ∈ intsOf col by
      have h9:=HANY.out
      rw [List.any_eq_true] at h9
      obtain ⟨q,hq,hp⟩:=h9
      simp only [Bool.and_eq_true,beq_iff_eq] at hp
      unfold intsOf
      exact List.mem_map.2 ⟨q,List.mem_filter.2 ⟨hq,hp.1⟩,hp.2⟩)
     have hwn : wrap64 ((n : Int) + 1) = (n : Int) + 1:=by unfold wrap64; omega
     go_wp2_with fail
     refine Calls.mono HCI.out ?_
     rintro e w4 ⟨rfl,hb4⟩
     have HB4:=Lib.hid (HB3.out.trans (hb4.mono hs3))
     have HK4:=Lib.hid (HK3.out.below hb4 HK3.out.lt)
     have HO4:=Lib.hid (row_stays HO3.out fun j hj => hb4.block j (HO3.out.lt j hj).2)
     clear hb4 kl kf
     have kl:=HK4.out.lt
     have kc:=HK4.out.cell 0
     have kf:=HK4.out.free 0
     simp only [List.getElem?_toArray,List.getElem?_cons_zero] at kc
     go_wp2_with fail
     have hset:=HK4.out.set 0 (.int .i64 ((n : Int) + 1))
     simp only [List.setIfInBounds_toArray,List.set_cons_zero] at hset
     refine ⟨⟨n + 1,HB4.out.setCell (by simp) _,by push_cast; exact hset, ?_,Lib.hid fun i hi => ?_⟩, ?_⟩
     ·exact row_stays HO4.out fun j hj => Below.heap_setCell _ _ _ _ (by have:=(HO4.out.lt j hj).1; simp; omega)
     ·rcases Nat.lt_succ_iff_lt_or_eq.1 hi with h | h
      ·exact HN3.out i h
      ·subst h; exact HIN.out
     ·rw [HNUM.out]
      have : numAt (w.heap.size + 1) (w4.setCell ⟨w.heap.size + 1,0,none⟩ (.int .i64 ((n : Int) + 1))) = n + 1:=by
       unfold numAt
       rw [hset.cell 0]
       simp
       try omega
      rw [this]
      have : n + 1 ≤ col.length:=Nat.le_trans (pigeon (n + 1) (intsOf col) (fun i hi => by
       rcases Nat.lt_succ_iff_lt_or_eq.1 hi with h | h
       ·exact HN3.out i h
       ·subst h; exact HIN.out)) (intsOf_len col)
      omega
    case false =>
     have HPOST:=Lib.hid (fun (w' : World) (A' : Option Addr) (c' : Nat) (hb : Below w.heap.size w w') (hr : RowAt w'.heap.size w' 5 A' ((ns.map intFm ++ [intFm n]).map Fm.cells)) =>
      (show FormsPost l t col w (.returned (.slice A' (ns.length + 1) c')) w' from ⟨hb,A',c',ns.map intFm ++ [intFm n],by simp,hr,fun f hf => by
       have : ∃ m,f = intFm m ∧ (-9223372036854775808 ≤ m ∧ m ≤ 9223372036854775807):=by
        simp only [List.mem_append,List.mem_map,List.mem_singleton] at hf
        rcases hf with ⟨m,hm,rfl⟩ | rfl
        ·refine ⟨m,rfl, ?_⟩
         rw [HNS2.out] at hm
         obtain ⟨q,hq,rfl⟩:=List.mem_map.1 hm
         exact HNUMS.out q (List.mem_filter.1 hq).1
        ·have h1:=Nat.le_trans (pigeon n (intsOf col) HN3.out) (intsOf_len col)
         exact ⟨_,rfl,by omega,by omega⟩
       obtain ⟨m,rfl,hm⟩:=this
       exact ⟨rt_nil _ _,fun _ => rfl,(by simp [intFm]),(by decide : dInt.size ≤ 1099511627776),(by decide : emptyS.size ≤ 1099511627776),hm⟩,by simp; omega,.inr (.inr (.inr (.inr (.inl ⟨HD.out,ns,n,by simp [intFm,Function.comp_def],fun p hp hi => by
        have h9:=HANY.out
        rw [List.any_eq_false] at h9
        have h10:=h9 p hp
        rw [HNS2.out]
        refine ⟨List.mem_map.2 ⟨p,List.mem_filter.2 ⟨hp,hi⟩,rfl⟩,fun e => h10 ?_⟩
        rw [hi,e]
        simp⟩))))⟩))
     go_wp2_with fail
     refine Calls.mono HCI.out ?_
     rintro e w4 ⟨rfl,hb4⟩
     have HB4:=Lib.hid (HB3.out.trans (hb4.mono hs3))
     have HK4:=Lib.hid (HK3.out.below hb4 HK3.out.lt)
     have HO4:=Lib.hid (row_stays HO3.out fun j hj => hb4.block j (HO3.out.lt j hj).2)
     clear hb4 kl kf
     have kl:=HK4.out.lt
     have kc:=HK4.out.cell 0
     have hs4:=HB4.out.size
     simp only [List.getElem?_toArray,List.getElem?_cons_zero] at kc
     go_wp2_with (at_builtin; go_must (refine wpList_append_own_at _ rfl (.tmp 73) (.tmp 77) 135 rfl (w.heap.size + 2) 138 i0 _ 5 88 Tryz.underlying135 hi hz0 hz1 hz2 rfl (by decide) (.slice A ns.length c) ns.length (((ns.map intFm).map Fm.cells).flatten) rfl ?hown2 ⟨w4.heap.size,0,none⟩ 1 1 (intFm n).cells rfl rfl ?e1 ?e2 ?e3 ?e4 ?e5 ?_))
     case hown2 => exact HO4.out.alloc _
     case e1 => exact World.news_of_block (heap_alloc_new _ _)
     case e2 => simp [Value.oneCell',Fm.cells,intFm]
     case e3 => unfold maxLen; omega
     case e4 => omega
     case e5 => simp; omega
     intro v' w5 hown hgrow _ _
     obtain ⟨A5,c5,rfl,-⟩:=row_slice hown
     have hlt5:=fun j hj => (HO4.out.lt j hj)
     have HB5:=Lib.hid ((HB4.out.alloc hs4 (.cells #[.string ⟨#[105,110,116]⟩,.string ⟨#[]⟩,.int .i64 n,.slice none 0 0,.slice none 0 0] 138)).grown hgrow (by simp; omega) (fun j hj => by have:=(hlt5 j hj).1; omega))
     have HO5:=Lib.hid hown
     clear hown hgrow hlt5
     go_wp2_with fail
     go_ret
     refine HPOST.out _ _ _ HB5.out (own_rowAt (by decide) (fms_len _) (B:=w.heap.size + 2) (e:=138) (n:=ns.length + 1) (c:=c5) ?_)
     rw [List.map_append,List.flatten_append]
     simpa using HO5.out
end Go.Proofs.YtjeggkfgdhepaaaGreatDoor

namespace Go.Proofs.YtjeggkfgdhepaaaGreatDoor
open Go.RowKit
open Go.Proofs
open Go.Maps
theorem look_dt {l : List Dt} (hr : distinctB (l.map Dt.name) = true) {d : Dt} (hd : d ∈ l) : lookL (dTo l l.length) d.name = some d.val:=by
 unfold dTo
 rw [lookL_map,List.take_length]
 have h2 : distinctB (l.reverse.map Dt.name) = true:=by
  unfold distinctB at *
  rw [decide_eq_true_eq] at *
  rw [List.map_reverse,List.Nodup,List.pairwise_reverse]
  exact hr.imp fun h e => h e.symm
 rw [find_name h2 (by simpa using hd)]
 rfl
def SDt (bt : Nat) (K : Sk) (s : ByteArray) (v : Value) (W : World) : Prop:=
 W.cell? ⟨bt,1,none⟩ = some (.string s) ∧ bt < W.heap.size ∧ W.cell? ⟨K.b,0,none⟩ = some (.map (some K.bD)) ∧ K.b < W.heap.size ∧ (Instr.lookup 59 (.map (some K.bD)) (.string s) false).run Tryz.prog W = .ok v W
def ConFm (W : World) (c : Cn) (f : Fm) : Prop:=f.form = conForm c ∧ ((c.has = false ∧ f.at_ = none ∧ f.cap = 0) ∨ (c.has = true ∧ ∃ g,f.at_ = some ⟨g,0,none⟩ ∧ f.cap = 1 ∧ Blk W g #[.string c.ty.dof,.string c.ty.name,.slice c.ty.at_ c.ty.args.length c.ty.cap] 25))
theorem ConFm.next {W W' : World} {c : Cn} {f : Fm} (h : ConFm W c f) (hb : Below W.heap.size W W') : ConFm W' c f:=by
 refine ⟨h.1, ?_⟩
 rcases h.2 with h2 | ⟨h1,g,h2,h3,h4⟩
 ·exact .inl h2
 ·exact .inr ⟨h1,g,h2,h3,h4.below hb h4.lt⟩
theorem ConFm.grown {W W' : World} {c : Cn} {f : Fm} {B size n : Nat} {v : Value} {xs : List Value} (h : ConFm W c f) (ho : W.ownsRow B 138 size v n xs) (hg : W.grownBy W' v.ownBlock) : ConFm W' c f:=by
 refine ⟨h.1, ?_⟩
 rcases h.2 with h2 | ⟨h1,g,h2,h3,h4⟩
 ·exact .inl h2
 ·exact .inr ⟨h1,g,h2,h3,(hg.block g h4.lt (own_ne ho h4 (by decide)).symm).trans h4⟩
theorem ConFm.rt {B : Nat} {w W : World} {c : Cn} {f : Fm} (h : ConFm W c f) (hc : c.In B w) (hb : Below B w W) (hB : B ≤ W.heap.size) : Rt.In W.heap.size W f.rt ∧ (f.at_ = none → f.cap = 0) ∧ f.form.types.length ≤ 2 ∧ FmSize f.form:=by
 obtain ⟨h1,h2⟩:=h
 unfold Fm.rt
 rw [h1]
 unfold conForm
 rcases h2 with ⟨hh,ha,hcap⟩ | ⟨hh,g,ha,hcap,hk⟩
 ·rw [hh,ha,hcap]
  exact ⟨rt_nil _ _,fun _ => rfl,(by simp),(by decide : dCon.size ≤ 1099511627776),hc.1,(by decide : (-9223372036854775808 : Int) ≤ 0),(by decide : (0 : Int) ≤ 9223372036854775807)⟩
 ·rw [hh,ha,hcap]
  simp only [if_true]
  refine ⟨⟨row_ty1 hk hk.lt,fun u hu => ?_,by simp,by simp⟩,fun h => (by cases h),(by simp),(by decide : dCon.size ≤ 1099511627776),hc.1,(by decide : (-9223372036854775808 : Int) ≤ 0),(by decide : (0 : Int) ≤ 9223372036854775807)⟩
  simp only [List.mem_singleton] at hu
  subst hu
  exact Ty.In.at_ hc.2 hb hB
theorem F2.snoc {α β : Type} {R : α → β → Prop} {l : List α} {m : List β} {a : α} {b : β} (h : F2 R l m) (k : R a b) : F2 R (l ++ [a]) (m ++ [b]):=f2_append h (.cons k .nil)
theorem F2.imp {α β : Type} {R S : α → β → Prop} {l : List α} {m : List β} (h : F2 R l m) (hi : ∀ a b,R a b → S a b) : F2 S l m:=by
 induction h with
 | nil => exact .nil
 | cons h1 _ ih => exact .cons (hi _ _ h1) ih
theorem F2.len {α β : Type} {R : α → β → Prop} {l : List α} {m : List β} (h : F2 R l m) : l.length = m.length:=by
 induction h with
 | nil => rfl
 | cons _ _ ih => simp [ih]
theorem F2.right {α β : Type} {R : α → β → Prop} {l : List α} {m : List β} (h : F2 R l m) : ∀ b ∈ m,∃ a ∈ l,R a b:=by
 induction h with
 | nil => intro b hb; cases hb
 | cons h1 _ ih =>
  intro b hb
  rcases List.mem_cons.1 hb with rfl | hb
  ·exact ⟨_,by simp,h1⟩
  ·obtain ⟨a,ha,hr⟩:=ih b hb
   exact ⟨a,by simp [ha],hr⟩
theorem conFm_forms {W : World} {cs : List Cn} {fms : List Fm} (h : F2 (ConFm W) cs fms) : fms.map Fm.form = cs.map conForm:=by
 induction h with
 | nil => rfl
 | cons h1 _ ih => simp [h1.1,ih]
theorem take_snoc {α : Type} {l : List α} {k : Nat} {q : α} (h : l[k]? = some q) : l.take (k + 1) = l.take k ++ [q]:=by rw [List.take_add_one,h]; rfl
set_option maxRecDepth 100000 in
set_option maxHeartbeats 8000000 in
theorem forms_data (K : Sk) (l : List Dt) (L : List (ByteArray × Value)) (t : Ty) (Ac : Option Addr) (col : List Pt) (cc : Nat) (w : World) (hr : distinctB (l.map Dt.name) = true) (ht : okT l t) (hd : isDo [100,97,116,97] t.dof = true) (hin : t.In w.heap.size w) (hdts : ∀ d ∈ l,d.In w.heap.size w ∧ d.cons.length ≤ 1048576) (hsk : SkAt K l L w) :
  Calls Tryz.prog 89 #[K.val,t.val,.slice Ac col.length cc] w (FormsPost l t col w):=by
 obtain ⟨d,hdm,hdn,hdc⟩:=known_data ht hd
 have hsz : t.name.size ≤ 1099511627776:=by
  obtain ⟨d9,n9,a9,c9,l9⟩:=t
  exact (Ty.In_mk.1 hin).2.1
 have HDI:=Lib.hid (hdts d hdm).1
 have hlen:=(hdts d hdm).2
 have HD:=Lib.hid hd
 have HDC:=Lib.hid hdc
 have hz : ∀ W,(zeroValue 111).run Tryz.prog W = .ok zDt W:=zeroDt
 have HB0:=Lib.hid ((Below.refl w.heap.size w).alloc (Nat.le_refl _) (.cells #[.string t.dof,.string t.name,.slice t.at_ t.args.length t.cap] 25))
 have HK:=Lib.hid (Blk.new w #[.string t.dof,.string t.name,.slice t.at_ t.args.length t.cap] 25)
 have hbox : ∀ W,Below (w.alloc (.cells #[.string t.dof,.string t.name,.slice t.at_ t.args.length t.cap] 25)).heap.size (w.alloc (.cells #[.string t.dof,.string t.name,.slice t.at_ t.args.length t.cap] 25)) W → SDt w.heap.size K t.name (.agg #[.string d.name,.slice d.at_ d.cons.length d.cap]) W:=fun W hW => by
  have k1:=HK.out.below hW HK.out.lt
  have hs:=hsk.next (HB0.out.trans (hW.mono HB0.out.size))
  obtain ⟨f,hf⟩:=hs.blk
  refine ⟨k1.cell 1,k1.lt,hf.cell 0,hf.lt, ?_⟩
  have h9:=map_look_gen false Tryz.underlying59 (hz W) hs.d t.name hsz
  rw [← hdn,look_dt hr hdm] at h9
  rw [← hdn]
  exact h9
 have HBOX:=Lib.hid hbox
 have hb : (t.dof.toList == [100,97,116,97]) = true:=hd
 have g1:=do_other (b:=[112,97,105,114]) hb (by decide)
 have g2:=do_other (b:=[108,105,115,116]) hb (by decide)
 have g3:=do_other (b:=[98,111,111,108]) hb (by decide)
 have g4:=do_other (b:=[117,110,105,116]) hb (by decide)
 have g5:=do_other (b:=[105,110,116]) hb (by decide)
 obtain ⟨i0,hi,hz0,hz1,hz2⟩:=info_parts infoForm
 clear hin hdts hsk hbox hz hd hdc hdn
 unfold Sk.val Ty.val
 go_enter Tryz.func89,Tryz.ntmps89
 go_wp2_with fail
 generalize w.alloc (.cells #[.string t.dof,.string t.name,.slice t.at_ t.args.length t.cap] 25) = w0 at HB0 HK HBOX ⊢
 refine region_mix (SDt w.heap.size K t.name (.agg #[.string d.name,.slice d.at_ d.cons.length d.cap])) [(0,true),(1,true),(2,true),(3,true),(4,true),(5,true),(6,true),(7,true),(8,true),(9,true),(10,true)] 11 (by kernel_rfl) (by kernel_rfl) (HBOX.out _ (Below.refl _ _).drew) ?_
 simp only [pickM,List.filterMap_cons,List.getElem?_cons_zero,List.getElem?_cons_succ,List.filterMap_nil,Option.map_some]
 repeat
  refine wpMix_read ?_ (by rfl) (fun W hW => ?_) ?_
  rotate_left
  ·unfold SDt at hW
   go_simp
   try with_reducible rfl
  simp only [Act.put,List.setIfInBounds_toArray,List.set_cons_zero,List.set_cons_succ]
 refine wpMix_read (.slice d.at_ d.cons.length d.cap) (by rfl) (fun W hW => rfl) ?_
 simp only [Act.put,List.setIfInBounds_toArray,List.set_cons_zero,List.set_cons_succ]
 repeat
  refine wpMix_read ?_ (by rfl) (fun W hW => ?_) ?_
  rotate_left
  ·unfold SDt at hW
   go_simp
   try with_reducible rfl
  simp only [Act.put,List.setIfInBounds_toArray,List.set_cons_zero,List.set_cons_succ]
 refine wpMix_nil ?_
 refine NoPanic.normal ?_
 have HBD:=Lib.hid HB0.out.drew
 generalize w0.drew = w1 at HBD ⊢
 clear hb g1 g2 g3 g4 g5 HBOX HK HB0
 go_wp2_with fail
 go_loopw [89,11] (fun iv ov wr => ∃ (k : Nat) (fms : List Fm) (A : Option Addr) (c : Nat),iv = .int .i64 k ∧ k ≤ d.cons.length ∧ ov = .slice A fms.length c ∧ Hid (Below w.heap.size w wr) ∧ Hid (F2 (ConFm wr) (d.cons.take k) fms) ∧ Hid (FmsO w.heap.size wr A c fms)) (fun iv _ _ => d.cons.length - (intOf iv).toNat)
 case atStart => exact ⟨0,[],none,0,rfl,Nat.zero_le _,rfl,HBD.out,F2.nil,World.ownsRow_nil _ _ _ _⟩
 case round =>
  obtain ⟨k,fms,A,c,rfl,hk,rfl,HB,HF,HO⟩:=hrel
  have hs0:=HB.out.size
  have HFL:=Lib.hid (show fms.length = k by have:=HF.out.len; rw [List.length_take] at this; omega)
  have hfl : fms.length ≤ 1048576:=by rw [HFL.out]; omega
  by_cases hlt : k < d.cons.length
  ·obtain ⟨x,b5,off5,hq5,hm5,hat5,hb5,z0,z1,z2,z3,z4⟩:=Cn.arg_at HDI.out.2.2.2.1 HB.out hlt
   rw [hat5]
   have HQ:=Lib.hid (take_snoc hq5)
   have HXI:=Lib.hid (HDI.out.2.2.2.2 x hm5)
   clear hq5
   cases hh : x.has
   case false =>
    rw [hh] at z1
    have HH:=Lib.hid hh
    have HBT:=Lib.hid (((Below.refl wr.heap.size wr).alloc (Nat.le_refl _) (.cells #[.string x.name,.bool false,.string x.ty.dof,.string x.ty.name,.slice x.ty.at_ x.ty.args.length x.ty.cap] 117)).alloc (by simp) (.cells #[.string ⟨#[99,111,110]⟩,.string x.name,.int .i64 0,.slice none 0 0,.slice none 0 0] 138))
    have HBW:=Lib.hid (HB.out.trans (HBT.out.mono hs0))
    go_wp2_with (at_builtin; go_must (refine wpList_append_own_at _ rfl (.tmp 103) (.tmp 105) 135 rfl w.heap.size 138 i0 _ 5 88 Tryz.underlying135 hi hz0 hz1 hz2 rfl (by decide) (.slice A fms.length c) fms.length ((fms.map Fm.cells).flatten) rfl ?ownf ⟨wr.heap.size + 2,0,none⟩ 1 1 [.string ⟨#[99,111,110]⟩,.string x.name,.int .i64 0,.slice none 0 0,.slice none 0 0] rfl rfl ?c1f ?c2f ?c3f ?c4f ?c5f ?_))
    case ownf => exact World.ownsRow.alloc (row_stays HO.out fun j hj => HBT.out.block j (HO.out.lt j hj).2) _
    case c1f => exact news_at (cs:=[.string ⟨#[99,111,110]⟩,.string x.name,.int .i64 0,.slice none 0 0,.slice none 0 0]) (Blk.new' _ #[.string ⟨#[99,111,110]⟩,.string x.name,.int .i64 0,.slice none 0 0,.slice none 0 0] 138 _ (by simp))
    case c2f => simp [Value.oneCell']
    case c3f => unfold maxLen; omega
    case c4f => omega
    case c5f => simp; omega
    intro v' w5 hown hgrow _ _
    obtain ⟨A5,c5,rfl,-⟩:=row_slice hown
    have HB5:=Lib.hid ((HBW.out.alloc HBW.out.size (.cells #[.string ⟨#[99,111,110]⟩,.string x.name,.int .i64 0,.slice none 0 0,.slice none 0 0] 138)).grown hgrow (by simp; omega) (fun j hj => (HO.out.lt j hj).1))
    have hownT:=World.ownsRow.alloc (row_stays HO.out fun j hj => HBT.out.block j (HO.out.lt j hj).2) (.cells #[.string ⟨#[99,111,110]⟩,.string x.name,.int .i64 0,.slice none 0 0,.slice none 0 0] 138)
    have HF5:=Lib.hid (HF.out.imp fun a b h => ((h.next HBT.out).next ((Below.refl _ _).alloc (Nat.le_refl _) (.cells #[.string ⟨#[99,111,110]⟩,.string x.name,.int .i64 0,.slice none 0 0,.slice none 0 0] 138))).grown hownT hgrow)
    have HX5:=Lib.hid (show ConFm w5 x (Fm.mk (conForm x) none 0) from ⟨rfl,.inl ⟨HH.out,rfl,rfl⟩⟩)
    have HO5:=Lib.hid hown
    clear hown hgrow hownT
    go_wp2_with fail
    refine ⟨⟨k + 1,fms ++ [Fm.mk (conForm x) none 0],A5,c5,by go_num,by omega,by simp,HB5.out, ?_, ?_⟩,by simp [intOf]; omega⟩
    ·refine Lib.hid ?_
     rw [HQ.out]
     exact F2.snoc HF5.out HX5.out
    ·refine Lib.hid ?_
     unfold FmsO
     rw [List.length_append,List.map_append,List.flatten_append]
     have h9:=HO5.out
     have e9 : ([Fm.mk (conForm x) none 0].map Fm.cells).flatten = [.string ⟨#[99,111,110]⟩,.string x.name,.int .i64 0,.slice none 0 0,.slice none 0 0]:=by
      simp [Fm.cells,conForm,HH.out,dCon]
     rw [e9]
     exact h9
   case true =>
    rw [hh] at z1
    have HH:=Lib.hid hh
    have HBT:=Lib.hid ((((Below.refl wr.heap.size wr).alloc (Nat.le_refl _) (.cells #[.string x.name,.bool true,.string x.ty.dof,.string x.ty.name,.slice x.ty.at_ x.ty.args.length x.ty.cap] 117)).alloc (by simp) (.cells #[.string ⟨#[99,111,110]⟩,.string x.name,.int .i64 0,.slice none 0 0,.slice (some ⟨wr.heap.size + 1 + 1,0,none⟩) 1 1] 138)).alloc (by simp; omega) (.cells #[.string x.ty.dof,.string x.ty.name,.slice x.ty.at_ x.ty.args.length x.ty.cap] 25))
    have HBW:=Lib.hid (HB.out.trans (HBT.out.mono hs0))
    have HKT:=Lib.hid (Blk.new' ((wr.alloc (.cells #[.string x.name,.bool true,.string x.ty.dof,.string x.ty.name,.slice x.ty.at_ x.ty.args.length x.ty.cap] 117)).alloc (.cells #[.string ⟨#[99,111,110]⟩,.string x.name,.int .i64 0,.slice none 0 0,.slice (some ⟨wr.heap.size + 1 + 1,0,none⟩) 1 1] 138)) #[.string x.ty.dof,.string x.ty.name,.slice x.ty.at_ x.ty.args.length x.ty.cap] 25 (wr.heap.size + 1 + 1) (by simp))
    go_wp2_with (at_builtin; go_must (refine wpList_append_own_at _ rfl (.tmp 103) (.tmp 105) 135 rfl w.heap.size 138 i0 _ 5 88 Tryz.underlying135 hi hz0 hz1 hz2 rfl (by decide) (.slice A fms.length c) fms.length ((fms.map Fm.cells).flatten) rfl ?ownt ⟨wr.heap.size + 1 + 1 + 1,0,none⟩ 1 1 [.string ⟨#[99,111,110]⟩,.string x.name,.int .i64 0,.slice none 0 0,.slice (some ⟨wr.heap.size + 1 + 1,0,none⟩) 1 1] rfl rfl ?c1t ?c2t ?c3t ?c4t ?c5t ?_))
    case ownt => exact World.ownsRow.alloc (row_stays HO.out fun j hj => HBT.out.block j (HO.out.lt j hj).2) _
    case c1t => exact news_at (cs:=[.string ⟨#[99,111,110]⟩,.string x.name,.int .i64 0,.slice none 0 0,.slice (some ⟨wr.heap.size + 1 + 1,0,none⟩) 1 1]) (Blk.new' _ #[.string ⟨#[99,111,110]⟩,.string x.name,.int .i64 0,.slice none 0 0,.slice (some ⟨wr.heap.size + 1 + 1,0,none⟩) 1 1] 138 _ (by simp))
    case c2t => simp [Value.oneCell']
    case c3t => unfold maxLen; omega
    case c4t => omega
    case c5t => simp; omega
    intro v' w5 hown hgrow _ _
    obtain ⟨A5,c5,rfl,-⟩:=row_slice hown
    have HB5:=Lib.hid ((HBW.out.alloc HBW.out.size (.cells #[.string ⟨#[99,111,110]⟩,.string x.name,.int .i64 0,.slice none 0 0,.slice (some ⟨wr.heap.size + 1 + 1,0,none⟩) 1 1] 138)).grown hgrow (by simp; omega) (fun j hj => (HO.out.lt j hj).1))
    have hownT:=World.ownsRow.alloc (row_stays HO.out fun j hj => HBT.out.block j (HO.out.lt j hj).2) (.cells #[.string ⟨#[99,111,110]⟩,.string x.name,.int .i64 0,.slice none 0 0,.slice (some ⟨wr.heap.size + 1 + 1,0,none⟩) 1 1] 138)
    have HF5:=Lib.hid (HF.out.imp fun a b h => ((h.next HBT.out).next ((Below.refl _ _).alloc (Nat.le_refl _) (.cells #[.string ⟨#[99,111,110]⟩,.string x.name,.int .i64 0,.slice none 0 0,.slice (some ⟨wr.heap.size + 1 + 1,0,none⟩) 1 1] 138))).grown hownT hgrow)
    have HX5:=Lib.hid (show ConFm w5 x (Fm.mk (conForm x) (some ⟨wr.heap.size + 1 + 1,0,none⟩) 1) from ⟨rfl,.inr ⟨HH.out,wr.heap.size + 1 + 1,rfl,rfl,(hgrow.block _ (HKT.out.alloc _).lt (own_ne hownT (HKT.out.alloc _) (by decide)).symm).trans (HKT.out.alloc _)⟩⟩)
    have HO5:=Lib.hid hown
    clear hown hgrow hownT
    go_wp2_with fail
    refine ⟨⟨k + 1,fms ++ [Fm.mk (conForm x) (some ⟨wr.heap.size + 1 + 1,0,none⟩) 1],A5,c5,by go_num,by omega,by simp,HB5.out, ?_, ?_⟩,by simp [intOf]; omega⟩
    ·refine Lib.hid ?_
     rw [HQ.out]
     exact F2.snoc HF5.out HX5.out
    ·refine Lib.hid ?_
     unfold FmsO
     rw [List.length_append,List.map_append,List.flatten_append]
     have h9:=HO5.out
     have e9 : ([Fm.mk (conForm x) (some ⟨wr.heap.size + 1 + 1,0,none⟩) 1].map Fm.cells).flatten = [.string ⟨#[99,111,110]⟩,.string x.name,.int .i64 0,.slice none 0 0,.slice (some ⟨wr.heap.size + 1 + 1,0,none⟩) 1 1]:=by
      simp [Fm.cells,conForm,HH.out,dCon]
     rw [e9]
     exact h9
  ·have hk2 : k = d.cons.length:=by omega
   have hf:=HF.out
   rw [hk2,List.take_length] at hf
   have HF2:=Lib.hid hf
   have HPOST:=Lib.hid (show FormsPost l t col w (.returned (.slice A fms.length c)) wr from ⟨HB.out,A,c,fms,rfl,own_rowAt (by decide) (fms_len _) (B:=w.heap.size) (e:=138) (n:=fms.length) (c:=c) HO.out,fun f hfm => by
    obtain ⟨cn,hcn,hcf⟩:=hf.right f hfm
    exact hcf.rt (HDI.out.2.2.2.2 cn hcn) HB.out hs0,by omega,.inr (.inr (.inr (.inr (.inr ⟨HD.out,by rw [conFm_forms hf,HDC.out]⟩))))⟩)
   clear hf hk2
   go_wp2_with fail
   go_ret
   exact HPOST.out
end Go.Proofs.YtjeggkfgdhepaaaGreatDoor

namespace Go.Proofs.YtjeggkfgdhepaaaGreatDoor
open Go.RowKit
open Go.Proofs
open Go.Maps
theorem forms_any (K : Sk) (l : List Dt) (L : List (ByteArray × Value)) (t : Ty) (Ac : Option Addr) (col : List Pt) (cc : Nat) (w : World) (hr : distinctB (l.map Dt.name) = true) (ht : okT l t) (hop : opaqueT t = false) (hin : t.In w.heap.size w) (hcap : t.cap ≤ 9223372036854775807)
  (hrow : RowAt w.heap.size w 4 Ac (col.map Pt.cells)) (hl : col.length ≤ 1048576) (hnum : ∀ p ∈ col,-9223372036854775808 ≤ p.num ∧ p.num ≤ 9223372036854775807) (hdts : ∀ d ∈ l,d.In w.heap.size w ∧ d.cons.length ≤ 1048576) (hsk : SkAt K l L w) :
  Calls Tryz.prog 89 #[K.val,t.val,.slice Ac col.length cc] w (FormsPost l t col w):=by
 rcases ty_kinds ht with h | h | h | h | h | h | h
 ·rw [h] at hop; cases hop
 ·exact forms_pair _ l t Ac col cc w ht h hin hcap
 ·exact forms_list _ l t Ac col cc w ht h hin
 ·exact forms_bool _ l t Ac col cc w h
 ·exact forms_unit _ l t Ac col cc w h
 ·exact forms_int _ l t Ac col cc w h hrow hl hnum
 ·exact forms_data K l L t Ac col cc w hr ht h hin hdts hsk
theorem eql_nil (c : Nat) (w : World) : (binOp .eql 26 (.slice none 0 c) (.slice none 0 0)).run Tryz.prog w = .ok (.bool true) w:=by kernel_rfl
theorem eql_some (ad : Addr) (n c : Nat) (w : World) : (binOp .eql 26 (.slice (some ad) n c) (.slice none 0 0)).run Tryz.prog w = .ok (.bool false) w:=by kernel_rfl
theorem row_none (w : World) (e : TypeId) (size : Nat) : (w.alloc (.cells #[] e)).ownsRow w.heap.size e size (.slice (some ⟨w.heap.size,0,none⟩) 0 0) 0 []:=
 ⟨by simp,.inr ⟨w.heap.size,0,#[],rfl,Nat.le_refl _,heap_alloc_new w _,Nat.le_refl _,Nat.zero_le _,by simp,by simp⟩⟩
def ClonePost (ps : List Pt) (w : World) (e : Ending) (w' : World) : Prop:=Below w.heap.size w w' ∧ ∃ A c,e = .returned (.slice A ps.length c) ∧ Rw.In w'.heap.size w' ⟨A,c,ps⟩ ∧ (A = none → c = 0) ∧ w'.ownsRow w.heap.size 28 4 (.slice A ps.length c) ps.length ((ps.map Pt.cells).flatten)
set_option maxRecDepth 100000 in
set_option maxHeartbeats 4000000 in
theorem clone_any (A : Option Addr) (ps : List Pt) (c : Nat) (w : World) (h : Rw.In w.heap.size w ⟨A,c,ps⟩) (hno : A = none → c = 0) (hl : ps.length ≤ 1048576) :
  Calls Tryz.prog 92 #[.slice A ps.length c] w (ClonePost ps w):=by
 obtain ⟨h1,h2,h3,h4⟩:=h
 simp only at h1 h2 h3 h4
 rcases A with _ | ad
 ·have hc:=hno rfl
  have hps : ps = []:=List.eq_nil_of_length_eq_zero (by omega)
  subst hps
  subst hc
  have hq:=eql_nil 0
  go_enter Tryz.func92,Tryz.ntmps92
  go_wp2_with fail
  go_ret
  exact ⟨Below.refl _ _,none,0,rfl,⟨fun h => by simp at h,fun p hp => (by cases hp),Nat.le_refl _,by simp⟩,fun _ => rfl,World.ownsRow_nil _ _ _ _⟩
 ·obtain ⟨i0,hi,hz0,hz1,hz2⟩:=info_parts infoPat
  have HB0:=Lib.hid ((Below.refl w.heap.size w).alloc (Nat.le_refl _) (.cells #[] 28))
  have HALL:=Lib.hid h2
  have hq:=eql_some ad ps.length c
  have HROW:=Lib.hid h1
  clear h2 hno h1
  go_enter Tryz.func92,Tryz.ntmps92
  go_wp2_with (at_builtin; go_must (refine append_rowat rfl (.tmp 5) (.tmp 6) 26 rfl w.heap.size 28 i0 _ 4 64 Tryz.underlying26 hi hz0 hz1 hz2 rfl (by decide) (.slice (some ⟨w.heap.size,0,none⟩) 0 0) 0 [] rfl ?own1 w.heap.size (some ad) (ps.map Pt.cells) c ?x1 ?a1 ?r1 ?c1 ?k1 ?o1 ?m1 ?b1 ?s1 ?_))
  case own1 => exact row_none w _ _
  case x1 => simp [Act.eval]
  case a1 => intro h; cases h
  case r1 => exact HROW.out.keep HB0.out
  case c1 => simpa using h3
  case k1 =>
   intro y hy
   obtain ⟨q,-,rfl⟩:=List.mem_map.1 hy
   rfl
  case o1 =>
   intro y hy u hu
   obtain ⟨q,-,rfl⟩:=List.mem_map.1 hy
   simp only [Pt.cells,List.mem_cons,List.not_mem_nil,or_false] at hu
   rcases hu with rfl | rfl | rfl | rfl <;> rfl
  case m1 => have : (ps.map Pt.cells).length = ps.length:=List.length_map _; unfold maxLen; omega
  case b1 => have : (ps.map Pt.cells).length = ps.length:=List.length_map _; omega
  case s1 => exact HB0.out.size
  intro v' w5 hown hgrow _
  have hb5 : Below w.heap.size w w5:=HB0.out.grown hgrow (by simp) (fun j hj => by simp [Value.ownBlock] at hj; omega)
  obtain ⟨A5,c5,rfl,-⟩:=row_slice hown
  have HB5:=Lib.hid hb5
  have HIN:=Lib.hid (PatsO.in_ hown (fun p hp => Pt.In.at_ (HALL.out p hp) hb5 hb5.size))
  have HNO:=Lib.hid (own_cap hown).2.1
  have HOWN:=Lib.hid hown
  clear hown hgrow hb5
  go_wp2_with fail
  go_ret
  exact ⟨HB5.out,A5,c5,rfl,HIN.out,HNO.out,HOWN.out⟩
end Go.Proofs.YtjeggkfgdhepaaaGreatDoor
