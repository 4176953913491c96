/- A text put into an ascending list: the reference's Put (which members its answer has). -/
import Derived.Test.YtjeggkfgdhepaaaGreatDoorG06
set_option linter.unusedVariables false
set_option linter.unusedSimpArgs false
namespace Go.Proofs.YtjeggkfgdhepaaaGreatDoor
open Go.RowKit
open Go.Proofs
def PutPost (B : Nat) (w : World) (xs : List ByteArray) (s : ByteArray) (e : Ending) (w' : World) : Prop:=
 Below B w w' ∧ ∃ v ys,e = .returned v ∧ Texts B w' v ys ∧ ys.length ≤ xs.length + 1 ∧ ∀ x,x ∈ ys ↔ x ∈ xs ∨ x = s
theorem append_none {P : Program} {w : World} {ops : Array Oper} {rest : List Oper} {o : Oper} {a : Act} {Q : Exit → Act → World → Prop} (hgd : o.guard = none) (s x : Operand) (t : TypeId)
  (ho : o.op = .call { callee:=.builtin .append,args:=#[s,x],argTypes:=#[t,t] })
  (base : Nat) (e : TypeId) (i : TypeInfo) (size : Nat) (ht : P.underlying t = some (.slice e)) (hi : P.info? e = some i)
  (v : Value) (n : Nat) (xs : List Value) (hs : a.eval s = v) (hown : w.ownsRow base e size v n xs) (hx : a.eval x = .slice none 0 0)
  (h : ∀ v' w',Hid (v' = v ∧ w' = w) → wpList P ops Q rest (a.put o.dst v') w') : wpList P ops Q (o :: rest) a w:=
 wpList_append_own_none hgd s x t ho base e i size ht hi v n xs hs hown hx (h _ _ (Lib.hid ⟨rfl,rfl⟩))
theorem bytes_ofb {a b : ByteArray} (h : (a.toList == b.toList) = true) : a = b:=by
 have h : a.toList = b.toList:=by simpa using h
 rw [ByteArray.toList_eq,ByteArray.toList_eq] at h
 cases a; cases b
 simp only [ByteArray.mk.injEq]
 exact Array.toList_inj.1 h
set_option maxRecDepth 100000 in
set_option maxHeartbeats 2000000 in
theorem put_any (B : Nat) (w : World) (v : Value) (xs : List ByteArray) (s : ByteArray) (h : Texts B w v xs) (hB : B ≤ w.heap.size) (hl : xs.length ≤ 1048576) :
  Calls Tryz.prog 155 #[v,.string s] w (PutPost B w xs s):=by
 obtain ⟨A,c,rfl,h⟩:=h
 have H:=Lib.hid h
 obtain ⟨i0,hi,hz0,hz1,hz2⟩:=info_parts infoStr
 rcases A with _ | ⟨g,o,sp⟩
 ·obtain ⟨hx,hc⟩ : xs = [] ∧ c = 0:=by
   rcases h.2 with ⟨he,hn⟩ | ⟨g,cap,cur,he,_⟩
   ·simp only [Value.slice.injEq] at he
    exact ⟨List.eq_nil_of_length_eq_zero hn,he.2.2⟩
   ·simp at he
  subst hx hc
  clear h
  go_enter Tryz.func155,Tryz.ntmps155
  go_wp2_with fail
  go_loopw [5] (fun iv wr => iv = .int .i64 0 ∧ wr = w) (fun iv _ => 0)
  case atStart => exact ⟨rfl,rfl⟩
  case round =>
   obtain ⟨rfl,rfl⟩:=hrel
   have HL:=Lib.hid (World.ownsRow_lit (base:=B) (e:=9) (size:=1) wr #[] 0 hB (by unfold maxLen; omega) rfl)
   go_wp2_with (at_builtin; go_must (refine append_none rfl (.tmp 34) (.tmp 37) 53 rfl B 9 i0 1 Tryz.underlying53 hi (.slice (some ⟨wr.heap.size,0,none⟩) 0 0) 0 [] rfl ?own rfl ?_))
   case own => exact HL.out
   rintro _ _ ⟨rfl,rfl⟩
   have HB0:=Lib.hid (show Below B wr (wr.alloc (.cells #[] 9)) from (Below.refl B wr).alloc hB _)
   go_wp2_with (at_builtin; go_must (refine wpList_append_own_at _ rfl (.tmp 39) (.tmp 41) 53 rfl B 9 i0 _ 1 16 Tryz.underlying53 hi hz0 hz1 hz2 rfl (by decide) (.slice (some ⟨wr.heap.size,0,none⟩) 0 0) 0 [] rfl ?own ⟨wr.heap.size + 1,0,none⟩ 1 1 [.string s] rfl rfl ?c1 ?c2 ?c3 ?c4 ?c5 ?_))
   case own => exact HL.out.alloc _
   case c1 => exact cell_one_at _ _ _ _ (by simp)
   case c2 => intro u hu; simp only [List.mem_singleton] at hu; subst hu; rfl
   case c3 => unfold maxLen; omega
   case c4 => omega
   case c5 => simp; omega
   intro v2 w2 hown hgrow _ _
   obtain ⟨A3,c3,rfl,-⟩:=row_slice hown
   have HB2:=Lib.hid ((HB0.out.alloc (by simp; omega) (.cells #[.string s] 9)).grown hgrow (by simp; omega) (fun j hj => (HL.out.lt j hj).1))
   have HO2:=Lib.hid hown
   clear hown hgrow
   go_wp2_with (at_builtin; go_must (refine append_none rfl (.tmp 43) (.tmp 46) 53 rfl B 9 i0 1 Tryz.underlying53 hi (.slice A3 1 c3) 1 [.string s] rfl ?own rfl ?_))
   case own => exact HO2.out
   rintro _ _ ⟨rfl,rfl⟩
   go_wp2_with fail
   go_ret
   exact ⟨HB2.out,_,[s],rfl,⟨_,_,rfl,HO2.out⟩,by simp,by simp⟩
 ·obtain ⟨rfl,rfl,hcap⟩ : o = 0 ∧ sp = none ∧ xs.length ≤ c:=by
   rcases h.2 with ⟨he,hn⟩ | ⟨g',cap,cur,he,-,-,hcap,-⟩
   ·simp at he
   ·simp only [Value.slice.injEq,Option.some.injEq,Addr.mk.injEq] at he
    obtain ⟨⟨rfl,rfl,rfl⟩,-,rfl⟩:=he
    exact ⟨rfl,rfl,hcap⟩
  clear h
  go_enter Tryz.func155,Tryz.ntmps155
  go_wp2_with fail
  go_loopw [5] (fun iv wr => ∃ i : Nat,iv = .int .i64 i ∧ i ≤ xs.length ∧ wr = w) (fun iv _ => xs.length - (intOf iv).toNat)
  case atStart => exact ⟨0,rfl,Nat.zero_le _,rfl⟩
  case round =>
   obtain ⟨i,rfl,hi2,rfl⟩:=hrel
   have HL:=Lib.hid (World.ownsRow_lit (base:=wr.heap.size) (e:=9) (size:=1) wr #[] 0 (Nat.le_refl _) (by unfold maxLen; omega) rfl)
   have hic : (i : Int) ≤ (c : Int):=by omega
   have i00 : (0 : Int) ≤ i:=by omega
   have hcells : Hid (∀ j x,xs[j]? = some x → wr.cell? ⟨g,j,none⟩ = some (.string x)):=Lib.hid fun j x hx => by
    obtain ⟨g',hg',hc2,-⟩:=row_cell H.out j (.string x) (by simp [hx])
    simp only [Option.some.injEq,Addr.mk.injEq,and_true] at hg'
    subst hg'
    exact hc2
   have hgl : g < wr.heap.size:=(H.out.lt g rfl).2
   by_cases hlt : i < xs.length
   ·obtain ⟨a,ha⟩ : ∃ a,xs[i]? = some a:=⟨_,List.getElem?_eq_getElem hlt⟩
    have hc:=hcells.out i a ha
    have HA:=Lib.hid ha
    clear ha
    obtain ⟨b1,hb1⟩ : ∃ b,Op.bytesLess a.toList s.toList = b:=⟨_,rfl⟩
    cases b1
    case true =>
     go_wp2_with fail
     exact ⟨⟨i + 1,by go_num,by omega,trivial⟩,by simp [intOf]; omega⟩
    obtain ⟨b2,hb2⟩ : ∃ b,(a.toList == s.toList) = b:=⟨_,rfl⟩
    cases b2
    case true =>
     have HE:=Lib.hid (bytes_ofb hb2)
     go_wp2_with fail
     go_ret
     refine ⟨Below.refl _ _,_,xs,rfl,⟨_,_,rfl,H.out⟩,by omega,fun x => ⟨.inl,fun hx => ?_⟩⟩
     rcases hx with hx | rfl
     ·exact hx
     ·rw [← HE.out]
      exact List.mem_of_getElem? HA.out
    go_wp2_with (at_builtin; go_must (refine wpList_append_own_at _ rfl (.tmp 34) (.tmp 37) 53 rfl wr.heap.size 9 i0 _ 1 16 Tryz.underlying53 hi hz0 hz1 hz2 rfl (by decide) (.slice (some ⟨wr.heap.size,0,none⟩) 0 0) 0 [] rfl ?ownx0 ⟨g,0,none⟩ i c ((xs.map Value.string).take i) rfl (by simp; try omega) ?c1x0 ?c2x0 ?c3x0 ?c4x0 ?c5x0 ?_))
    case ownx0 => exact HL.out
    case c1x0 =>
     intro j u hu
     have hu2 : (xs.map Value.string)[j]? = some u:=by
      have hji : j < i:=by have:=(List.getElem?_eq_some_iff.1 hu).1; simp at this; omega
      rw [List.getElem?_take_of_lt hji] at hu
      exact hu
     rw [List.getElem?_map] at hu2
     obtain ⟨x,hx,rfl⟩:=Option.map_eq_some_iff.1 hu2
     have e : (⟨g,0,none⟩ : Addr).add j = ⟨g,j,none⟩:=by unfold Addr.add; split <;> simp_all
     try rw [e]
     first | exact hcells.out j x hx | exact (((Below.refl wr.heap.size wr).alloc (Nat.le_refl _) _).cell (p:=⟨g,j,none⟩) hgl).trans (hcells.out j x hx)
    case c2x0 => intro u hu; replace hu:=List.mem_of_mem_take hu; simp only [List.mem_map] at hu; obtain ⟨x,-,rfl⟩:=hu; rfl
    case c3x0 => unfold maxLen; omega
    case c4x0 => omega
    try case c5x0 => first | omega | (simp; omega) | simp
    intro v1 w1 hown1 hgrow1 _ _
    have hown1 : w1.ownsRow wr.heap.size 9 1 v1 i ((xs.map Value.string).take i):=by simpa using hown1
    obtain ⟨A1,c1,rfl,-⟩:=row_slice hown1
    have HB1:=Lib.hid (((Below.refl wr.heap.size wr).alloc (Nat.le_refl _) (.cells #[] 9)).grown hgrow1 (by simp) (fun j hj => (HL.out.lt j hj).1))
    have HO1:=Lib.hid hown1
    have hs1:=HB1.out.size
    clear hown1 hgrow1
    go_wp2_with (at_builtin; go_must (refine wpList_append_own_at _ rfl (.tmp 39) (.tmp 41) 53 rfl wr.heap.size 9 i0 _ 1 16 Tryz.underlying53 hi hz0 hz1 hz2 rfl (by decide) (.slice A1 i c1) i ((xs.map Value.string).take i) rfl ?ownx1 ⟨w1.heap.size,0,none⟩ 1 1 [.string s] rfl rfl ?c1x1 ?c2x1 ?c3x1 ?c4x1 ?c5x1 ?_))
    case ownx1 => exact HO1.out.alloc _
    case c1x1 => exact cell_one_at _ _ _ _ rfl
    case c2x1 => intro u hu; simp only [List.mem_singleton] at hu; subst hu; rfl
    case c3x1 => unfold maxLen; omega
    case c4x1 => omega
    case c5x1 => simp; omega
    intro v2 w2 hown2 hgrow2 _ _
    obtain ⟨A2,c2,rfl,-⟩:=row_slice hown2
    have HB2:=Lib.hid ((HB1.out.alloc hs1 (.cells #[.string s] 9)).grown hgrow2 (by simp; omega) (fun j hj => (HO1.out.lt j hj).1))
    have HO2:=Lib.hid hown2
    have hs2:=HB2.out.size
    clear hown2 hgrow2
    go_wp2_with (at_builtin; go_must (refine wpList_append_own_at _ rfl (.tmp 43) (.tmp 46) 53 rfl wr.heap.size 9 i0 _ 1 16 Tryz.underlying53 hi hz0 hz1 hz2 rfl (by decide) (.slice A2 (i + 1) c2) (i + 1) ((xs.map Value.string).take i ++ [.string s]) rfl ?ownx2 ⟨g,i,none⟩ (xs.length - i) (c - i) ((xs.map Value.string).drop i) rfl (by simp) ?c1x2 ?c2x2 ?c3x2 ?c4x2 ?c5x2 ?_))
    case ownx2 => exact HO2.out
    case c1x2 =>
     intro j u hu
     rw [List.getElem?_drop,List.getElem?_map] at hu
     obtain ⟨x,hx,rfl⟩:=Option.map_eq_some_iff.1 hu
     have e : (⟨g,i,none⟩ : Addr).add j = ⟨g,i + j,none⟩:=by unfold Addr.add; split <;> simp_all
     rw [e]
     exact (HB2.out.cell (p:=⟨g,i + j,none⟩) hgl).trans (hcells.out _ x hx)
    case c2x2 => intro u hu; replace hu:=List.mem_of_mem_drop hu; simp only [List.mem_map] at hu; obtain ⟨x,-,rfl⟩:=hu; rfl
    case c3x2 => unfold maxLen; omega
    case c4x2 => omega
    case c5x2 => omega
    intro v3 w3 hown3 hgrow3 _ _
    obtain ⟨A3,c3,rfl,-⟩:=row_slice hown3
    have HB3:=Lib.hid (HB2.out.grown hgrow3 hs2 (fun j hj => (HO2.out.lt j hj).1))
    have HO3:=Lib.hid hown3
    clear hown3 hgrow3
    go_wp2_with fail
    go_ret
    have hn : i + 1 + (xs.length - i) = (xs.take i ++ [s] ++ xs.drop i).length:=by simp; omega
    have hm : (xs.map Value.string).take i ++ .string s :: (xs.map Value.string).drop i = (xs.take i ++ [s] ++ xs.drop i).map Value.string:=by simp
    have ho:=HO3.out
    rw [hm,hn] at ho
    rw [hn]
    refine ⟨HB3.out.mono hB,_,_,rfl,Texts.wider ⟨A3,c3,rfl,ho⟩ hB,by simp; omega,fun x => ?_⟩
    have hx : x ∈ xs ↔ x ∈ xs.take i ∨ x ∈ xs.drop i:=by rw [← List.mem_append,List.take_append_drop]
    rw [hx]
    simp only [List.mem_append,List.mem_singleton]
    constructor
    ·rintro ((h | h) | h)
     ·exact .inl (.inl h)
     ·exact .inr h
     ·exact .inl (.inr h)
    ·rintro ((h | h) | h)
     ·exact .inl (.inl h)
     ·exact .inr h
     ·exact .inl (.inr h)
   ·have hii : i = xs.length:=by omega
    subst hii
    go_wp2_with (at_builtin; go_must (refine wpList_append_own_at _ rfl (.tmp 34) (.tmp 37) 53 rfl wr.heap.size 9 i0 _ 1 16 Tryz.underlying53 hi hz0 hz1 hz2 rfl (by decide) (.slice (some ⟨wr.heap.size,0,none⟩) 0 0) 0 [] rfl ?ownx3 ⟨g,0,none⟩ xs.length c (xs.map Value.string) rfl (by simp; try omega) ?c1x3 ?c2x3 ?c3x3 ?c4x3 ?c5x3 ?_))
    case ownx3 => exact HL.out
    case c1x3 =>
     intro j x hx
     have e : (⟨g,0,none⟩ : Addr).add j = ⟨g,j,none⟩:=by unfold Addr.add; split <;> simp_all
     try rw [e]
     first | exact hcells.out j x hx | exact (((Below.refl wr.heap.size wr).alloc (Nat.le_refl _) _).cell (p:=⟨g,j,none⟩) hgl).trans (hcells.out j x hx)
    case c2x3 => first | (intro x hx; rfl) | (intro u hu; simp only [List.mem_map] at hu; obtain ⟨x,-,rfl⟩:=hu; rfl)
    case c3x3 => unfold maxLen; omega
    case c4x3 => omega
    try case c5x3 => first | omega | (simp; omega) | simp
    intro v1 w1 hown1 hgrow1 _ _
    have hown1 : w1.ownsRow wr.heap.size 9 1 v1 xs.length (xs.map Value.string):=by simpa using hown1
    obtain ⟨A1,c1,rfl,-⟩:=row_slice hown1
    have HB1:=Lib.hid (((Below.refl wr.heap.size wr).alloc (Nat.le_refl _) (.cells #[] 9)).grown hgrow1 (by simp) (fun j hj => (HL.out.lt j hj).1))
    have HO1:=Lib.hid hown1
    have hs1:=HB1.out.size
    clear hown1 hgrow1
    go_wp2_with (at_builtin; go_must (refine wpList_append_own_at _ rfl (.tmp 39) (.tmp 41) 53 rfl wr.heap.size 9 i0 _ 1 16 Tryz.underlying53 hi hz0 hz1 hz2 rfl (by decide) (.slice A1 xs.length c1) xs.length (xs.map Value.string) rfl ?ownx4 ⟨w1.heap.size,0,none⟩ 1 1 [.string s] rfl rfl ?c1x4 ?c2x4 ?c3x4 ?c4x4 ?c5x4 ?_))
    case ownx4 => exact HO1.out.alloc _
    case c1x4 => exact cell_one_at _ _ _ _ rfl
    case c2x4 => intro u hu; simp only [List.mem_singleton] at hu; subst hu; rfl
    case c3x4 => unfold maxLen; omega
    case c4x4 => omega
    case c5x4 => simp; omega
    intro v2 w2 hown2 hgrow2 _ _
    obtain ⟨A2,c2,rfl,-⟩:=row_slice hown2
    have HB2:=Lib.hid ((HB1.out.alloc hs1 (.cells #[.string s] 9)).grown hgrow2 (by simp; omega) (fun j hj => (HO1.out.lt j hj).1))
    have HO2:=Lib.hid hown2
    have hs2:=HB2.out.size
    clear hown2 hgrow2
    obtain ⟨ad,had⟩ : ∃ ad,(if c = xs.length then some ⟨g,0,none⟩ else some ⟨g,xs.length,none⟩ : Option Addr) = some ad:=by split <;> exact ⟨_,rfl⟩
    go_wp2_with (at_builtin; go_must (refine wpList_append_own_at _ rfl (.tmp 43) (.tmp 46) 53 rfl wr.heap.size 9 i0 _ 1 16 Tryz.underlying53 hi hz0 hz1 hz2 rfl (by decide) (.slice A2 (xs.length + 1) c2) (xs.length + 1) (xs.map Value.string ++ [.string s]) rfl ?ownx5 ad 0 (c - xs.length) [] rfl (by simp) ?c1x5 ?c2x5 ?c3x5 ?c4x5 ?c5x5 ?_))
    case ownx5 => exact HO2.out
    case c1x5 => intro j u hu; simp at hu
    case c2x5 => intro u hu; cases hu
    case c3x5 => unfold maxLen; omega
    case c4x5 => omega
    case c5x5 => omega
    intro v3 w3 hown3 hgrow3 _ _
    obtain ⟨A3,c3,rfl,-⟩:=row_slice hown3
    have HB3:=Lib.hid (HB2.out.grown hgrow3 hs2 (fun j hj => (HO2.out.lt j hj).1))
    have HO3:=Lib.hid hown3
    clear hown3 hgrow3
    go_wp2_with fail
    go_ret
    have hn : xs.length + 1 + 0 = (xs ++ [s]).length:=by simp
    have hm : xs.map Value.string ++ [.string s] = (xs ++ [s]).map Value.string:=by simp
    have ho:=HO3.out
    try rw [List.append_nil] at ho
    rw [hm] at ho
    have hn2 : xs.length + 1 = (xs ++ [s]).length:=by simp
    try rw [Nat.add_zero] at ho
    rw [hn2] at ho
    try rw [Nat.add_zero]
    rw [hn2]
    refine ⟨HB3.out.mono hB,_,xs ++ [s],rfl,Texts.wider ⟨A3,c3,rfl,ho⟩ hB,by simp,fun x => by simp⟩
end Go.Proofs.YtjeggkfgdhepaaaGreatDoor

namespace Go.Proofs.YtjeggkfgdhepaaaGreatDoor
open Go.RowKit
open Go.Proofs
def Ty.varsL : Ty → List ByteArray
 | .mk d n _ _ l => if isDo [118,97,114] d then [n] else (l.map fun t => t.varsL).flatten
theorem Ty.varsL_mk (d n : ByteArray) (a : Option Addr) (c : Nat) (l : List Ty) : (Ty.mk d n a c l).varsL = if isDo [118,97,114] d then [n] else l.flatMap Ty.varsL:=by
 rw [Ty.varsL]
 rfl
theorem hasVar_vars (t : Ty) : t.hasVar = !t.varsL.isEmpty:=by
 refine Ty.induct (p:=fun t => t.hasVar = !t.varsL.isEmpty) (fun d n a c l ih => ?_) t
 rw [Ty.hasVar_mk,Ty.varsL_mk]
 cases h : isDo [118,97,114] d
 ·simp only [Bool.false_or,Bool.false_eq_true,if_false]
  rw [Bool.eq_iff_iff]
  simp only [List.any_eq_true,Bool.not_eq_true',List.isEmpty_eq_false_iff,ne_eq,List.flatMap_eq_nil_iff,Classical.not_forall]
  constructor
  ·rintro ⟨t,ht,hv⟩
   rw [ih t ht] at hv
   exact ⟨t,ht,by simpa using hv⟩
  ·rintro ⟨t,ht,hv⟩
   exact ⟨t,ht,by rw [ih t ht]; simpa using hv⟩
 ·simp
def SetPost (B : Nat) (w : World) (xs : List ByteArray) (k : Nat) (ns : List ByteArray) (e : Ending) (w' : World) : Prop:=
 Below B w w' ∧ ∃ v ys,e = .returned v ∧ Texts B w' v ys ∧ ys.length ≤ xs.length + k ∧ ∀ x,x ∈ ys ↔ x ∈ xs ∨ x ∈ ns
theorem countTo {l : List Ty} {k : Nat} {q : Ty} (h : l[k]? = some q) : ((l.take k).map Ty.count).sum + q.count ≤ (l.map Ty.count).sum:=by
 have e : l = l.take k ++ l.drop k:=(List.take_append_drop k l).symm
 have hd : l.drop k = q :: l.drop (k + 1):=by
  have hlt:=(List.getElem?_eq_some_iff.1 h).1
  rw [List.drop_eq_getElem_cons hlt,(List.getElem?_eq_some_iff.1 h).2]
 conv => rhs; rw [e,hd]
 simp
theorem sum_take_succ {l : List Ty} {k : Nat} {q : Ty} (h : l[k]? = some q) : ((l.take (k + 1)).map Ty.count).sum = ((l.take k).map Ty.count).sum + q.count:=by
 rw [List.take_add_one,h]
 simp
theorem flat_take_succ {f : Ty → List ByteArray} {l : List Ty} {k : Nat} {q : Ty} (h : l[k]? = some q) (x : ByteArray) : x ∈ (l.take (k + 1)).flatMap f ↔ x ∈ (l.take k).flatMap f ∨ x ∈ f q:=by
 rw [List.take_add_one,h]
 simp
set_option maxRecDepth 100000 in
set_option maxHeartbeats 4000000 in
theorem rVars_any (B : Nat) : ∀ (t : Ty) (w : World) (v : Value) (xs : List ByteArray),t.In B w → Texts B w v xs → B ≤ w.heap.size → xs.length + t.count ≤ 1048576 →
  Calls Tryz.prog 139 #[t.val,v] w (SetPost B w xs t.count t.varsL):=by
 refine Ty.induct fun d n A c l ih w v xs hin hx hB hlen => ?_
 obtain ⟨hd,hn,hl,-,hrow,hall⟩:=Ty.In_mk.1 hin
 rw [Ty.count_mk] at hlen ⊢
 rw [Ty.varsL_mk]
 have HR:=Lib.hid hrow
 have HA:=Lib.hid hall
 have IH:=Lib.hid ih
 have HX:=Lib.hid hx
 obtain ⟨A0,c0,rfl,-⟩:=hx
 clear hin hrow hall ih
 have HB0:=Lib.hid ((Below.refl B w).alloc hB (.cells #[.string d,.string n,.slice A l.length c] 25))
 have HK:=Lib.hid (Blk.new w #[.string d,.string n,.slice A l.length c] 25)
 unfold Ty.val isDo
 simp only [Ty.dof,Ty.name,Ty.at_,Ty.cap,Ty.args]
 obtain ⟨tv,hv⟩ : ∃ t,(d.toList == [118,97,114]) = t:=⟨_,rfl⟩
 rw [hv]
 cases tv
 case true =>
  have HP:=Lib.hid (fun (W : World) (hb : Below B w W) (hW : w.heap.size ≤ W.heap.size) (hkeep : Texts B W (.slice A0 xs.length c0) xs) => put_any B W (.slice A0 xs.length c0) xs n hkeep (Nat.le_trans hB hW) (by omega))
  have HXA:=Lib.hid (show Texts B (w.alloc (.cells #[.string d,.string n,.slice A l.length c] 25)) (.slice A0 xs.length c0) xs from HX.out.keep ((Below.refl _ _).alloc (Nat.le_refl _) _))
  simp only [if_true]
  go_enter Tryz.func139,Tryz.ntmps139
  go_wp2_with fail
  refine Calls.mono (HP.out _ HB0.out (by simp) HXA.out) ?_
  rintro e w1 ⟨hb1,v1,ys,rfl,hy,hyl,hym⟩
  have HB1:=Lib.hid (HB0.out.trans hb1)
  have HY:=Lib.hid hy
  have HYM:=Lib.hid hym
  have HYL:=Lib.hid hyl
  clear hb1 hy hym hyl
  go_wp2_with fail
  go_ret
  refine ⟨HB1.out,_,ys,rfl,HY.out,by have:=HYL.out; omega,fun x => ?_⟩
  rw [HYM.out]
  simp
 case false =>
  simp only [Bool.false_eq_true,if_false]
  have hsum : Hid (xs.length + (l.map Ty.count).sum ≤ 1048576):=Lib.hid (by omega)
  have hsum2 : Hid ((l.map Ty.count).sum ≤ 1 + (l.map Ty.count).sum):=Lib.hid (by omega)
  generalize hc1 : 1 + (l.map Ty.count).sum = cnt at hlen hsum2 ⊢
  clear hc1
  go_enter Tryz.func139,Tryz.ntmps139
  go_wp2_with fail
  have HW0:=Lib.hid (show Texts B (w.alloc (.cells #[.string d,.string n,.slice A l.length c] 25)) (.slice A0 xs.length c0) xs from HX.out.keep ((Below.refl _ _).alloc (Nat.le_refl _) _))
  have hs0 : B ≤ (w.alloc (.cells #[.string d,.string n,.slice A l.length c] 25)).heap.size:=by simp; omega
  generalize w.alloc (.cells #[.string d,.string n,.slice A l.length c] 25) = w0 at HB0 HK HW0 hs0 ⊢
  go_loopw [17,1] (fun iv ov wr => ∃ (k : Nat) (ys : List ByteArray) (Ay : Option Addr) (cy : Nat),iv = .int .i64 k ∧ k ≤ l.length ∧ ov = .slice Ay ys.length cy ∧ Hid (Below B w0 wr) ∧ Hid (Texts B wr (.slice Ay ys.length cy) ys) ∧ Hid (ys.length ≤ xs.length + ((l.take k).map Ty.count).sum) ∧ Hid (∀ x,x ∈ ys ↔ x ∈ xs ∨ x ∈ (l.take k).flatMap Ty.varsL)) (fun iv _ _ => l.length - (intOf iv).toNat)
  case atStart => exact ⟨0,xs,A0,c0,rfl,Nat.zero_le _,rfl,Below.refl _ _,HW0.out,Lib.hid (by simp),Lib.hid (fun x => by simp)⟩
  case round =>
   obtain ⟨k,ys,Ay,cy,rfl,hk,rfl,HC,HT,HL,HM⟩:=hrel
   have HBW:=Lib.hid (HB0.out.trans HC.out)
   by_cases hlt : k < l.length
   ·obtain ⟨q,b0,off,hq,hmem,rfl,hb,x0,x1,x2⟩:=Ty.arg_at HR.out HBW.out hlt
    have HQ:=Lib.hid (Ty.In.keep HBW.out _ (HA.out q hmem))
    have HQK:=Lib.hid hq
    have hqs : ys.length + q.count ≤ 1048576:=by
     have h1:=countTo hq
     have h2:=hsum.out
     have h3:=HL.out
     omega
    have HCC:=Lib.hid (fun (W : World) (hp : q.In B W) (ht : Texts B W (.slice Ay ys.length cy) ys) (hW : B ≤ W.heap.size) => IH.out q hmem W (.slice Ay ys.length cy) ys hp ht hW hqs)
    have hsr : B ≤ wr.heap.size:=Nat.le_trans hs0 HC.out.size
    unfold Ty.val at HCC
    clear hq hqs
    go_wp2_with fail
    refine Calls.mono (HCC.out _ (Ty.In.keep ((Below.refl B wr).alloc hsr _) _ HQ.out) (HT.out.keep ((Below.refl _ _).alloc (Nat.le_refl _) _)) (by simp; omega)) ?_
    rintro e w1 ⟨hb1,v1,zs,rfl,hz,hzl,hzm⟩
    obtain ⟨Az,cz,rfl,hzr⟩:=hz
    have HB1:=Lib.hid (HC.out.trans (((Below.refl B wr).alloc hsr _).trans hb1))
    have HZ:=Lib.hid (show Texts B w1 (.slice Az zs.length cz) zs from ⟨Az,cz,rfl,hzr⟩)
    have HZM:=Lib.hid hzm
    have HZL:=Lib.hid hzl
    clear hb1 hzr hzm hzl
    go_wp2_with fail
    refine ⟨⟨k + 1,zs,Az,cz,by go_num,by omega,rfl,HB1.out,HZ.out, ?_, ?_⟩,by simp [intOf]; omega⟩
    ·refine Lib.hid ?_
     have h3:=HL.out
     have h4:=HZL.out
     rw [sum_take_succ HQK.out]
     omega
    ·refine Lib.hid fun x => ?_
     rw [HZM.out,HM.out,flat_take_succ HQK.out,or_assoc]
   ·have hk2 : k = l.length:=by omega
    have hm:=HM.out
    have hl2:=HL.out
    rw [hk2,List.take_length] at hm hl2
    have HM2:=Lib.hid hm
    have HL2:=Lib.hid hl2
    clear hm hl2 hk2
    go_wp2_with fail
    go_ret
    refine ⟨HBW.out,_,ys,rfl,HT.out, ?_,HM2.out⟩
    have h5:=HL2.out
    have h6:=hsum2.out
    omega
set_option maxHeartbeats 1000000 in
theorem rVarsOf_any (t : Ty) (w : World) (hin : t.In w.heap.size w) (hlen : t.count ≤ 1048576) :
  Calls Tryz.prog 115 #[t.val] w (SetPost w.heap.size w [] t.count t.varsL):=by
 have HI:=Lib.hid hin
 have HC:=Lib.hid (fun (W : World) (hW : Below w.heap.size w W) => rVars_any w.heap.size t W (.slice none 0 0) [] (Ty.In.keep hW _ HI.out) (Texts.nil _ _) hW.size (by simpa using hlen))
 have HB0:=Lib.hid ((Below.refl w.heap.size w).alloc (Nat.le_refl _) (.cells #[.string t.dof,.string t.name,.slice t.at_ t.args.length t.cap] 25))
 clear hin
 unfold Ty.val at *
 go_enter Tryz.func115,Tryz.ntmps115
 go_wp2_with fail
 refine Calls.mono (HC.out _ HB0.out) ?_
 rintro e w1 ⟨hb1,v1,ys,rfl,hy,hyl,hym⟩
 have HB1:=Lib.hid (HB0.out.trans hb1)
 have HY:=Lib.hid hy
 have HYM:=Lib.hid hym
 have HYL:=Lib.hid hyl
 clear hb1 hy hym hyl
 go_wp2_with fail
 go_ret
 exact ⟨HB1.out,_,ys,rfl,HY.out,HYL.out,HYM.out⟩
set_option maxRecDepth 100000 in
set_option maxHeartbeats 4000000 in
theorem rDatas_any (B : Nat) : ∀ (t : Ty) (w : World) (v : Value) (xs : List ByteArray),t.In B w → Texts B w v xs → B ≤ w.heap.size → xs.length + t.count ≤ 1048576 →
  Calls Tryz.prog 140 #[t.val,v] w (SetPost B w xs t.count t.datasL):=by
 refine Ty.induct fun d n A c l ih w v xs hin hx hB hlen => ?_
 obtain ⟨hd,hn,hl,-,hrow,hall⟩:=Ty.In_mk.1 hin
 rw [Ty.count_mk] at hlen ⊢
 rw [Ty.datasL_mk]
 have HR:=Lib.hid hrow
 have HA:=Lib.hid hall
 have IH:=Lib.hid ih
 have HX:=Lib.hid hx
 obtain ⟨A0,c0,rfl,-⟩:=hx
 clear hin hrow hall ih
 have HB0:=Lib.hid ((Below.refl B w).alloc hB (.cells #[.string d,.string n,.slice A l.length c] 25))
 have HK:=Lib.hid (Blk.new w #[.string d,.string n,.slice A l.length c] 25)
 unfold Ty.val isDo
 simp only [Ty.dof,Ty.name,Ty.at_,Ty.cap,Ty.args]
 obtain ⟨tv,hv⟩ : ∃ t,(d.toList == [100,97,116,97]) = t:=⟨_,rfl⟩
 rw [hv]
 cases tv
 case true =>
  have HP:=Lib.hid (fun (W : World) (hb : Below B w W) (hW : w.heap.size ≤ W.heap.size) (hkeep : Texts B W (.slice A0 xs.length c0) xs) => put_any B W (.slice A0 xs.length c0) xs n hkeep (Nat.le_trans hB hW) (by omega))
  have HXA:=Lib.hid (show Texts B (w.alloc (.cells #[.string d,.string n,.slice A l.length c] 25)) (.slice A0 xs.length c0) xs from HX.out.keep ((Below.refl _ _).alloc (Nat.le_refl _) _))
  simp only [if_true]
  go_enter Tryz.func140,Tryz.ntmps140
  go_wp2_with fail
  refine Calls.mono (HP.out _ HB0.out (by simp) HXA.out) ?_
  rintro e w1 ⟨hb1,v1,ys,rfl,hy,hyl,hym⟩
  have HB1:=Lib.hid (HB0.out.trans hb1)
  have HY:=Lib.hid hy
  have HYM:=Lib.hid hym
  have HYL:=Lib.hid hyl
  clear hb1 hy hym hyl
  go_wp2_with fail
  go_ret
  refine ⟨HB1.out,_,ys,rfl,HY.out,by have:=HYL.out; omega,fun x => ?_⟩
  rw [HYM.out]
  simp
 case false =>
  simp only [Bool.false_eq_true,if_false]
  have hsum : Hid (xs.length + (l.map Ty.count).sum ≤ 1048576):=Lib.hid (by omega)
  have hsum2 : Hid ((l.map Ty.count).sum ≤ 1 + (l.map Ty.count).sum):=Lib.hid (by omega)
  generalize hc1 : 1 + (l.map Ty.count).sum = cnt at hlen hsum2 ⊢
  clear hc1
  go_enter Tryz.func140,Tryz.ntmps140
  go_wp2_with fail
  have HW0:=Lib.hid (show Texts B (w.alloc (.cells #[.string d,.string n,.slice A l.length c] 25)) (.slice A0 xs.length c0) xs from HX.out.keep ((Below.refl _ _).alloc (Nat.le_refl _) _))
  have hs0 : B ≤ (w.alloc (.cells #[.string d,.string n,.slice A l.length c] 25)).heap.size:=by simp; omega
  generalize w.alloc (.cells #[.string d,.string n,.slice A l.length c] 25) = w0 at HB0 HK HW0 hs0 ⊢
  go_loopw [17,1] (fun iv ov wr => ∃ (k : Nat) (ys : List ByteArray) (Ay : Option Addr) (cy : Nat),iv = .int .i64 k ∧ k ≤ l.length ∧ ov = .slice Ay ys.length cy ∧ Hid (Below B w0 wr) ∧ Hid (Texts B wr (.slice Ay ys.length cy) ys) ∧ Hid (ys.length ≤ xs.length + ((l.take k).map Ty.count).sum) ∧ Hid (∀ x,x ∈ ys ↔ x ∈ xs ∨ x ∈ (l.take k).flatMap Ty.datasL)) (fun iv _ _ => l.length - (intOf iv).toNat)
  case atStart => exact ⟨0,xs,A0,c0,rfl,Nat.zero_le _,rfl,Below.refl _ _,HW0.out,Lib.hid (by simp),Lib.hid (fun x => by simp)⟩
  case round =>
   obtain ⟨k,ys,Ay,cy,rfl,hk,rfl,HC,HT,HL,HM⟩:=hrel
   have HBW:=Lib.hid (HB0.out.trans HC.out)
   by_cases hlt : k < l.length
   ·obtain ⟨q,b0,off,hq,hmem,rfl,hb,x0,x1,x2⟩:=Ty.arg_at HR.out HBW.out hlt
    have HQ:=Lib.hid (Ty.In.keep HBW.out _ (HA.out q hmem))
    have HQK:=Lib.hid hq
    have hqs : ys.length + q.count ≤ 1048576:=by
     have h1:=countTo hq
     have h2:=hsum.out
     have h3:=HL.out
     omega
    have HCC:=Lib.hid (fun (W : World) (hp : q.In B W) (ht : Texts B W (.slice Ay ys.length cy) ys) (hW : B ≤ W.heap.size) => IH.out q hmem W (.slice Ay ys.length cy) ys hp ht hW hqs)
    have hsr : B ≤ wr.heap.size:=Nat.le_trans hs0 HC.out.size
    unfold Ty.val at HCC
    clear hq hqs
    go_wp2_with fail
    refine Calls.mono (HCC.out _ (Ty.In.keep ((Below.refl B wr).alloc hsr _) _ HQ.out) (HT.out.keep ((Below.refl _ _).alloc (Nat.le_refl _) _)) (by simp; omega)) ?_
    rintro e w1 ⟨hb1,v1,zs,rfl,hz,hzl,hzm⟩
    obtain ⟨Az,cz,rfl,hzr⟩:=hz
    have HB1:=Lib.hid (HC.out.trans (((Below.refl B wr).alloc hsr _).trans hb1))
    have HZ:=Lib.hid (show Texts B w1 (.slice Az zs.length cz) zs from ⟨Az,cz,rfl,hzr⟩)
    have HZM:=Lib.hid hzm
    have HZL:=Lib.hid hzl
    clear hb1 hzr hzm hzl
    go_wp2_with fail
    refine ⟨⟨k + 1,zs,Az,cz,by go_num,by omega,rfl,HB1.out,HZ.out, ?_, ?_⟩,by simp [intOf]; omega⟩
    ·refine Lib.hid ?_
     have h3:=HL.out
     have h4:=HZL.out
     rw [sum_take_succ HQK.out]
     omega
    ·refine Lib.hid fun x => ?_
     rw [HZM.out,HM.out,flat_take_succ HQK.out,or_assoc]
   ·have hk2 : k = l.length:=by omega
    have hm:=HM.out
    have hl2:=HL.out
    rw [hk2,List.take_length] at hm hl2
    have HM2:=Lib.hid hm
    have HL2:=Lib.hid hl2
    clear hm hl2 hk2
    go_wp2_with fail
    go_ret
    refine ⟨HBW.out,_,ys,rfl,HT.out, ?_,HM2.out⟩
    have h5:=HL2.out
    have h6:=hsum2.out
    omega
set_option maxHeartbeats 1000000 in
theorem rDatasOf_any (t : Ty) (w : World) (hin : t.In w.heap.size w) (hlen : t.count ≤ 1048576) :
  Calls Tryz.prog 116 #[t.val] w (SetPost w.heap.size w [] t.count t.datasL):=by
 have HI:=Lib.hid hin
 have HC:=Lib.hid (fun (W : World) (hW : Below w.heap.size w W) => rDatas_any w.heap.size t W (.slice none 0 0) [] (Ty.In.keep hW _ HI.out) (Texts.nil _ _) hW.size (by simpa using hlen))
 have HB0:=Lib.hid ((Below.refl w.heap.size w).alloc (Nat.le_refl _) (.cells #[.string t.dof,.string t.name,.slice t.at_ t.args.length t.cap] 25))
 clear hin
 unfold Ty.val at *
 go_enter Tryz.func116,Tryz.ntmps116
 go_wp2_with fail
 refine Calls.mono (HC.out _ HB0.out) ?_
 rintro e w1 ⟨hb1,v1,ys,rfl,hy,hyl,hym⟩
 have HB1:=Lib.hid (HB0.out.trans hb1)
 have HY:=Lib.hid hy
 have HYM:=Lib.hid hym
 have HYL:=Lib.hid hyl
 clear hb1 hy hym hyl
 go_wp2_with fail
 go_ret
 exact ⟨HB1.out,_,ys,rfl,HY.out,HYL.out,HYM.out⟩
end Go.Proofs.YtjeggkfgdhepaaaGreatDoor

namespace Go.Proofs.YtjeggkfgdhepaaaGreatDoor
open Go.RowKit
open Go.Proofs
def dtFound (l : List Dt) (n : ByteArray) : Value × Bool:=match l.find? fun d => d.name.toList == n.toList with | some d => (d.val,true) | none => (zDt,false)
theorem find_hit {α : Type} {l : List α} {p : α → Bool} {i : Nat} {q : α} (hq : l[i]? = some q) (hp : p q = true) (hn : ∀ j x,j < i → l[j]? = some x → p x = false) : l.find? p = some q:=by
 induction l generalizing i with
 | nil => simp at hq
 | cons y l ih =>
  cases i with
  | zero =>
   simp only [List.getElem?_cons_zero,Option.some.injEq] at hq
   subst hq
   rw [List.find?_cons_of_pos hp]
  | succ i =>
   have hy:=hn 0 y (by omega) rfl
   rw [List.find?_cons_of_neg (by rw [hy]; simp)]
   exact ih (i:=i) hq (fun j x hj hx => hn (j + 1) x (by omega) hx)
theorem find_miss {α : Type} {l : List α} {p : α → Bool} (hn : ∀ j x,j < l.length → l[j]? = some x → p x = false) : l.find? p = none:=by
 rw [List.find?_eq_none]
 intro x hx
 obtain ⟨j,hj⟩:=List.getElem?_of_mem hx
 rw [hn j x (List.getElem?_eq_some_iff.1 hj).1 hj]
 simp
theorem not_before {α : Type} {l : List α} {p : α → Bool} {k : Nat} {q : α} (h : ∀ j x,j < k → l[j]? = some x → p x = false) (hq : l[k]? = some q) (hp : p q = false) : ∀ j x,j < k + 1 → l[j]? = some x → p x = false:=by
 intro j x hj hx
 rcases Nat.lt_succ_iff_lt_or_eq.1 hj with hj | rfl
 ·exact h j x hj hx
 ·rw [hq] at hx
  simp only [Option.some.injEq] at hx
  subst hx
  exact hp
set_option maxRecDepth 100000 in
set_option maxHeartbeats 2000000 in
theorem datatype_any (A : Option Addr) (l : List Dt) (c : Nat) (n : ByteArray) (w : World) (h : DtsIn w.heap.size w A l) :
  Calls Tryz.prog 78 #[.slice A l.length c,.string n] w fun e w' => e = .returned (.tuple #[(dtFound l n).1,.bool (dtFound l n).2]) ∧ Below w.heap.size w w':=by
 have H:=Lib.hid h
 have hl:=h.len
 clear h
 have hz : ∀ W,(zeroValue 111).run Tryz.prog W = .ok (.agg #[.string emptyS,.slice none 0 0]) W:=zeroDt
 have HB0:=Lib.hid ((Below.refl w.heap.size w).alloc (Nat.le_refl _) (.cells #[.string emptyS,.slice none 0 0] 111))
 have HK:=Lib.hid (Blk.new w #[.string emptyS,.slice none 0 0] 111)
 go_enter Tryz.func78,Tryz.ntmps78
 go_wp2_with fail
 generalize hw0 : w.alloc (.cells #[.string emptyS,.slice none 0 0] 111) = w0 at HB0 HK ⊢
 go_loopw [10] (fun iv wr => ∃ k : Nat,iv = .int .i64 k ∧ k ≤ l.length ∧ Hid (Below w0.heap.size w0 wr) ∧ Hid (∀ j x,j < k → l[j]? = some x → (x.name.toList == n.toList) = false)) (fun iv _ => l.length - (intOf iv).toNat)
 case atStart => exact ⟨0,rfl,Nat.zero_le _,Below.refl _ _,Lib.hid fun j x hj => absurd hj (Nat.not_lt_zero _)⟩
 case round =>
  obtain ⟨k,rfl,hk,HC,HN⟩:=hrel
  have HBW:=Lib.hid (HB0.out.trans (HC.out.mono HB0.out.size))
  have HKR:=Lib.hid (HK.out.below HC.out HK.out.lt)
  obtain ⟨z0,z1⟩:=HKR.out.two
  have zl:=HKR.out.lt
  have zf : wr.frozen? ⟨w.heap.size,0,none⟩ = false:=HKR.out.free 0
  have zf1 : wr.frozen? ⟨w.heap.size,1,none⟩ = false:=HKR.out.free 1
  by_cases hlt : k < l.length
  ·obtain ⟨q,b0,off,hq,hmem,rfl,hb,x0,x1⟩:=Dt.arg_at H.out.row HBW.out hlt
   have HQ:=Lib.hid hq
   clear hq
   obtain ⟨t,ht⟩ : ∃ t,(q.name.toList == n.toList) = t:=⟨_,rfl⟩
   have HT:=Lib.hid ht
   cases t
   ·go_wp2_with fail
    refine ⟨⟨k + 1,by go_num,by omega,HC.out.trans ((Below.refl _ _).alloc HC.out.size _),Lib.hid (not_before HN.out HQ.out HT.out)⟩,by simp [intOf]; omega⟩
   ·have HF:=Lib.hid (show dtFound l n = (q.val,true) by unfold dtFound; rw [find_hit HQ.out HT.out HN.out])
    have HP2:=Lib.hid ((((HKR.out.set 0 (.string q.name)).set 1 (.slice q.at_ q.cons.length q.cap))).alloc (.cells #[.string q.name,.slice q.at_ q.cons.length q.cap] 111))
    obtain ⟨r0,r1⟩:=HP2.out.two
    have HB9:=Lib.hid (((HBW.out.setCell (p:=⟨w.heap.size,0,none⟩) (Nat.le_refl _) (.string q.name)).setCell (p:=⟨w.heap.size,1,none⟩) (Nat.le_refl _) (.slice q.at_ q.cons.length q.cap)).alloc (by have:=HBW.out.size; simpa [World.setCell] using this) (.cells #[.string q.name,.slice q.at_ q.cons.length q.cap] 111))
    go_wp2_with fail
    exact bodyPost_ret (v:=.tuple #[.agg #[.string q.name,.slice q.at_ q.cons.length q.cap],.bool true]) (by simp [results,Tryz.results78,go_sem,r0,r1]) rfl ⟨by rw [HF.out]; rfl,HB9.out⟩
  ·have hk2 : k = l.length:=by omega
   have hn:=HN.out
   rw [hk2] at hn
   have HF:=Lib.hid (show dtFound l n = (zDt,false) by unfold dtFound; rw [find_miss hn])
   have HP2:=Lib.hid ((((HKR.out.set 0 (.string emptyS)).set 1 (.slice none 0 0))))
   obtain ⟨r0,r1⟩:=HP2.out.two
   have HB9:=Lib.hid ((HBW.out.setCell (p:=⟨w.heap.size,0,none⟩) (Nat.le_refl _) (.string emptyS)).setCell (p:=⟨w.heap.size,1,none⟩) (Nat.le_refl _) (.slice none 0 0))
   clear hn hk2
   go_wp2_with fail
   exact bodyPost_ret (v:=.tuple #[.agg #[.string emptyS,.slice none 0 0],.bool false]) (by simp [results,Tryz.results78,go_sem,r0,r1]) rfl ⟨by rw [HF.out]; rfl,HB9.out⟩
def allHas (l : List Dt) (ns : List ByteArray) : Bool:=ns.all (hasDt l)
theorem dtFound_has (l : List Dt) (n : ByteArray) : (dtFound l n).2 = hasDt l n:=by
 unfold dtFound hasDt
 cases h : l.find? fun d => d.name.toList == n.toList with
 | none =>
  have:=List.find?_eq_none.1 h
  rw [eq_comm,List.any_eq_false]
  exact this
 | some d =>
  rw [eq_comm,List.any_eq_true]
  exact ⟨d,List.mem_of_find?_eq_some h,by simpa using List.find?_some h⟩
theorem dtFound_form (l : List Dt) (n : ByteArray) : ∃ a b m k,(dtFound l n).1 = .agg #[.string a,.slice b m k]:=by
 unfold dtFound
 cases l.find? fun d => d.name.toList == n.toList with
 | none => exact ⟨_,_,_,_,rfl⟩
 | some d => exact ⟨_,_,_,_,rfl⟩
theorem all_same {l : List Dt} {a b : List ByteArray} (h : ∀ x,x ∈ a ↔ x ∈ b) : a.all (hasDt l) = b.all (hasDt l):=by
 rw [Bool.eq_iff_iff]
 simp only [List.all_eq_true]
 exact ⟨fun h1 x hx => h1 x ((h x).2 hx),fun h1 x hx => h1 x ((h x).1 hx)⟩
set_option maxRecDepth 100000 in
set_option maxHeartbeats 4000000 in
theorem closedIn_any (A : Option Addr) (l : List Dt) (c : Nat) (t : Ty) (w : World) (he : Env w) (h : DtsIn w.heap.size w A l) (ht : t.In w.heap.size w) (hcnt : t.count ≤ 1048576) :
  Calls Tryz.prog 75 #[.slice A l.length c,t.val] w fun e w' => e = .returned (.bool (closedB l t)) ∧ Below w.heap.size w w':=by
 have HE:=Lib.hid he
 have H:=Lib.hid h
 have HT:=Lib.hid ht
 have HC1:=Lib.hid (fun (W : World) (hW : Below w.heap.size w W) => rValidType_any t W (HE.out.next hW) (HT.out.next hW))
 have HC2:=Lib.hid (fun (W : World) (hW : Below w.heap.size w W) => rVarsOf_any t W (HT.out.next hW) hcnt)
 have HC3:=Lib.hid (fun (W : World) (hW : Below w.heap.size w W) => rDatasOf_any t W (HT.out.next hW) hcnt)
 have HC4:=Lib.hid (fun (n : ByteArray) (W : World) (hW : Below w.heap.size w W) => datatype_any A l c n W (H.out.next hW))
 clear he h ht
 have HCB:=Lib.hid (show closedB l t = (t.valid (kindB .con) && (!t.hasVar && t.datasL.all (hasDt l))) from rfl)
 have hvv:=hasVar_vars t
 generalize closedB l t = res at HCB ⊢
 generalize t.valid (kindB .con) = vb at HC1 HCB
 generalize t.hasVar = hv at HCB hvv
 have HVV:=Lib.hid hvv
 clear hvv
 have HB0:=Lib.hid ((Below.refl w.heap.size w).alloc (Nat.le_refl _) (.cells #[.string t.dof,.string t.name,.slice t.at_ t.args.length t.cap] 25))
 have HK:=Lib.hid (Blk.new w #[.string t.dof,.string t.name,.slice t.at_ t.args.length t.cap] 25)
 unfold Ty.val at *
 cases vb
 case false =>
  go_enter Tryz.func75,Tryz.ntmps75
  go_wp2_with fail
  refine Calls.mono (HC1.out _ HB0.out) ?_
  rintro e w1 ⟨rfl,hb1⟩
  have HB1:=Lib.hid (HB0.out.trans (hb1.mono HB0.out.size))
  clear hb1
  go_wp2_with fail
  go_ret
  exact ⟨by rw [HCB.out]; rfl,HB1.out⟩
 case true =>
  go_enter Tryz.func75,Tryz.ntmps75
  go_wp2_with fail
  refine Calls.mono (HC1.out _ HB0.out) ?_
  rintro e w1 ⟨rfl,hb1⟩
  have HB1:=Lib.hid (HB0.out.trans (hb1.mono HB0.out.size))
  have HK1:=Lib.hid (HK.out.below hb1 HK.out.lt)
  clear hb1
  obtain ⟨y0,y1,y2⟩:=HK1.out.three
  have yl:=HK1.out.lt
  go_wp2_with fail
  refine Calls.mono (HC2.out _ HB1.out) ?_
  rintro e w2 ⟨hb2,v2,ys,rfl,hy,-,hym⟩
  obtain ⟨A2,c2,rfl,-⟩:=hy
  have HB2:=Lib.hid (HB1.out.trans (hb2.mono HB1.out.size))
  have HK2:=Lib.hid (HK1.out.below hb2 HK1.out.lt)
  clear hb2 y0 y1 y2 yl
  obtain ⟨y0,y1,y2⟩:=HK2.out.three
  have yl:=HK2.out.lt
  have hz : (ys.length = 0) ↔ hv = false:=by
   rw [HVV.out]
   constructor
   ·intro h0
    have : ys = []:=List.eq_nil_of_length_eq_zero h0
    subst this
    cases hvl : t.varsL with
    | nil => rfl
    | cons x r =>
     have:=(hym x).2 (.inr (by rw [hvl]; simp))
     simp at this
   ·intro h0
    have h0' : t.varsL = []:=by
     cases hvl : t.varsL with
     | nil => rfl
     | cons x r => rw [hvl] at h0; simp at h0
    cases ys with
    | nil => rfl
    | cons x r =>
     have:=(hym x).1 (by simp)
     rw [h0'] at this
     simp at this
  cases hv
  case true =>
   have hpos : 0 < ys.length:=by
    rcases Nat.eq_zero_or_pos ys.length with h0 | h0
    ·exact absurd (hz.1 h0) (by simp)
    ·exact h0
   have hpi : (0 : Int) < (ys.length : Int):=by omega
   clear hym hz
   go_wp2_with fail
   go_ret
   exact ⟨by rw [HCB.out]; rfl,HB2.out⟩
  case false =>
   have h0 : ys.length = 0:=hz.2 rfl
   have hys : ys = []:=List.eq_nil_of_length_eq_zero h0
   subst hys
   clear hym hz h0
   go_wp2_with fail
   refine Calls.mono (HC3.out _ HB2.out) ?_
   rintro e w3 ⟨hb3,v3,zs,rfl,hzz,hzl,hzm⟩
   obtain ⟨A3,c3,rfl,hzr⟩:=hzz
   have HB3:=Lib.hid (HB2.out.trans (hb3.mono HB2.out.size))
   have HZR:=Lib.hid hzr
   have hzlen : zs.length ≤ 1048576:=by simpa using Nat.le_trans hzl (by simpa using hcnt)
   have HALL:=Lib.hid (show t.datasL.all (hasDt l) = zs.all (hasDt l) from all_same fun x => by rw [hzm]; simp)
   clear hb3 y0 y1 y2 yl hzr hzm hzl
   go_wp2_with fail
   go_loopw [21] (fun iv wr => ∃ k : Nat,iv = .int .i64 k ∧ k ≤ zs.length ∧ Hid (Below w3.heap.size w3 wr) ∧ Hid ((zs.take k).all (hasDt l) = true)) (fun iv _ => zs.length - (intOf iv).toNat)
   case atStart => exact ⟨0,rfl,Nat.zero_le _,Below.refl _ _,Lib.hid rfl⟩
   case round =>
    obtain ⟨k,rfl,hk,HC,HM⟩:=hrel
    have HBW:=Lib.hid (HB3.out.trans (HC.out.mono HB3.out.size))
    by_cases hlt : k < zs.length
    ·obtain ⟨s,hs⟩ : ∃ s,zs[k]? = some s:=⟨_,List.getElem?_eq_getElem hlt⟩
     have hrow:=row_stays HZR.out fun j hj => HC.out.block j (HZR.out.lt j hj).2
     obtain ⟨g,rfl,hc,-⟩:=row_cell hrow k (.string s) (by simp [hs])
     have HS:=Lib.hid hs
     clear hs hrow
     go_wp2_with fail
     refine Calls.mono (HC4.out s _ HBW.out) ?_
     rintro e w4 ⟨rfl,hb4⟩
     have HB4:=Lib.hid (HC.out.trans (hb4.mono HC.out.size))
     clear hb4
     rw [dtFound_has]
     obtain ⟨fa,fb,fm,fk,hform⟩:=dtFound_form l s
     rw [hform]
     obtain ⟨r,hr⟩ : ∃ r,hasDt l s = r:=⟨_,rfl⟩
     rw [hr]
     have HR:=Lib.hid hr
     clear hr hform
     cases r
     ·go_wp2_with fail
      go_ret
      refine ⟨?_,(HB3.out.trans (HB4.out.mono HB3.out.size)).alloc (Nat.le_trans HB3.out.size HB4.out.size) _⟩
      rw [HCB.out,HALL.out,all_no HS.out HR.out]
      rfl
     ·go_wp2_with fail
      exact ⟨⟨k + 1,by go_num,by omega,HB4.out.alloc HB4.out.size _,Lib.hid (all_take_succ HS.out HM.out HR.out)⟩,by simp [intOf]; omega⟩
    ·have hk2 : k = zs.length:=by omega
     have hm:=HM.out
     rw [hk2,List.take_length] at hm
     have HM2:=Lib.hid hm
     clear hm hk2
     go_wp2_with fail
     go_ret
     refine ⟨?_,HBW.out⟩
     rw [HCB.out,HALL.out,HM2.out]
     rfl
end Go.Proofs.YtjeggkfgdhepaaaGreatDoor

namespace Go.Proofs.YtjeggkfgdhepaaaGreatDoor
open Go.RowKit
open Go.Proofs
set_option maxRecDepth 100000 in
set_option maxHeartbeats 2000000 in
theorem rSameNil_any (A : Option Addr) (n c : Nat) (w : World) :
  Calls Tryz.prog 117 #[.slice A n c,.slice none 0 0] w fun e w' => e = .returned (.bool ((n : Int) == 0)) ∧ w = w':=by
 rcases Nat.eq_zero_or_pos n with h0 | h0
 ·subst h0
  go_enter Tryz.func117,Tryz.ntmps117
  go_wp2_with fail
  go_loopw [13] (fun iv wr => iv = .int .i64 0 ∧ wr = w) (fun iv _ => 0)
  case atStart => exact ⟨rfl,rfl⟩
  case round =>
   obtain ⟨rfl,rfl⟩:=hrel
   go_wp2_with fail
   go_ret
   exact ⟨rfl,rfl⟩
 ·have h1 : ((n : Int) == 0) = false:=by simp; omega
  have h2 : ((n : Int) != 0) = true:=by simp; omega
  rw [h1]
  go_enter Tryz.func117,Tryz.ntmps117
  go_wp2_with fail
  go_ret
  exact ⟨rfl,rfl⟩
set_option maxRecDepth 100000 in
set_option maxHeartbeats 2000000 in
theorem rSameZero_any (t : Ty) (w : World) :
  Calls Tryz.prog 77 #[t.val,.agg #[.string ⟨#[]⟩,.string ⟨#[]⟩,.slice none 0 0]] w fun e w' => e = .returned (.bool t.zero) ∧ Below w.heap.size w w':=by
 obtain ⟨d,n,A,c,l⟩:=t
 unfold Ty.zero Ty.val
 simp only [Ty.dof,Ty.name,Ty.at_,Ty.cap,Ty.args]
 have HC:=Lib.hid (fun W => rSameNil_any A l.length c W)
 have HB0:=Lib.hid (((Below.refl w.heap.size w).alloc (Nat.le_refl _) (.cells #[.string d,.string n,.slice A l.length c] 25)).alloc (by simp) (.cells #[.string ⟨#[]⟩,.string ⟨#[]⟩,.slice none 0 0] 25))
 obtain ⟨b1,h1⟩ : ∃ b,(d.toList == []) = b:=⟨_,rfl⟩
 obtain ⟨b2,h2⟩ : ∃ b,(n.toList == []) = b:=⟨_,rfl⟩
 have h1':=(empty_both d).symm.trans h1
 have h2':=(empty_both n).symm.trans h2
 have he : (⟨#[]⟩ : ByteArray).toList = []:=empty_list
 rw [h1',h2']
 generalize ((l.length : Int) == 0) = b3 at HC ⊢
 cases b1
 ·go_enter Tryz.func77,Tryz.ntmps77
  go_wp2_with fail
  go_ret
  exact ⟨rfl,HB0.out⟩
 cases b2
 ·go_enter Tryz.func77,Tryz.ntmps77
  go_wp2_with fail
  go_ret
  exact ⟨rfl,HB0.out⟩
 ·go_enter Tryz.func77,Tryz.ntmps77
  go_wp2_with fail
  refine Calls.mono (HC.out _) ?_
  rintro e w1 ⟨rfl,rfl⟩
  go_wp2_with fail
  go_ret
  exact ⟨by simp,HB0.out⟩
end Go.Proofs.YtjeggkfgdhepaaaGreatDoor

namespace Go.Proofs.YtjeggkfgdhepaaaGreatDoor
open Go.RowKit
open Go.Proofs
structure TwoAt (B : Nat) (w : World) (At : Option Addr) (ct : Nat) (Ac : Option Addr) (cc : Nat) (ts cs : List ByteArray) : Prop where
 t : w.ownsRow B 9 1 (.slice At ts.length ct) ts.length (ts.map Value.string)
 c : w.ownsRow B 9 1 (.slice Ac cs.length cc) cs.length (cs.map Value.string)
 ne : ∀ k,(Value.slice At 0 0).ownBlock = some k → (Value.slice Ac 0 0).ownBlock ≠ some k
section
variable {B : Nat} {w w1 w2 : World} {At Ac : Option Addr} {ct cc : Nat} {ts cs : List ByteArray}
theorem TwoAt.keep (h : TwoAt B w At ct Ac cc ts cs) (hb : Below w.heap.size w w1) : TwoAt B w1 At ct Ac cc ts cs:=
 ⟨row_stays h.t fun k hk => hb.block k (h.t.lt k hk).2,row_stays h.c fun k hk => hb.block k (h.c.lt k hk).2,h.ne⟩
theorem TwoAt.nil (B : Nat) (w : World) : TwoAt B w none 0 none 0 [] []:=⟨World.ownsRow_nil _ _ _ _,World.ownsRow_nil _ _ _ _,fun k hk => by cases hk⟩
theorem TwoAt.putT {s : ByteArray} {v : Value} (h : TwoAt B w At ct Ac cc ts cs) (hown : w2.ownsRow B 9 1 v (ts.length + 1) (ts.map Value.string ++ [.string s])) (hg : w.grownBy w2 (Value.slice At ts.length ct).ownBlock)
  (hor : v.ownBlock = (Value.slice At ts.length ct).ownBlock ∨ v.ownBlock = some w.heap.size) : ∃ A' c',v = .slice A' (ts ++ [s]).length c' ∧ TwoAt B w2 A' c' Ac cc (ts ++ [s]) cs:=by
 obtain ⟨A',c',rfl,-⟩:=row_slice hown
 refine ⟨A',c',by simp,by simpa using hown, ?_, ?_⟩
 ·refine h.c.kept hg ?_
  cases hc : (Value.slice Ac cs.length cc).ownBlock with
  | none => exact .inl rfl
  | some k =>
   right
   intro e
   exact h.ne k (own_eq.1 e.symm) (own_eq.1 hc)
 ·intro k hk hk2
  rcases hor with ho | ho
  ·rw [own_is,own_is (A:=At)] at ho
   exact h.ne k (ho.symm.trans hk) hk2
  ·rw [own_is] at ho
   have e : k = w.heap.size:=Option.some.inj (hk.symm.trans ho)
   have:=(h.c.lt k (own_eq.2 hk2)).2
   omega
theorem TwoAt.putC {s : ByteArray} {v : Value} (h : TwoAt B w At ct Ac cc ts cs) (hown : w2.ownsRow B 9 1 v (cs.length + 1) (cs.map Value.string ++ [.string s])) (hg : w.grownBy w2 (Value.slice Ac cs.length cc).ownBlock)
  (hor : v.ownBlock = (Value.slice Ac cs.length cc).ownBlock ∨ v.ownBlock = some w.heap.size) : ∃ A' c',v = .slice A' (cs ++ [s]).length c' ∧ TwoAt B w2 At ct A' c' ts (cs ++ [s]):=by
 obtain ⟨A',c',rfl,-⟩:=row_slice hown
 refine ⟨A',c',by simp, ?_,by simpa using hown, ?_⟩
 ·refine h.t.kept hg ?_
  cases hc : (Value.slice At ts.length ct).ownBlock with
  | none => exact .inl rfl
  | some k =>
   right
   intro e
   exact h.ne k (own_eq.1 hc) (own_eq.1 e.symm)
 ·intro k hk hk2
  rcases hor with ho | ho
  ·rw [own_is,own_is (A:=Ac)] at ho
   exact h.ne k hk (ho.symm.trans hk2)
  ·rw [own_is] at ho
   have e : k = w.heap.size:=Option.some.inj (hk2.symm.trans ho)
   have:=(h.t.lt k (own_eq.2 hk)).2
   omega
end
theorem names_succ {l : List Dt} {k : Nat} {q : Dt} (h : l[k]? = some q) : (l.take (k + 1)).map Dt.name = (l.take k).map Dt.name ++ [q.name]:=by rw [List.take_add_one,h]; simp
theorem cnames_succ {l : List Cn} {k : Nat} {q : Cn} (h : l[k]? = some q) : (l.take (k + 1)).map Cn.name = (l.take k).map Cn.name ++ [q.name]:=by rw [List.take_add_one,h]; simp
theorem all_cons_succ {l : List Dt} {k : Nat} {q : Dt} (h : l[k]? = some q) : allCons (l.take (k + 1)) = allCons (l.take k) ++ q.cons:=by unfold allCons; rw [List.take_add_one,h]; simp
theorem allCons_len {l : List Dt} (k : Nat) (hc : consN l l.length ≤ 1048576) : (allCons (l.take k)).length ≤ 1048576:=by
 have h1:=consN_le l k
 have h2 : (allCons (l.take k)).length = consN l k:=by unfold allCons consN; rw [List.length_flatMap]
 omega
set_option maxRecDepth 100000 in
set_option maxHeartbeats 8000000 in
theorem sound_any (A : Option Addr) (l : List Dt) (c : Nat) (t : Ty) (w : World) (he : Env w) (h : DtsIn w.heap.size w A l) (ht : t.In w.heap.size w) (hcnt : t.count ≤ 1048576) (hcc : ∀ d ∈ l,∀ x ∈ d.cons,x.ty.count ≤ 1048576) :
  Calls Tryz.prog 38 #[.slice A l.length c,t.val] w fun e w' => e = .returned (.bool (soundB l t)) ∧ Below w.heap.size w w':=by
 have HE:=Lib.hid he
 have H:=Lib.hid h
 have HT:=Lib.hid ht
 have HCC:=Lib.hid hcc
 have hl:=h.len
 have hcons:=Lib.hid h.cons
 have HC1:=Lib.hid (fun (n : ByteArray) (hn : n.size ≤ 1099511627776) (W : World) (hW : Below w.heap.size w W) => rIsCon_any n hn W (HE.out.next hW))
 have HC2:=Lib.hid (fun (u : Ty) (hu : u.In w.heap.size w) (huc : u.count ≤ 1048576) (W : World) (hW : Below w.heap.size w W) => closedIn_any A l c u W (HE.out.next hW) (H.out.next hW) (hu.next hW) huc)
 have HC3:=Lib.hid (fun (u : Ty) (hu : u.In w.heap.size w) (W : World) (hW : Below w.heap.size w W) => rPlain_any u W (hu.next hW))
 have HC4:=Lib.hid (fun (u : Ty) (W : World) => rSameZero_any u W)
 have HC5:=Lib.hid (fun (W : World) (B : Nat) (v : Value) (xs : List ByteArray) (ht : Texts B W v xs) (hlen : xs.length ≤ 1048576) => differ_any B W v xs ht hlen)
 clear he h ht hcc
 have HPOST:=Lib.hid (fun (e : Ending) (w' : World) (b : Bool) (hb : Below w.heap.size w w') (h1 : soundB l t = b) (h2 : e = .returned (.bool b)) => (⟨by rw [h1]; exact h2,hb⟩ : e = .returned (.bool (soundB l t)) ∧ Below w.heap.size w w'))
 have HNO:=Lib.hid (fun (e : Ending) (w' : World) (hb : Below w.heap.size w w') (h1 : l.all (dtOk l) = false) (h2 : e = .returned (.bool false)) => HPOST.out e w' false hb (by unfold soundB; rw [h1]; rfl) h2)
 have HRES:=Lib.hid (show soundB l t = (l.all (dtOk l) && (distinctB (l.map Dt.name) && (distinctB ((allCons l).map Cn.name) && closedB l t))) from rfl)
 obtain ⟨i0,hi,hz0,hz1,hz2⟩:=info_parts infoStr
 have HB0:=Lib.hid ((Below.refl w.heap.size w).alloc (Nat.le_refl _) (.cells #[.string t.dof,.string t.name,.slice t.at_ t.args.length t.cap] 25))
 have HK:=Lib.hid (Blk.new w #[.string t.dof,.string t.name,.slice t.at_ t.args.length t.cap] 25)
 unfold Ty.val at *
 go_enter Tryz.func38,Tryz.ntmps38
 go_wp2_with fail
 generalize w.alloc (.cells #[.string t.dof,.string t.name,.slice t.at_ t.args.length t.cap] 25) = w0 at HB0 HK ⊢
 go_loopw [13,5,6] (fun iv tv cv wr => ∃ (k : Nat) (ts cs : List ByteArray) (At Ac : Option Addr) (ct cc : Nat),iv = .int .i64 k ∧ k ≤ l.length ∧ tv = .slice At ts.length ct ∧ cv = .slice Ac cs.length cc ∧ Hid (Below w0.heap.size w0 wr) ∧ Hid (TwoAt w0.heap.size wr At ct Ac cc ts cs) ∧
   Hid (ts = (l.take k).map Dt.name) ∧ Hid (cs = (allCons (l.take k)).map Cn.name) ∧ Hid ((l.take k).all (dtOk l) = true)) (fun iv _ _ _ => l.length - (intOf iv).toNat)
 case atStart => exact ⟨0,[],[],none,none,0,0,rfl,Nat.zero_le _,rfl,rfl,Below.refl _ _,TwoAt.nil _ _,rfl,rfl,rfl⟩
 case round =>
  obtain ⟨k,ts,cs,At,Ac,ct,cc,rfl,hk,rfl,rfl,HC,HTW,HTS,HCS,HM⟩:=hrel
  have HBW:=Lib.hid (HB0.out.trans (HC.out.mono HB0.out.size))
  by_cases hlt : k < l.length
  ·obtain ⟨q,b0,off,hq,hmem,rfl,hb,x0,x1⟩:=Dt.arg_at H.out.row HBW.out hlt
   have HQ:=Lib.hid hq
   have hqi:=H.out.each q hmem
   have HQN:=Lib.hid hqi.1
   have HQR:=Lib.hid hqi.2.2.2.1
   have HQE:=Lib.hid hqi.2.2.2.2
   have hqlen:=hqi.2.1
   have HQC:=Lib.hid (HCC.out q hmem)
   have HBQ:=Lib.hid (HC.out.alloc HC.out.size (.cells #[.string q.name,.slice q.at_ q.cons.length q.cap] 111))
   have HKQ:=Lib.hid (Blk.new wr #[.string q.name,.slice q.at_ q.cons.length q.cap] 111)
   have HTW1:=Lib.hid (HTW.out.keep (w1:=wr.alloc (.cells #[.string q.name,.slice q.at_ q.cons.length q.cap] 111)) ((Below.refl _ _).alloc (Nat.le_refl _) _))
   have HDK:=Lib.hid (show dtOk l q = (kindB .con q.name && (decide (0 < q.cons.length) && q.cons.all (conOk l))) from rfl)
   have HBAD:=Lib.hid (fun (h1 : dtOk l q = false) => all_no HQ.out h1)
   obtain ⟨kb,hkb⟩ : ∃ b,kindB .con q.name = b:=⟨_,rfl⟩
   have HC1q:=Lib.hid (HC1.out q.name HQN.out)
   rw [hkb] at HC1q HDK
   clear hq hqi hkb
   cases kb
   case false =>
    go_wp2_with fail
    refine Calls.mono (HC1q.out _ (HB0.out.trans (HBQ.out.mono HB0.out.size))) ?_
    rintro e w1 ⟨rfl,hb1⟩
    have HB1:=Lib.hid (HBQ.out.trans (hb1.mono HBQ.out.size))
    clear hb1
    go_wp2_with fail
    go_ret
    exact HNO.out _ _ (HB0.out.trans (HB1.out.mono HB0.out.size)) (HBAD.out (by rw [HDK.out]; rfl)) rfl
   case true =>
    rcases Nat.eq_zero_or_pos q.cons.length with hpos | hpos
    ·have hno : decide (0 < q.cons.length) = false:=by rw [hpos]; rfl
     rw [hno] at HDK
     rw [hpos] at HKQ HBQ x1
     clear hno HTW1
     go_wp2_with fail
     refine Calls.mono (HC1q.out _ (HB0.out.trans (HBQ.out.mono HB0.out.size))) ?_
     rintro e w1 ⟨rfl,hb1⟩
     have HB1:=Lib.hid (HBQ.out.trans (hb1.mono HBQ.out.size))
     have HK1:=Lib.hid (HKQ.out.below hb1 HKQ.out.lt)
     obtain ⟨y0,y1⟩:=HK1.out.two
     have yl:=HK1.out.lt
     clear hb1
     go_wp2_with fail
     go_ret
     exact HNO.out _ _ (HB0.out.trans (HB1.out.mono HB0.out.size)) (HBAD.out (by rw [HDK.out]; rfl)) rfl
    ·have hyes : decide (0 < q.cons.length) = true:=decide_eq_true hpos
     rw [hyes] at HDK
     have hneq : ((q.cons.length : Int) == 0) = false:=by rw [beq_eq_false_iff_ne]; omega
     have HPOS:=Lib.hid hpos
     clear hyes hpos
     go_wp2_with fail
     refine Calls.mono (HC1q.out _ (HB0.out.trans (HBQ.out.mono HB0.out.size))) ?_
     rintro e w1 ⟨rfl,hb1⟩
     have HB1:=Lib.hid (HBQ.out.trans (hb1.mono HBQ.out.size))
     have HK1:=Lib.hid (HKQ.out.below hb1 HKQ.out.lt)
     obtain ⟨y0,y1⟩:=HK1.out.two
     have yl:=HK1.out.lt
     have HTW2:=Lib.hid (HTW1.out.keep hb1)
     have htl : ts.length ≤ 1048576:=by
      have:=HTS.out
      rw [this,List.length_map,List.length_take]
      omega
     have hs1:=HB1.out.size
     clear hb1
     go_wp2_with (at_builtin; go_must (refine wpList_append_own_at _ rfl (.tmp 27) (.tmp 30) 53 rfl w0.heap.size 9 i0 _ 1 16 Tryz.underlying53 hi hz0 hz1 hz2 rfl (by decide) (.slice At ts.length ct) ts.length (ts.map Value.string) rfl ?own ⟨w1.heap.size,0,none⟩ 1 1 [.string q.name] rfl rfl ?c1 ?c2 ?c3 ?c4 ?c5 ?_))
     case own => exact HTW2.out.t.alloc _
     case c1 => exact cell_one_at _ _ _ _ rfl
     case c2 => intro u hu; simp only [List.mem_singleton] at hu; subst hu; rfl
     case c3 => unfold maxLen; omega
     case c4 => omega
     case c5 => simp; omega
     intro v2 w2 hown hgrow _ hor
     obtain ⟨A2,c2,rfl,htw⟩:=TwoAt.putT (HTW2.out.keep ((Below.refl _ _).alloc (Nat.le_refl _) (.cells #[.string q.name] 9))) hown hgrow (by simpa using hor)
     have hltT:=fun j hj => (HTW2.out.t.lt j hj)
     have HB2:=Lib.hid ((HB1.out.alloc hs1 (.cells #[.string q.name] 9)).grown hgrow (by simp; omega) (fun j hj => (hltT j hj).1))
     have hltT0:=fun j hj => (HTW.out.t.lt j hj)
     have hkq : w2.heap[wr.heap.size]? = w1.heap[wr.heap.size]?:=by
      rw [hgrow.block wr.heap.size (by simp; omega) (fun e => by have:=(hltT0 _ e.symm).2; omega)]
      exact Below.heap_alloc _ _ _ yl
     have HK2:=Lib.hid (show Blk w2 wr.heap.size #[.string q.name,.slice q.at_ q.cons.length q.cap] 111 from hkq.trans HK1.out)
     have HTW3:=Lib.hid htw
     have HTS2:=Lib.hid (show ts ++ [q.name] = (l.take (k + 1)).map Dt.name by rw [names_succ HQ.out,HTS.out])
     generalize hts2 : ts ++ [q.name] = ts2 at HTW3 HTS2 ⊢
     have htl2 : ts2.length ≤ 1048576:=by
      have:=HTS2.out
      rw [this,List.length_map,List.length_take]
      omega
     clear hneq hown hgrow hor htw hltT hltT0 hkq y0 y1 yl hts2
     obtain ⟨y0,y1⟩:=HK2.out.two
     have yl:=HK2.out.lt
     go_wp2_with fail
     obtain ⟨wx,rfl⟩ : ∃ wx : World,wx = wr:=⟨_,rfl⟩
     have HCS0:=Lib.hid (show cs = (allCons (l.take k)).map Cn.name ++ (q.cons.take 0).map Cn.name by simpa using HCS.out)
     go_loopw [35,6] (fun jv cv wr => ∃ (j : Nat) (cs2 : List ByteArray) (Ac2 : Option Addr) (cc2 : Nat),jv = .int .i64 j ∧ j ≤ q.cons.length ∧ cv = .slice Ac2 cs2.length cc2 ∧ Hid (Below w0.heap.size w0 wr) ∧ Hid (TwoAt w0.heap.size wr A2 c2 Ac2 cc2 ts2 cs2) ∧
      Hid (cs2 = (allCons (l.take k)).map Cn.name ++ (q.cons.take j).map Cn.name) ∧ Hid ((q.cons.take j).all (conOk l) = true)) (fun jv _ _ => q.cons.length - (intOf jv).toNat)
     case atStart => exact ⟨0,cs,Ac,cc,rfl,Nat.zero_le _,rfl,HB2.out,HTW3.out,HCS0.out,rfl⟩
     case round =>
      obtain ⟨j,cs2,Ac2,cc2,rfl,hj,rfl,HI,HTI,HCI,HMI⟩:=hrel
      have HBI:=Lib.hid (HB0.out.trans (HI.out.mono HB0.out.size))
      by_cases hjlt : j < q.cons.length
      ·obtain ⟨cc0,b5,off5,hq5,hm5,hat5,hb5,z0,z1,z2,z3,z4⟩:=Cn.arg_at HQR.out HBI.out hjlt
       rw [hat5]
       have HQ5:=Lib.hid hq5
       have HN5:=Lib.hid (HQE.out cc0 hm5).1
       have HT5:=Lib.hid (HQE.out cc0 hm5).2
       have HX5:=Lib.hid (HQC.out cc0 hm5)
       have HC1c:=Lib.hid (HC1.out cc0.name HN5.out)
       have HC2c:=Lib.hid (HC2.out cc0.ty HT5.out HX5.out)
       have HC3c:=Lib.hid (HC3.out cc0.ty HT5.out)
       have HC4c:=Lib.hid (HC4.out cc0.ty)
       have HOK:=Lib.hid (show conOk l cc0 = (kindB .con cc0.name && (!(cc0.has && (!closedB l cc0.ty || !cc0.ty.plain)) && !(!cc0.has && !cc0.ty.zero))) from rfl)
       have HBADC:=Lib.hid (fun (h1 : conOk l cc0 = false) => HBAD.out (by rw [HDK.out,all_no HQ5.out h1]; rfl))
       have HBC:=Lib.hid (HI.out.alloc HI.out.size (.cells #[.string cc0.name,.bool cc0.has,.string cc0.ty.dof,.string cc0.ty.name,.slice cc0.ty.at_ cc0.ty.args.length cc0.ty.cap] 117))
       have HBC0:=Lib.hid (HB0.out.trans (HBC.out.mono HB0.out.size))
       have HKC:=Lib.hid (Blk.new wr #[.string cc0.name,.bool cc0.has,.string cc0.ty.dof,.string cc0.ty.name,.slice cc0.ty.at_ cc0.ty.args.length cc0.ty.cap] 117)
       have HTI1:=Lib.hid (HTI.out.keep (w1:=wr.alloc (.cells #[.string cc0.name,.bool cc0.has,.string cc0.ty.dof,.string cc0.ty.name,.slice cc0.ty.at_ cc0.ty.args.length cc0.ty.cap] 117)) ((Below.refl _ _).alloc (Nat.le_refl _) _))
       clear hq5
       generalize kindB .con cc0.name = kb at HC1c HOK
       generalize closedB l cc0.ty = cl at HC2c HOK
       generalize cc0.ty.plain = pl at HC3c HOK
       generalize cc0.ty.zero = ze at HC4c HOK
       generalize cc0.has = hs at z1 HOK HBC HBC0 HKC HTI1
       obtain ⟨ok,hoke⟩ : ∃ ok,conOk l cc0 = ok:=⟨_,rfl⟩
       rw [hoke] at HOK HBADC
       have HOKE:=Lib.hid hoke.symm
       clear hoke
       cases kb
       case false =>
        go_wp2_with fail
        refine Calls.mono (HC1c.out _ HBC0.out) ?_
        rintro e w3 ⟨rfl,hb3⟩
        have HB3:=Lib.hid (HBC0.out.trans (hb3.mono HBC0.out.size))
        clear hb3
        go_wp2_with fail
        go_ret
        exact HNO.out _ _ HB3.out (HBADC.out (by rw [HOK.out]; rfl)) rfl
       have hcl2 : cs2.length ≤ 1048576:=by
        have h1:=HCI.out
        have h2:=allCons_len (l:=l) (k + 1) hcons.out
        rw [all_cons_succ HQ.out,List.length_append] at h2
        rw [h1,List.length_append,List.length_map,List.length_map,List.length_take]
        omega
       cases hs
       case true =>
        cases cl
        case false =>
         go_wp2_with fail
         refine Calls.mono (HC1c.out _ HBC0.out) ?_
         rintro e w3 ⟨rfl,hb3⟩
         have HB3:=Lib.hid (HBC0.out.trans (hb3.mono HBC0.out.size))
         have HK3:=Lib.hid (HKC.out.below hb3 HKC.out.lt)
         obtain ⟨u0,u1,u2,u3,u4⟩:=HK3.out.five
         have ul:=HK3.out.lt
         clear hb3
         go_wp2_with fail
         refine Calls.mono (HC2c.out _ HB3.out) ?_
         rintro e w4 ⟨rfl,hb4⟩
         have HB4:=Lib.hid (HB3.out.trans (hb4.mono HB3.out.size))
         have HK4:=Lib.hid (HK3.out.below hb4 HK3.out.lt)
         clear hb4 u0 u1 u2 u3 u4 ul
         obtain ⟨u0,u1,u2,u3,u4⟩:=HK4.out.five
         have ul:=HK4.out.lt
         go_wp2_with fail
         go_ret
         exact HNO.out _ _ HB4.out (HBADC.out (by rw [HOK.out]; rfl)) rfl
        case true =>
         cases pl
         case false =>
          go_wp2_with fail
          refine Calls.mono (HC1c.out _ HBC0.out) ?_
          rintro e w3 ⟨rfl,hb3⟩
          have HB3:=Lib.hid (HBC0.out.trans (hb3.mono HBC0.out.size))
          have HK3:=Lib.hid (HKC.out.below hb3 HKC.out.lt)
          obtain ⟨u0,u1,u2,u3,u4⟩:=HK3.out.five
          have ul:=HK3.out.lt
          clear hb3
          go_wp2_with fail
          refine Calls.mono (HC2c.out _ HB3.out) ?_
          rintro e w4 ⟨rfl,hb4⟩
          have HB4:=Lib.hid (HB3.out.trans (hb4.mono HB3.out.size))
          have HK4:=Lib.hid (HK3.out.below hb4 HK3.out.lt)
          clear hb4 u0 u1 u2 u3 u4 ul
          obtain ⟨u0,u1,u2,u3,u4⟩:=HK4.out.five
          have ul:=HK4.out.lt
          go_wp2_with fail
          refine Calls.mono (HC3c.out _ HB4.out) ?_
          rintro e w5 ⟨rfl,hb5⟩
          have HB5:=Lib.hid (HB4.out.trans (hb5.mono HB4.out.size))
          have HK5:=Lib.hid (HK4.out.below hb5 HK4.out.lt)
          clear hb5 u0 u1 u2 u3 u4 ul
          obtain ⟨u0,u1,u2,u3,u4⟩:=HK5.out.five
          have ul:=HK5.out.lt
          go_wp2_with fail
          go_ret
          exact HNO.out _ _ HB5.out (HBADC.out (by rw [HOK.out]; rfl)) rfl
         case true =>
          go_wp2_with fail
          refine Calls.mono (HC1c.out _ HBC0.out) ?_
          rintro e w3 ⟨rfl,hb3⟩
          have HB3:=Lib.hid (HBC.out.trans (hb3.mono HBC.out.size))
          have HK3:=Lib.hid (HKC.out.below hb3 HKC.out.lt)
          have HT3:=Lib.hid (HTI1.out.keep hb3)
          obtain ⟨u0,u1,u2,u3,u4⟩:=HK3.out.five
          have ul:=HK3.out.lt
          clear hb3
          go_wp2_with fail
          refine Calls.mono (HC2c.out _ (HB0.out.trans (HB3.out.mono HB0.out.size))) ?_
          rintro e w4 ⟨rfl,hb4⟩
          have HB4:=Lib.hid (HB3.out.trans (hb4.mono HB3.out.size))
          have HK4:=Lib.hid (HK3.out.below hb4 HK3.out.lt)
          have HT4:=Lib.hid (HT3.out.keep hb4)
          clear hb4 u0 u1 u2 u3 u4 ul
          obtain ⟨u0,u1,u2,u3,u4⟩:=HK4.out.five
          have ul:=HK4.out.lt
          go_wp2_with fail
          refine Calls.mono (HC3c.out _ (HB0.out.trans (HB4.out.mono HB0.out.size))) ?_
          rintro e w5 ⟨rfl,hb5⟩
          have HB5:=Lib.hid (HB4.out.trans (hb5.mono HB4.out.size))
          have HK5:=Lib.hid (HK4.out.below hb5 HK4.out.lt)
          have HT5:=Lib.hid (HT4.out.keep hb5)
          clear hb5 u0 u1 u2 u3 u4 ul
          obtain ⟨u0,u1,u2,u3,u4⟩:=HK5.out.five
          have ul:=HK5.out.lt
          have hs5:=HB5.out.size
          go_wp2_with (at_builtin; go_must (refine wpList_append_own_at _ rfl (.tmp 72) (.tmp 75) 53 rfl w0.heap.size 9 i0 _ 1 16 Tryz.underlying53 hi hz0 hz1 hz2 rfl (by decide) (.slice Ac2 cs2.length cc2) cs2.length (cs2.map Value.string) rfl ?own2 ⟨w5.heap.size,0,none⟩ 1 1 [.string cc0.name] rfl rfl ?d1 ?d2 ?d3 ?d4 ?d5 ?_))
          case own2 => exact HT5.out.c.alloc _
          case d1 => exact cell_one_at _ _ _ _ rfl
          case d2 => intro u hu; simp only [List.mem_singleton] at hu; subst hu; rfl
          case d3 => unfold maxLen; omega
          case d4 => omega
          case d5 => simp; omega
          intro v6 w6 hown hgrow _ hor
          obtain ⟨A9,c9,rfl,htw⟩:=TwoAt.putC (HT5.out.keep ((Below.refl _ _).alloc (Nat.le_refl _) (.cells #[.string cc0.name] 9))) hown hgrow (by simpa using hor)
          have hltC:=fun j hj => (HT5.out.c.lt j hj)
          have HB6:=Lib.hid ((HB5.out.alloc hs5 (.cells #[.string cc0.name] 9)).grown hgrow (by simp; omega) (fun j hj => (hltC j hj).1))
          have HT6:=Lib.hid htw
          have HCI6:=Lib.hid (show cs2 ++ [cc0.name] = (allCons (l.take k)).map Cn.name ++ (q.cons.take (j + 1)).map Cn.name by rw [cnames_succ HQ5.out,HCI.out,List.append_assoc])
          generalize hcs3 : cs2 ++ [cc0.name] = cs3 at HT6 HCI6 ⊢
          clear hown hgrow hor htw hltC hcs3 u0 u1 u2 u3 u4 ul
          go_wp2_with fail
          exact ⟨⟨j + 1,cs3,A9,c9,by go_num,by omega,rfl,HB6.out,HT6.out,HCI6.out,Lib.hid (all_take_succ HQ5.out HMI.out (HOKE.out.symm.trans (by rw [HOK.out]; rfl)))⟩,by simp [intOf]; omega⟩
       case false =>
        cases ze
        case false =>
         go_wp2_with fail
         refine Calls.mono (HC1c.out _ HBC0.out) ?_
         rintro e w3 ⟨rfl,hb3⟩
         have HB3:=Lib.hid (HBC0.out.trans (hb3.mono HBC0.out.size))
         have HK3:=Lib.hid (HKC.out.below hb3 HKC.out.lt)
         obtain ⟨u0,u1,u2,u3,u4⟩:=HK3.out.five
         have ul:=HK3.out.lt
         clear hb3
         go_wp2_with fail
         refine Calls.mono (HC4c.out _) ?_
         rintro e w4 ⟨rfl,hb4⟩
         have HB4:=Lib.hid (HB3.out.trans (hb4.mono HB3.out.size))
         have HK4:=Lib.hid (HK3.out.below hb4 HK3.out.lt)
         clear hb4 u0 u1 u2 u3 u4 ul
         obtain ⟨u0,u1,u2,u3,u4⟩:=HK4.out.five
         have ul:=HK4.out.lt
         go_wp2_with fail
         go_ret
         exact HNO.out _ _ HB4.out (HBADC.out (by rw [HOK.out]; rfl)) rfl
        case true =>
         go_wp2_with fail
         refine Calls.mono (HC1c.out _ HBC0.out) ?_
         rintro e w3 ⟨rfl,hb3⟩
         have HB3:=Lib.hid (HBC.out.trans (hb3.mono HBC.out.size))
         have HK3:=Lib.hid (HKC.out.below hb3 HKC.out.lt)
         have HT3:=Lib.hid (HTI1.out.keep hb3)
         obtain ⟨u0,u1,u2,u3,u4⟩:=HK3.out.five
         have ul:=HK3.out.lt
         clear hb3
         go_wp2_with fail
         refine Calls.mono (HC4c.out _) ?_
         rintro e w5 ⟨rfl,hb5⟩
         have HB5:=Lib.hid (HB3.out.trans (hb5.mono HB3.out.size))
         have HK5:=Lib.hid (HK3.out.below hb5 HK3.out.lt)
         have HT5:=Lib.hid (HT3.out.keep hb5)
         clear hb5 u0 u1 u2 u3 u4 ul
         obtain ⟨u0,u1,u2,u3,u4⟩:=HK5.out.five
         have ul:=HK5.out.lt
         have hs5:=HB5.out.size
         go_wp2_with (at_builtin; go_must (refine wpList_append_own_at _ rfl (.tmp 72) (.tmp 75) 53 rfl w0.heap.size 9 i0 _ 1 16 Tryz.underlying53 hi hz0 hz1 hz2 rfl (by decide) (.slice Ac2 cs2.length cc2) cs2.length (cs2.map Value.string) rfl ?own2 ⟨w5.heap.size,0,none⟩ 1 1 [.string cc0.name] rfl rfl ?d1 ?d2 ?d3 ?d4 ?d5 ?_))
         case own2 => exact HT5.out.c.alloc _
         case d1 => exact cell_one_at _ _ _ _ rfl
         case d2 => intro u hu; simp only [List.mem_singleton] at hu; subst hu; rfl
         case d3 => unfold maxLen; omega
         case d4 => omega
         case d5 => simp; omega
         intro v6 w6 hown hgrow _ hor
         obtain ⟨A9,c9,rfl,htw⟩:=TwoAt.putC (HT5.out.keep ((Below.refl _ _).alloc (Nat.le_refl _) (.cells #[.string cc0.name] 9))) hown hgrow (by simpa using hor)
         have hltC:=fun j hj => (HT5.out.c.lt j hj)
         have HB6:=Lib.hid ((HB5.out.alloc hs5 (.cells #[.string cc0.name] 9)).grown hgrow (by simp; omega) (fun j hj => (hltC j hj).1))
         have HT6:=Lib.hid htw
         have HCI6:=Lib.hid (show cs2 ++ [cc0.name] = (allCons (l.take k)).map Cn.name ++ (q.cons.take (j + 1)).map Cn.name by rw [cnames_succ HQ5.out,HCI.out,List.append_assoc])
         generalize hcs3 : cs2 ++ [cc0.name] = cs3 at HT6 HCI6 ⊢
         clear hown hgrow hor htw hltC hcs3 u0 u1 u2 u3 u4 ul
         go_wp2_with fail
         exact ⟨⟨j + 1,cs3,A9,c9,by go_num,by omega,rfl,HB6.out,HT6.out,HCI6.out,Lib.hid (all_take_succ HQ5.out HMI.out (HOKE.out.symm.trans (by rw [HOK.out]; rfl)))⟩,by simp [intOf]; omega⟩
      ·have hj2 : j = q.cons.length:=by omega
       have hci:=HCI.out
       have hmi:=HMI.out
       rw [hj2,List.take_length] at hci hmi
       have HCI2:=Lib.hid (show cs2 = (allCons (l.take (k + 1))).map Cn.name by rw [hci,all_cons_succ HQ.out,List.map_append])
       have HDOK:=Lib.hid (show dtOk l q = true by rw [HDK.out,hmi]; rfl)
       clear hci hmi hj2
       go_wp2_with fail
       exact ⟨⟨k + 1,ts2,cs2,A2,Ac2,c2,cc2,by go_num,by omega,rfl,rfl,HI.out,HTI.out,HTS2.out,HCI2.out,Lib.hid (all_take_succ HQ.out HM.out HDOK.out)⟩,by simp [intOf]; omega⟩
  ·have hk2 : k = l.length:=by omega
   have hts:=HTS.out
   have hcs:=HCS.out
   have hm:=HM.out
   rw [hk2,List.take_length] at hts hcs hm
   have HTS2:=Lib.hid hts
   have HCS2:=Lib.hid hcs
   have HALL:=Lib.hid hm
   have htl : ts.length ≤ 1048576:=by rw [hts,List.length_map]; exact hl
   have hcl : cs.length ≤ 1048576:=by
    have h2:=allCons_len (l:=l) l.length hcons.out
    rw [List.take_length] at h2
    rw [hcs,List.length_map]
    exact h2
   have HTT:=Lib.hid (show Texts w0.heap.size wr (.slice At ts.length ct) ts from ⟨At,ct,rfl,HTW.out.t⟩)
   have HTC:=Lib.hid (show Texts w0.heap.size wr (.slice Ac cs.length cc) cs from ⟨Ac,cc,rfl,HTW.out.c⟩)
   have HD1:=Lib.hid (fun (W : World) (ht : Texts w0.heap.size W (.slice At ts.length ct) ts) => HC5.out W _ _ _ ht htl)
   have HD2:=Lib.hid (fun (W : World) (ht : Texts w0.heap.size W (.slice Ac cs.length cc) cs) => HC5.out W _ _ _ ht hcl)
   have HCT:=Lib.hid (HC2.out t HT.out hcnt)
   have HRS:=Lib.hid (show soundB l t = (distinctB ts && (distinctB cs && closedB l t)) by rw [HRES.out,HALL.out,HTS2.out,HCS2.out]; rfl)
   have HKR:=Lib.hid (HK.out.below HC.out HK.out.lt)
   obtain ⟨y0,y1,y2⟩:=HKR.out.three
   have yl:=HKR.out.lt
   clear hts hcs hm hk2
   generalize distinctB ts = d1 at HD1 HRS
   generalize distinctB cs = d2 at HD2 HRS
   generalize closedB l t = d3 at HCT HRS
   cases d1
   case false =>
    go_wp2_with fail
    refine Calls.mono (HD1.out _ HTT.out) ?_
    rintro e w3 ⟨rfl,rfl⟩
    go_wp2_with fail
    go_ret
    exact HPOST.out _ _ _ HBW.out (by rw [HRS.out]; rfl) rfl
   case true =>
    cases d2
    case false =>
     go_wp2_with fail
     refine Calls.mono (HD1.out _ HTT.out) ?_
     rintro e w3 ⟨rfl,rfl⟩
     go_wp2_with fail
     refine Calls.mono (HD2.out _ HTC.out) ?_
     rintro e w4 ⟨rfl,rfl⟩
     go_wp2_with fail
     go_ret
     exact HPOST.out _ _ _ HBW.out (by rw [HRS.out]; rfl) rfl
    case true =>
     go_wp2_with fail
     refine Calls.mono (HD1.out _ HTT.out) ?_
     rintro e w3 ⟨rfl,rfl⟩
     go_wp2_with fail
     refine Calls.mono (HD2.out _ HTC.out) ?_
     rintro e w4 ⟨rfl,rfl⟩
     go_wp2_with fail
     refine Calls.mono (HCT.out _ HBW.out) ?_
     rintro e w5 ⟨rfl,hb5⟩
     have HB5:=Lib.hid (HBW.out.trans (hb5.mono HBW.out.size))
     clear hb5
     go_wp2_with fail
     go_ret
     exact HPOST.out _ _ _ HB5.out (HRS.out.trans rfl) (by simp)
end Go.Proofs.YtjeggkfgdhepaaaGreatDoor

namespace Go.Proofs.YtjeggkfgdhepaaaGreatDoor
open Go.RowKit
open Go.Proofs
section
variable {P : Program} {ops : Array Oper} {Q : Exit → Act → World → Prop} {S : World → Prop}
theorem wpMix_stepw {m k : Nat} {a : Act} {w : World} {o : Oper} {rest : List (Nat × Bool × Oper)} (hw : Region.wanted o (yielded ops a.tmps) = true)
  (h : ∀ K : Act → World → Prop,(∀ a w,(k < m → S w) → wpMix P ops Q S m rest a w → K a w) → o.wp P a w K Q) : wpMix P ops Q S m ((k,false,o) :: rest) a w:=by
 have h1:=h _ (fun a w hS hK => (⟨hS,hK⟩ : (k < m → S w) ∧ wpMix P ops Q S m rest a w))
 unfold wpMix
 simp only [hw,if_true]
 exact .inl h1
theorem wpMix_skip {m k : Nat} {a : Act} {w : World} {o : Oper} {rest : List (Nat × Bool × Oper)} (hw : Region.wanted o (yielded ops a.tmps) = false)
  (hS : S w) (h : wpMix P ops Q S m rest (a.put o.dst undef) w) : wpMix P ops Q S m ((k,false,o) :: rest) a w:=by
 unfold wpMix
 simp only [hw]
 exact ⟨fun _ => hS,h⟩
theorem wpMix_none {m k : Nat} {a : Act} {w : World} {o : Oper} {rest : List (Nat × Bool × Oper)} (hw : Region.wanted o (yielded ops a.tmps) = false)
  (h2 : wpMix P ops Q S m rest (a.put o.dst undef) w) : wpMix P ops Q S m ((k,true,o) :: rest) a w:=⟨undef,.inr ⟨hw,rfl⟩,h2⟩
end
def SP2 (bt bp : Nat) (td tn : ByteArray) (b1 o1 tc : Nat) (t0 t1 : Ty) (d s : ByteArray) (n : Int) (b2 o2 c : Nat) (p0 p1 : Pt) (W : World) : Prop:=
 W.cell? ⟨bt,0,none⟩ = some (.string td) ∧ W.cell? ⟨bt,1,none⟩ = some (.string tn) ∧ W.cell? ⟨bt,2,none⟩ = some (.slice (some ⟨b1,o1,none⟩) 2 tc) ∧ bt < W.heap.size ∧
 W.cell? ⟨bp,0,none⟩ = some (.string d) ∧ W.cell? ⟨bp,1,none⟩ = some (.string s) ∧ W.cell? ⟨bp,2,none⟩ = some (.int .i64 n) ∧ W.cell? ⟨bp,3,none⟩ = some (.slice (some ⟨b2,o2,none⟩) 2 c) ∧ bp < W.heap.size ∧
 (W.cell? ⟨b1,o1,none⟩ = some (.string t0.dof) ∧ W.cell? ⟨b1,o1 + 1,none⟩ = some (.string t0.name) ∧ W.cell? ⟨b1,o1 + 2,none⟩ = some (.slice t0.at_ t0.args.length t0.cap) ∧
 W.cell? ⟨b1,o1 + 3,none⟩ = some (.string t1.dof) ∧ W.cell? ⟨b1,o1 + 4,none⟩ = some (.string t1.name) ∧ W.cell? ⟨b1,o1 + 5,none⟩ = some (.slice t1.at_ t1.args.length t1.cap)) ∧
 (W.cell? ⟨b2,o2,none⟩ = some (.string p0.dof) ∧ W.cell? ⟨b2,o2 + 1,none⟩ = some (.string p0.name) ∧ W.cell? ⟨b2,o2 + 2,none⟩ = some (.int .i64 p0.num) ∧ W.cell? ⟨b2,o2 + 3,none⟩ = some (.slice p0.at_ p0.args.length p0.cap) ∧
 W.cell? ⟨b2,o2 + 4,none⟩ = some (.string p1.dof) ∧ W.cell? ⟨b2,o2 + 5,none⟩ = some (.string p1.name) ∧ W.cell? ⟨b2,o2 + 6,none⟩ = some (.int .i64 p1.num) ∧ W.cell? ⟨b2,o2 + 7,none⟩ = some (.slice p1.at_ p1.args.length p1.cap))
theorem two_rows {B : Nat} {w : World} {A : Option Addr} {p0 p1 : Pt} (h : RowAt B w 4 A ([p0,p1].map Pt.cells)) : ∃ b o,A = some ⟨b,o,none⟩ ∧ b < B ∧ ∀ W,Below B w W → 
  W.cell? ⟨b,o,none⟩ = some (.string p0.dof) ∧ W.cell? ⟨b,o + 1,none⟩ = some (.string p0.name) ∧ W.cell? ⟨b,o + 2,none⟩ = some (.int .i64 p0.num) ∧ W.cell? ⟨b,o + 3,none⟩ = some (.slice p0.at_ p0.args.length p0.cap) ∧
  W.cell? ⟨b,o + 4,none⟩ = some (.string p1.dof) ∧ W.cell? ⟨b,o + 5,none⟩ = some (.string p1.name) ∧ W.cell? ⟨b,o + 6,none⟩ = some (.int .i64 p1.num) ∧ W.cell? ⟨b,o + 7,none⟩ = some (.slice p1.at_ p1.args.length p1.cap):=by
 obtain ⟨b,o,rfl,hb,hc⟩:=h (by simp)
 refine ⟨b,o,rfl,hb,fun W hW => ?_⟩
 have h0:=hc 0 p0.cells rfl
 have h1:=hc 1 p1.cells rfl
 have k:=fun (j : Nat) => (hW.cell (p:=⟨b,o + j,none⟩) hb)
 refine ⟨(k 0).trans (h0 0 _ rfl),(k 1).trans (h0 1 _ rfl),(k 2).trans (h0 2 _ rfl),(k 3).trans (h0 3 _ rfl),(k 4).trans (h1 0 _ rfl),(k 5).trans (h1 1 _ rfl),(k 6).trans (h1 2 _ rfl),(k 7).trans (h1 3 _ rfl)⟩
theorem two_tys {B : Nat} {w : World} {A : Option Addr} {p0 p1 : Ty} (h : RowAt B w 3 A ([p0,p1].map Ty.cells)) : ∃ b o,A = some ⟨b,o,none⟩ ∧ b < B ∧ ∀ W,Below B w W → 
  W.cell? ⟨b,o,none⟩ = some (.string p0.dof) ∧ W.cell? ⟨b,o + 1,none⟩ = some (.string p0.name) ∧ W.cell? ⟨b,o + 2,none⟩ = some (.slice p0.at_ p0.args.length p0.cap) ∧
  W.cell? ⟨b,o + 3,none⟩ = some (.string p1.dof) ∧ W.cell? ⟨b,o + 4,none⟩ = some (.string p1.name) ∧ W.cell? ⟨b,o + 5,none⟩ = some (.slice p1.at_ p1.args.length p1.cap):=by
 obtain ⟨b,o,rfl,hb,hc⟩:=h (by simp)
 refine ⟨b,o,rfl,hb,fun W hW => ?_⟩
 have h0:=hc 0 p0.cells rfl
 have h1:=hc 1 p1.cells rfl
 have k:=fun (j : Nat) => (hW.cell (p:=⟨b,o + j,none⟩) hb)
 refine ⟨(k 0).trans (h0 0 _ rfl),(k 1).trans (h0 1 _ rfl),(k 2).trans (h0 2 _ rfl),(k 3).trans (h1 0 _ rfl),(k 4).trans (h1 1 _ rfl),(k 5).trans (h1 2 _ rfl)⟩
theorem two_list {α : Type} {l : List α} (h : l.length = 2) : ∃ a b,l = [a,b]:=by
 match l,h with
 | [a,b],_ => exact ⟨a,b,rfl⟩
theorem one_list {α : Type} {l : List α} (h : l.length = 1) : ∃ a,l = [a]:=by
 match l,h with
 | [a],_ => exact ⟨a,rfl⟩
def IsOfC (A : Option Addr) (l : List Dt) (c : Nat) (p : Pt) : Prop:=∀ (t : Ty) (w : World),DtsIn w.heap.size w A l → p.In w.heap.size w → p.wellB = true → t.In w.heap.size w → t.well (kindB .con) = true →
  Calls Tryz.prog 39 #[.slice A l.length c,t.val,p.val] w fun e w' => e = .returned (.bool (p.isOf l t)) ∧ Below w.heap.size w w'
set_option maxRecDepth 100000 in
set_option maxHeartbeats 8000000 in
theorem isOf_pair (A : Option Addr) (l : List Dt) (c : Nat) (p0 p1 : Pt) (h0 : IsOfC A l c p0) (h1 : IsOfC A l c p1) (d s : ByteArray) (n : Int) (Ap : Option Addr) (cp : Nat) (hdo : (d.toList == [112,97,105,114]) = true)
  (t : Ty) (w : World) (hd : DtsIn w.heap.size w A l) (hp : (Pt.mk d s n Ap cp [p0,p1]).In w.heap.size w) (hw : (Pt.mk d s n Ap cp [p0,p1]).wellB = true) (ht : t.In w.heap.size w) (htw : t.well (kindB .con) = true) :
  Calls Tryz.prog 39 #[.slice A l.length c,t.val,(Pt.mk d s n Ap cp [p0,p1]).val] w fun e w' => e = .returned (.bool ((Pt.mk d s n Ap cp [p0,p1]).isOf l t)) ∧ Below w.heap.size w w':=by
 obtain ⟨-,-,-,-,-,hprow,hpall⟩:=Pt.In_mk.1 hp
 rw [Pt.wellB_mk,Bool.and_eq_true,List.all_eq_true] at hw
 have g1:=do_other (b:=[97,110,121]) hdo (by decide)
 have g2:=do_other (b:=[118,97,114]) hdo (by decide)
 have g3:=do_other (b:=[105,110,116]) hdo (by decide)
 have g4:=do_other (b:=[98,111,111,108]) hdo (by decide)
 have g5:=do_other (b:=[117,110,105,116]) hdo (by decide)
 have g6:=do_other (b:=[110,105,108]) hdo (by decide)
 have HRES:=Lib.hid (show (Pt.mk d s n Ap cp [p0,p1]).isOf l t = (isDo [112,97,105,114] t.dof && isOfL l [p0,p1] t.args) by
  rw [Pt.isOf_mk]
  simp only [isDo,g1,g2,g3,g4,g5,g6,hdo,Bool.or_false,Bool.false_eq_true,if_false,if_true])
 generalize (Pt.mk d s n Ap cp [p0,p1]).isOf l t = res at HRES ⊢
 have HB0:=Lib.hid (((Below.refl w.heap.size w).alloc (Nat.le_refl _) (.cells #[.string t.dof,.string t.name,.slice t.at_ t.args.length t.cap] 25)).alloc (by simp) (.cells #[.string d,.string s,.int .i64 n,.slice Ap 2 cp] 28))
 have K1:=Lib.hid ((Blk.new w #[.string t.dof,.string t.name,.slice t.at_ t.args.length t.cap] 25).alloc (.cells #[.string d,.string s,.int .i64 n,.slice Ap 2 cp] 28))
 have K2:=Lib.hid (Blk.new' (w.alloc (.cells #[.string t.dof,.string t.name,.slice t.at_ t.args.length t.cap] 25)) #[.string d,.string s,.int .i64 n,.slice Ap 2 cp] 28 (w.heap.size + 1) (by simp))
 obtain ⟨b2,o2,rfl,hb2,hpc⟩:=two_rows hprow
 obtain ⟨tt,htt⟩ : ∃ x,(t.dof.toList == [112,97,105,114]) = x:=⟨_,rfl⟩
 have HTT:=Lib.hid htt
 cases tt
 case false =>
  have HR:=Lib.hid (show res = false by rw [HRES.out]; unfold isDo; rw [HTT.out]; rfl)
  have hbox : ∀ W,Below ((w.alloc (.cells #[.string t.dof,.string t.name,.slice t.at_ t.args.length t.cap] 25)).alloc (.cells #[.string d,.string s,.int .i64 n,.slice (some ⟨b2,o2,none⟩) 2 cp] 28)).heap.size ((w.alloc (.cells #[.string t.dof,.string t.name,.slice t.at_ t.args.length t.cap] 25)).alloc (.cells #[.string d,.string s,.int .i64 n,.slice (some ⟨b2,o2,none⟩) 2 cp] 28)) W → B2 (w.heap.size + 1) w.heap.size d s n (some ⟨b2,o2,none⟩) 2 cp t W:=fun W hW => by
   have k1:=K1.out.below hW K1.out.lt
   have k2:=K2.out.below hW K2.out.lt
   exact ⟨k2.cell 0,k2.cell 1,k2.cell 2,k2.cell 3,k1.cell 0,k1.cell 1,k1.cell 2⟩
  have HBOX:=Lib.hid hbox
  unfold Ty.val Pt.val at *
  simp only [Pt.dof,Pt.name,Pt.num,Pt.at_,Pt.cap,Pt.args,List.length_cons,List.length_nil,Nat.zero_add,Nat.reduceAdd] at *
  clear hbox hprow hpc hpall hw hp ht htw hd
  go_enter Tryz.func39,Tryz.ntmps39
  go_wp2_with fail
  refine region_mix (B2 (w.heap.size + 1) w.heap.size d s n (some ⟨b2,o2,none⟩) 2 cp t) [(0,true),(1,true),(2,true),(3,true),(4,true),(5,true),(6,true),(7,true),(8,true),(9,true),(10,true),(11,true),(12,true),(13,false),(14,false),(15,false),(16,true),(17,true),(18,true),(19,true),(20,true),(21,true),(22,true),(23,true),(24,true),(25,false),(26,false),(27,false)] 26 (by kernel_rfl) (by kernel_rfl) (HBOX.out _ (Below.refl _ _).drew) ?_
  simp only [pickM,List.filterMap_cons,List.getElem?_cons_zero,List.getElem?_cons_succ,List.filterMap_nil,Option.map_some]
  iterate 4
   refine wpMix_read ?_ (by rfl) (fun W hW => ?_) ?_
   rotate_left
   ·unfold B2 at hW
    go_simp
    try with_reducible rfl
   simp only [Act.put,List.setIfInBounds_toArray,List.set_cons_zero,List.set_cons_succ]
  iterate 9
   refine wpMix_none (by rfl) ?_
   simp only [Act.put,List.setIfInBounds_toArray,List.set_cons_zero,List.set_cons_succ]
  refine wpMix_skip (by rfl) (HBOX.out _ (Below.refl _ _).drew) ?_
  simp only [Act.put,List.setIfInBounds_toArray,List.set_cons_zero,List.set_cons_succ]
  iterate 2
   refine wpMix_step rfl (fun K hK => ?_)
   go_simp
   refine hK _ _ (fun _ => HBOX.out _ (Below.refl _ _).drew) ?_
   clear hK K
  iterate 9
   refine wpMix_none (by rfl) ?_
   simp only [Act.put,List.setIfInBounds_toArray,List.set_cons_zero,List.set_cons_succ]
  refine wpMix_skip (by rfl) (HBOX.out _ (Below.refl _ _).drew) ?_
  simp only [Act.put,List.setIfInBounds_toArray,List.set_cons_zero,List.set_cons_succ]
  iterate 2
   refine wpMix_step rfl (fun K hK => ?_)
   go_simp
   refine hK _ _ (fun _ => HBOX.out _ (Below.refl _ _).drew) ?_
   clear hK K
  refine wpMix_nil ?_
  refine NoPanic.normal ?_
  go_wp2_with fail
  go_ret
  exact ⟨by rw [HR.out]; rfl,HB0.out.drew⟩
 case true =>
  have har : t.args.length = 2:=by
   have h1:=(Ty.well_parts htw).1
   rw [arity_pair htt] at h1
   simpa using h1.symm
  obtain ⟨td,tn,tA,tc,tl⟩:=t
  simp only [Ty.dof,Ty.name,Ty.at_,Ty.cap,Ty.args] at *
  obtain ⟨t0,t1,rfl⟩:=two_list har
  obtain ⟨-,-,-,-,htrow,htall⟩:=Ty.In_mk.1 ht
  obtain ⟨b1,o1,rfl,hb1,htc⟩:=two_tys htrow
  have HTW:=Lib.hid ((Ty.well_parts htw).2)
  have hbox : ∀ W,Below ((w.alloc (.cells #[.string td,.string tn,.slice (some ⟨b1,o1,none⟩) 2 tc] 25)).alloc (.cells #[.string d,.string s,.int .i64 n,.slice (some ⟨b2,o2,none⟩) 2 cp] 28)).heap.size ((w.alloc (.cells #[.string td,.string tn,.slice (some ⟨b1,o1,none⟩) 2 tc] 25)).alloc (.cells #[.string d,.string s,.int .i64 n,.slice (some ⟨b2,o2,none⟩) 2 cp] 28)) W → SP2 w.heap.size (w.heap.size + 1) td tn b1 o1 tc t0 t1 d s n b2 o2 cp p0 p1 W:=fun W hW => by
   have k1:=K1.out.below hW K1.out.lt
   have k2:=K2.out.below hW K2.out.lt
   have hb:=HB0.out.trans (hW.mono HB0.out.size)
   exact ⟨k1.cell 0,k1.cell 1,k1.cell 2,k1.lt,k2.cell 0,k2.cell 1,k2.cell 2,k2.cell 3,k2.lt,htc W hb,hpc W hb⟩
  have HBOX:=Lib.hid hbox
  have HC0:=Lib.hid (fun (W : World) (hW : Below w.heap.size w W) => h0 t0 W (hd.next hW) ((hpall p0 (by simp)).next hW) (hw.2 p0 (by simp)) ((htall t0 (by simp)).next hW) (HTW.out t0 (by simp [Ty.args])))
  have HC1:=Lib.hid (fun (W : World) (hW : Below w.heap.size w W) => h1 t1 W (hd.next hW) ((hpall p1 (by simp)).next hW) (hw.2 p1 (by simp)) ((htall t1 (by simp)).next hW) (HTW.out t1 (by simp [Ty.args])))
  have HR:=Lib.hid (show res = (p0.isOf l t0 && p1.isOf l t1) by rw [HRES.out]; unfold isDo isOfL; rw [htt]; simp)
  unfold Ty.val Pt.val at *
  simp only [Pt.dof,Pt.name,Pt.num,Pt.at_,Pt.cap,Pt.args,Ty.dof,Ty.name,Ty.at_,Ty.cap,Ty.args,List.length_cons,List.length_nil,Nat.zero_add,Nat.reduceAdd] at *
  clear hbox hprow hpc hpall hw hp ht htw hd htrow htall htc h0 h1 har
  generalize p0.isOf l t0 = r0 at HC0 HR
  generalize p1.isOf l t1 = r1 at HC1 HR
  cases r0
  case false =>
   go_enter Tryz.func39,Tryz.ntmps39
   go_wp2_with fail
   generalize ((w.alloc (.cells #[.string td,.string tn,.slice (some ⟨b1,o1,none⟩) 2 tc] 25)).alloc (.cells #[.string d,.string s,.int .i64 n,.slice (some ⟨b2,o2,none⟩) 2 cp] 28)) = w0 at HBOX HB0 ⊢
   refine region_mix (SP2 w.heap.size (w.heap.size + 1) td tn b1 o1 tc t0 t1 d s n b2 o2 cp p0 p1) [(0,true),(1,true),(2,true),(3,true),(4,true),(5,true),(6,true),(7,true),(8,true),(9,true),(10,true),(11,true),(12,true),(13,false),(14,false),(15,false),(16,true),(17,true),(18,true),(19,true),(20,true),(21,true),(22,true),(23,true),(24,true),(25,false),(26,false),(27,false)] 26 (by kernel_rfl) (by kernel_rfl) (HBOX.out _ (Below.refl _ _).drew) ?_
   simp only [pickM,List.filterMap_cons,List.getElem?_cons_zero,List.getElem?_cons_succ,List.filterMap_nil,Option.map_some]
   iterate 13
    refine wpMix_read ?_ (by rfl) (fun W hW => ?_) ?_
    rotate_left
    ·unfold SP2 at hW
     go_simp
     try with_reducible rfl
    simp only [Act.put,List.setIfInBounds_toArray,List.set_cons_zero,List.set_cons_succ]
   refine wpMix_stepw (by rfl) (fun K hK => ?_)
   go_simp
   refine Calls.mono (HC0.out _ (HB0.out.drew)) ?_
   rintro e w5 ⟨rfl,hb5⟩
   have HD5:=Lib.hid (((Below.refl w0.heap.size w0).drew).trans (hb5.mono ((Below.refl w0.heap.size w0).drew).size))
   clear hb5
   refine hK _ _ (fun _ => HBOX.out _ HD5.out) ?_
   clear hK K
   iterate 2
    refine wpMix_step rfl (fun K hK => ?_)
    go_simp
    refine hK _ _ (fun _ => HBOX.out _ HD5.out) ?_
    clear hK K
   iterate 9
    refine wpMix_none (by rfl) ?_
    simp only [Act.put,List.setIfInBounds_toArray,List.set_cons_zero,List.set_cons_succ]
   refine wpMix_skip (by rfl) (HBOX.out _ HD5.out) ?_
   simp only [Act.put,List.setIfInBounds_toArray,List.set_cons_zero,List.set_cons_succ]
   iterate 2
    refine wpMix_step rfl (fun K hK => ?_)
    go_simp
    refine hK _ _ (fun _ => HBOX.out _ HD5.out) ?_
    clear hK K
   refine wpMix_nil ?_
   refine NoPanic.normal ?_
   go_wp2_with fail
   go_ret
   exact ⟨by rw [HR.out]; rfl,HB0.out.trans (HD5.out.mono HB0.out.size)⟩
  case true =>
   go_enter Tryz.func39,Tryz.ntmps39
   go_wp2_with fail
   generalize ((w.alloc (.cells #[.string td,.string tn,.slice (some ⟨b1,o1,none⟩) 2 tc] 25)).alloc (.cells #[.string d,.string s,.int .i64 n,.slice (some ⟨b2,o2,none⟩) 2 cp] 28)) = w0 at HBOX HB0 ⊢
   refine region_mix (SP2 w.heap.size (w.heap.size + 1) td tn b1 o1 tc t0 t1 d s n b2 o2 cp p0 p1) [(0,true),(1,true),(2,true),(3,true),(4,true),(5,true),(6,true),(7,true),(8,true),(9,true),(10,true),(11,true),(12,true),(13,false),(14,false),(15,false),(16,true),(17,true),(18,true),(19,true),(20,true),(21,true),(22,true),(23,true),(24,true),(25,false),(26,false),(27,false)] 26 (by kernel_rfl) (by kernel_rfl) (HBOX.out _ (Below.refl _ _).drew) ?_
   simp only [pickM,List.filterMap_cons,List.getElem?_cons_zero,List.getElem?_cons_succ,List.filterMap_nil,Option.map_some]
   iterate 13
    refine wpMix_read ?_ (by rfl) (fun W hW => ?_) ?_
    rotate_left
    ·unfold SP2 at hW
     go_simp
     try with_reducible rfl
    simp only [Act.put,List.setIfInBounds_toArray,List.set_cons_zero,List.set_cons_succ]
   refine wpMix_stepw (by rfl) (fun K hK => ?_)
   go_simp
   refine Calls.mono (HC0.out _ (HB0.out.drew)) ?_
   rintro e w5 ⟨rfl,hb5⟩
   have HD5:=Lib.hid (((Below.refl w0.heap.size w0).drew).trans (hb5.mono ((Below.refl w0.heap.size w0).drew).size))
   clear hb5
   refine hK _ _ (fun _ => HBOX.out _ HD5.out) ?_
   clear hK K
   iterate 2
    refine wpMix_step rfl (fun K hK => ?_)
    go_simp
    refine hK _ _ (fun _ => HBOX.out _ HD5.out) ?_
    clear hK K
   iterate 9
    refine wpMix_read ?_ (by rfl) (fun W hW => ?_) ?_
    rotate_left
    ·unfold SP2 at hW
     go_simp
     try with_reducible rfl
    simp only [Act.put,List.setIfInBounds_toArray,List.set_cons_zero,List.set_cons_succ]
   refine wpMix_stepw (by rfl) (fun K hK => ?_)
   go_simp
   refine Calls.mono (HC1.out _ (HB0.out.trans (HD5.out.mono HB0.out.size))) ?_
   rintro e w6 ⟨rfl,hb6⟩
   have HD6:=Lib.hid (HD5.out.trans (hb6.mono HD5.out.size))
   clear hb6
   refine hK _ _ (fun _ => HBOX.out _ HD6.out) ?_
   clear hK K
   iterate 2
    refine wpMix_step rfl (fun K hK => ?_)
    go_simp
    refine hK _ _ (fun _ => HBOX.out _ HD6.out) ?_
    clear hK K
   refine wpMix_nil ?_
   refine NoPanic.normal ?_
   go_wp2_with fail
   go_ret
   exact ⟨by rw [HR.out]; simp,HB0.out.trans (HD6.out.mono HB0.out.size)⟩
end Go.Proofs.YtjeggkfgdhepaaaGreatDoor
