/- Small facts on worlds: whole blocks, frames, rows of the call's own. -/
import Derived.Test.YtjeggkfgdhepaaaGreatDoorRows
import Derived.WalkKit
import Derived.Lib.Hide
import Derived.BigQuiet
import Derived.Deep.QuietTactic
import Derived.StillTailTactics
import Derived.WalkSpells
import Derived.WalkSmall
import Derived.Maps.AppendAt
import Derived.Deep.DeepCutAuto
import Derived.Deep.LoopGhost
import Derived.Lib.Strings
import Derived.RowKit
import Derived.Deep.AppendLies
import Derived.Outline
import Derived.Laws.AppendOwnNone
set_option linter.unusedVariables false
set_option linter.unusedSimpArgs false
namespace Go.Proofs.YtjeggkfgdhepaaaGreatDoor
open Go.RowKit
open Go.Proofs
theorem ret_int {k : IntKind} {a b : Int} (h : a = b) : Ending.returned (.int k a) = .returned (.int k b):=by rw [h]
theorem region_tail {P : Program} {id : Nat} {Q : Exit → Act → World → Prop} {a : Act} {w : World} {l : List Oper} (n : Nat) (hm : P.follows .mixedOrders = true) (hB : Region.lexTailB .any l.toArray n = true)
  (h : wpStill P l.toArray w.drew (fun a' => wpList P l.toArray Q (l.drop n) a' w.drew) (l.take n) a) : (Code.region id l.toArray true).wp P Q a w:=wp_region_still_tail n hm hB h
def Blk (w : World) (k : Nat) (cs : Array Value) (t : TypeId) : Prop:=w.heap[k]? = some (.cells cs t (0,0))
section
variable {w w' : World} {k : Nat} {cs : Array Value} {t : TypeId}
theorem Blk.cell (h : Blk w k cs t) (j : Nat) : w.cell? ⟨k,j,none⟩ = cs[j]?:=by
 unfold Blk at h
 simp [World.cell?,h]
theorem Blk.free (h : Blk w k cs t) (j : Nat) : w.frozen? ⟨k,j,none⟩ = false:=by
 unfold Blk at h
 simp [World.frozen?,h]
theorem Blk.cast {cs' : Array Value} (h : Blk w k cs t) (e : cs = cs') : Blk w k cs' t:=e ▸ h
theorem Blk.lt (h : Blk w k cs t) : k < w.heap.size:=lt_of_block h
theorem Blk.set (h : Blk w k cs t) (j : Nat) (u : Value) : Blk (w.setCell ⟨k,j,none⟩ u) k (cs.setIfInBounds j u) t:=by
 unfold Blk at h ⊢
 simp [World.setCell,Array.getElem?_modify,h]
theorem Blk.far (h : Blk w k cs t) {a : Addr} (ha : k ≠ a.block) (u : Value) : Blk (w.setCell a u) k cs t:=by
 unfold Blk at h ⊢
 rw [Below.heap_setCell _ _ _ _ ha]; exact h
theorem Blk.alloc (h : Blk w k cs t) (o : Obj) : Blk (w.alloc o) k cs t:=by
 unfold Blk at h ⊢
 rw [Below.heap_alloc _ _ _ (lt_of_block h)]; exact h
theorem Blk.new (w : World) (cs : Array Value) (t : TypeId) : Blk (w.alloc (.cells cs t)) w.heap.size cs t:=heap_alloc_new w _
theorem Blk.new' (w : World) (cs : Array Value) (t : TypeId) (k : Nat) (hk : k = w.heap.size) : Blk (w.alloc (.cells cs t)) k cs t:=hk ▸ Blk.new w cs t
theorem cell_one_at (w : World) (x : Value) (t : TypeId) (b : Nat) (hb : b = w.heap.size) : ∀ j u,[x][j]? = some u → (w.alloc (.cells #[x] t)).cell? ((⟨b,0,none⟩ : Addr).add j) = some u:=hb ▸ cell_one_new w x t
theorem Blk.drewN (h : Blk w k cs t) (n : Nat) : Blk (w.drewN n) k cs t:=h
end
structure Fr (S : Nat → Prop) (w w' : World) : Prop where
 os : w'.os = w.os
 tape : w'.tape = w.tape
 output : w'.output = w.output
 size : w.heap.size ≤ w'.heap.size
 block : ∀ k,k < w.heap.size → ¬ S k → w'.heap[k]? = w.heap[k]?
def No (_ : Nat) : Prop:=False
section
variable {S S' : Nat → Prop} {w w1 w2 : World}
theorem Fr.refl (S : Nat → Prop) (w : World) : Fr S w w:=⟨rfl,rfl,rfl,Nat.le_refl _,fun _ _ _ => rfl⟩
theorem Fr.trans (h : Fr S w w1) (k : Fr S w1 w2) : Fr S w w2:=
 ⟨k.os.trans h.os,k.tape.trans h.tape,k.output.trans h.output,Nat.le_trans h.size k.size,fun i hi hs => (k.block i (Nat.lt_of_lt_of_le hi h.size) hs).trans (h.block i hi hs)⟩
theorem Fr.then (h : Fr S w w1) (k : Fr S' w1 w2) (hs : ∀ i,i < w.heap.size → S' i → S i) : Fr S w w2:=
 ⟨k.os.trans h.os,k.tape.trans h.tape,k.output.trans h.output,Nat.le_trans h.size k.size,fun i hi hn => (k.block i (Nat.lt_of_lt_of_le hi h.size) (fun e => hn (hs i hi e))).trans (h.block i hi hn)⟩
theorem Fr.alloc (h : Fr S w w1) (o : Obj) : Fr S w (w1.alloc o):=
 ⟨h.os,h.tape,h.output,by simp; have:=h.size; omega,fun i hi hn => by rw [Below.heap_alloc _ _ _ (Nat.lt_of_lt_of_le hi h.size)]; exact h.block i hi hn⟩
theorem Fr.drew (h : Fr S w w1) : Fr S w w1.drew:=⟨h.os,h.tape,h.output,h.size,h.block⟩
theorem Fr.setCell (h : Fr S w w1) {a : Addr} (ha : S a.block ∨ w.heap.size ≤ a.block) (u : Value) : Fr S w (w1.setCell a u):=
 ⟨h.os,h.tape,h.output,by simp [World.setCell]; exact h.size,fun i hi hn => by
  rw [Below.heap_setCell _ _ _ _ (by rintro rfl; rcases ha with ha | ha; exact hn ha; omega)]; exact h.block i hi hn⟩
theorem Fr.grown {row : Option Nat} (h : Fr S w w1) (hg : w1.grownBy w2 row) (hr : ∀ k,row = some k → S k ∨ w.heap.size ≤ k) : Fr S w w2:=
 ⟨hg.os.trans h.os,hg.tape.trans h.tape,hg.output.trans h.output,Nat.le_trans h.size hg.size,fun i hi hn => by
  rw [hg.block i (Nat.lt_of_lt_of_le hi h.size) (fun e => by rcases hr i e.symm with h1 | h1; exact hn h1; omega)]; exact h.block i hi hn⟩
theorem Fr.blk (h : Fr S w w1) {k : Nat} {cs : Array Value} {t : TypeId} (hb : Blk w k cs t) (hs : ¬ S k) : Blk w1 k cs t:=(h.block k hb.lt hs).trans hb
theorem Fr.below {B : Nat} (h : Fr S w w1) (hB : B ≤ w.heap.size) (hs : ∀ i,S i → B ≤ i) : Below B w w1:=
 ⟨h.os,h.tape,h.output,h.size,fun k hk => h.block k (by omega) (fun e => by have:=hs k e; omega)⟩
end
section
variable {w w1 : World} {B : Nat} {e : TypeId} {size n : Nat} {v : Value} {xs : List Value}
theorem row_stays (h : w.ownsRow B e size v n xs) (hk : ∀ k,v.ownBlock = some k → w1.heap[k]? = w.heap[k]?) : w1.ownsRow B e size v n xs:=by
 refine ⟨h.1, ?_⟩
 rcases h.2 with hn | ⟨g,cap,cur,rfl,hb,hgg,rest⟩
 ·exact .inl hn
 ·exact .inr ⟨g,cap,cur,rfl,hb,by rw [hk g rfl]; exact hgg,rest⟩
theorem row_slice (h : w.ownsRow B e size v n xs) : ∃ A cap,v = .slice A n cap ∧ (0 < n → ∃ g,A = some ⟨g,0,none⟩):=by
 rcases h.2 with ⟨rfl,hn⟩ | ⟨g,cap,cur,rfl,_⟩
 ·exact ⟨none,0,by rw [hn],fun h => by omega⟩
 ·exact ⟨_,_,rfl,fun _ => ⟨g,rfl⟩⟩
theorem row_cell {A : Option Addr} {cap : Nat} (h : w.ownsRow B e size (.slice A n cap) n xs) (j : Nat) (u : Value) (hu : xs[j]? = some u) : ∃ g,A = some ⟨g,0,none⟩ ∧ w.cell? ⟨g,j,none⟩ = some u ∧ w.frozen? ⟨g,j,none⟩ = false:=by
 have hj : j < n * size:=by rw [← h.1]; exact (List.getElem?_eq_some_iff.1 hu).1
 have hn : 0 < n:=by
  rcases Nat.eq_zero_or_pos n with h0 | h0
  ·rw [h0] at hj; omega
  ·exact h0
 obtain ⟨A',cap',hv,hA⟩:=row_slice h
 simp only [Value.slice.injEq] at hv
 obtain ⟨rfl,-,rfl⟩:=hv
 obtain ⟨g,rfl⟩:=hA hn
 exact ⟨g,rfl,by rw [h.cellAt j hj,hu],h.frozenAt j⟩
end
theorem row_ne {w : World} {B : Nat} {e : TypeId} {size n : Nat} {v : Value} {xs : List Value} (h : w.ownsRow B e size v n xs) {k : Nat} {cs : Array Value} {t : TypeId} (hb : Blk w k cs t) (ht : t ≠ e) : v.ownBlock ≠ some k:=by
 intro hk
 rcases h.2 with ⟨rfl,_⟩ | ⟨g,cap,cur,rfl,_,hgg,_⟩
 ·simp [Value.ownBlock] at hk
 ·simp [Value.ownBlock] at hk
  subst hk
  unfold Blk at hb
  rw [hgg] at hb
  simp only [Option.some.injEq,Obj.cells.injEq] at hb
  exact ht hb.2.1.symm
theorem own_eq {A : Option Addr} {n c k : Nat} : (Value.slice A n c).ownBlock = some k ↔ (Value.slice A 0 0).ownBlock = some k:=by cases A <;> simp [Value.ownBlock]
theorem own_is {A : Option Addr} {n c : Nat} : (Value.slice A n c).ownBlock = (Value.slice A 0 0).ownBlock:=by cases A <;> simp [Value.ownBlock]
end Go.Proofs.YtjeggkfgdhepaaaGreatDoor

namespace Go.Proofs.YtjeggkfgdhepaaaGreatDoor
def smallB (c : UInt8) : Bool:=decide (97 ≤ c.toNat) && decide (c.toNat ≤ 122)
def greatB (c : UInt8) : Bool:=decide (65 ≤ c.toNat) && decide (c.toNat ≤ 90)
def digitB (c : UInt8) : Bool:=decide (48 ≤ c.toNat) && decide (c.toNat ≤ 57)
def partB (c : UInt8) : Bool:=smallB c || greatB c || digitB c || c.toNat == 95 || c.toNat == 39
def wordL : List UInt8 → Nat
 | [] => 0
 | c :: l => if partB c then wordL l + 1 else 0
inductive Kd where | name | con | key
 deriving DecidableEq
def kindL (isKey : List UInt8 → Bool) : Nat → Bool → List UInt8 → Option (Nat × Kd)
 | 0,_,_ => none
 | _ + 1,_,[] => none
 | f + 1,first,c :: l =>
  if smallB c then (if first && isKey ((c :: l).take (wordL (c :: l))) then some (wordL (c :: l),.key) else some (wordL (c :: l),.name))
  else if greatB c then
   match (c :: l).drop (wordL (c :: l)) with
   | [] => some (wordL (c :: l),.con)
   | d :: r => if d.toNat = 46 then (kindL isKey f false r).map fun x => (wordL (c :: l) + 1 + x.1,x.2) else some (wordL (c :: l),.con)
  else none
theorem wordL_le : ∀ l : List UInt8,wordL l ≤ l.length
 | [] => Nat.le_refl _
 | c :: l => by
  unfold wordL
  split
  ·have:=wordL_le l; simp; omega
  ·exact Nat.zero_le _
theorem wordL_pos {c : UInt8} {l : List UInt8} (h : partB c = true) : 1 ≤ wordL (c :: l):=by
 unfold wordL
 rw [if_pos h]
 omega
theorem part_of_small {c : UInt8} (h : smallB c = true) : partB c = true:=by simp [partB,h]
theorem part_of_great {c : UInt8} (h : greatB c = true) : partB c = true:=by simp [partB,h]
theorem kindL_fuel (isKey : List UInt8 → Bool) : ∀ (f g : Nat) (first : Bool) (l : List UInt8),l.length < f → l.length < g → kindL isKey f first l = kindL isKey g first l
 | 0,_,_,_,h,_ => absurd h (Nat.not_lt_zero _)
 | _,0,_,_,_,h => absurd h (Nat.not_lt_zero _)
 | f + 1,g + 1,first,[],_,_ => rfl
 | f + 1,g + 1,first,c :: l,hf,hg => by
  unfold kindL
  split
  ·rfl
  ·split
   ·rename_i hgr
    have hp:=wordL_pos (l:=l) (part_of_great hgr)
    have hd : ((c :: l).drop (wordL (c :: l))).length = (c :: l).length - wordL (c :: l):=List.length_drop
    split
    ·rfl
    ·rename_i d r he
     rw [he] at hd
     simp at hd hf hg hp
     rw [kindL_fuel isKey f g false r (by omega) (by omega)]
   ·rfl
def kindOf (isKey : List UInt8 → Bool) (first : Bool) (l : List UInt8) : Option (Nat × Kd):=kindL isKey (l.length + 1) first l
def isKindL (isKey : List UInt8 → Bool) (k : Kd) (l : List UInt8) : Bool:=kindOf isKey true l == some (l.length,k)
theorem kindOf_cons (isKey : List UInt8 → Bool) (first : Bool) (c : UInt8) (l : List UInt8) :
  kindOf isKey first (c :: l) = if smallB c then (if first && isKey ((c :: l).take (wordL (c :: l))) then some (wordL (c :: l),.key) else some (wordL (c :: l),.name))
   else if greatB c then
    match (c :: l).drop (wordL (c :: l)) with
    | [] => some (wordL (c :: l),.con)
    | d :: r => if d.toNat = 46 then (kindOf isKey false r).map fun x => (wordL (c :: l) + 1 + x.1,x.2) else some (wordL (c :: l),.con)
   else none:=by
 unfold kindOf
 conv => lhs; unfold kindL
 split
 ·rfl
 ·split
  ·rename_i hgr
   have hp:=wordL_pos (l:=l) (part_of_great hgr)
   have hd : ((c :: l).drop (wordL (c :: l))).length = (c :: l).length - wordL (c :: l):=List.length_drop
   split
   ·rfl
   ·rename_i d r he
    rw [he] at hd
    simp at hd hp
    rw [kindL_fuel isKey (c :: l).length (r.length + 1) false r (by simp; omega) (by omega)]
  ·rfl
end Go.Proofs.YtjeggkfgdhepaaaGreatDoor

namespace Go.Proofs.YtjeggkfgdhepaaaGreatDoor
open Go.RowKit
inductive Ty where
 | mk (dof name : ByteArray) (at_ : Option Addr) (cap : Nat) (args : List Ty)
inductive Pt where
 | mk (dof name : ByteArray) (n : Int) (at_ : Option Addr) (cap : Nat) (args : List Pt)
def Ty.dof : Ty → ByteArray | .mk d _ _ _ _ => d
def Ty.name : Ty → ByteArray | .mk _ n _ _ _ => n
def Ty.at_ : Ty → Option Addr | .mk _ _ a _ _ => a
def Ty.cap : Ty → Nat | .mk _ _ _ c _ => c
def Ty.args : Ty → List Ty | .mk _ _ _ _ l => l
def Pt.dof : Pt → ByteArray | .mk d _ _ _ _ _ => d
def Pt.name : Pt → ByteArray | .mk _ s _ _ _ _ => s
def Pt.num : Pt → Int | .mk _ _ n _ _ _ => n
def Pt.at_ : Pt → Option Addr | .mk _ _ _ a _ _ => a
def Pt.cap : Pt → Nat | .mk _ _ _ _ c _ => c
def Pt.args : Pt → List Pt | .mk _ _ _ _ _ l => l
instance : Inhabited Ty:=⟨.mk ByteArray.empty ByteArray.empty none 0 []⟩
instance : Inhabited Pt:=⟨.mk ByteArray.empty ByteArray.empty 0 none 0 []⟩
theorem Ty.induct {p : Ty → Prop} (h : ∀ d n a c l,(∀ t ∈ l,p t) → p (.mk d n a c l)) (t : Ty) : p t:=
 Ty.rec (motive_1:=p) (motive_2:=fun l => ∀ t ∈ l,p t) (fun d n a c l ih => h d n a c l ih) (fun _ ht => by cases ht) (fun t l h1 h2 u hu => by
  rcases List.mem_cons.1 hu with rfl | hu
  ·exact h1
  ·exact h2 u hu) t
theorem Pt.induct {p : Pt → Prop} (h : ∀ d s n a c l,(∀ t ∈ l,p t) → p (.mk d s n a c l)) (t : Pt) : p t:=
 Pt.rec (motive_1:=p) (motive_2:=fun l => ∀ t ∈ l,p t) (fun d s n a c l ih => h d s n a c l ih) (fun _ ht => by cases ht) (fun t l h1 h2 u hu => by
  rcases List.mem_cons.1 hu with rfl | hu
  ·exact h1
  ·exact h2 u hu) t
def Ty.cells (t : Ty) : List Value:=[.string t.dof,.string t.name,.slice t.at_ t.args.length t.cap]
def Pt.cells (p : Pt) : List Value:=[.string p.dof,.string p.name,.int .i64 p.num,.slice p.at_ p.args.length p.cap]
def Ty.val (t : Ty) : Value:=.agg #[.string t.dof,.string t.name,.slice t.at_ t.args.length t.cap]
def Pt.val (p : Pt) : Value:=.agg #[.string p.dof,.string p.name,.int .i64 p.num,.slice p.at_ p.args.length p.cap]
def RowAt (B : Nat) (w : World) (k : Nat) (A : Option Addr) (l : List (List Value)) : Prop:=
 0 < l.length → ∃ b off,A = some ⟨b,off,none⟩ ∧ b < B ∧ ∀ i x,l[i]? = some x → ∀ j v,x[j]? = some v → w.cell? ⟨b,off + i * k + j,none⟩ = some v
def Ty.In (B : Nat) (w : World) : Ty → Prop
 | .mk d n A c l => d.size ≤ 1099511627776 ∧ n.size ≤ 1099511627776 ∧ l.length ≤ 1099511627776 ∧ (l.length ≤ c ∧ (A = none → c = 0)) ∧ RowAt B w 3 A (l.map Ty.cells) ∧ ∀ p ∈ l.map (fun t => t.In B w),p
def Pt.In (B : Nat) (w : World) : Pt → Prop
 | .mk d n m A c l => d.size ≤ 1099511627776 ∧ n.size ≤ 1099511627776 ∧ (-9223372036854775808 ≤ m ∧ m ≤ 9223372036854775807) ∧ l.length ≤ 1099511627776 ∧ (l.length ≤ c ∧ (A = none → c = 0)) ∧ RowAt B w 4 A (l.map Pt.cells) ∧ ∀ p ∈ l.map (fun t => t.In B w),p
theorem Ty.In_mk {B : Nat} {w : World} {d n : ByteArray} {A : Option Addr} {c : Nat} {l : List Ty} :
  (Ty.mk d n A c l).In B w ↔ d.size ≤ 1099511627776 ∧ n.size ≤ 1099511627776 ∧ l.length ≤ 1099511627776 ∧ (l.length ≤ c ∧ (A = none → c = 0)) ∧ RowAt B w 3 A (l.map Ty.cells) ∧ ∀ t ∈ l,t.In B w:=by
 rw [Ty.In]
 simp only [List.mem_map,forall_exists_index,and_imp,forall_apply_eq_imp_iff₂]
theorem Pt.In_mk {B : Nat} {w : World} {d n : ByteArray} {m : Int} {A : Option Addr} {c : Nat} {l : List Pt} :
  (Pt.mk d n m A c l).In B w ↔ d.size ≤ 1099511627776 ∧ n.size ≤ 1099511627776 ∧ (-9223372036854775808 ≤ m ∧ m ≤ 9223372036854775807) ∧ l.length ≤ 1099511627776 ∧ (l.length ≤ c ∧ (A = none → c = 0)) ∧ RowAt B w 4 A (l.map Pt.cells) ∧ ∀ t ∈ l,t.In B w:=by
 rw [Pt.In]
 simp only [List.mem_map,forall_exists_index,and_imp,forall_apply_eq_imp_iff₂]
structure Sz where
 nodes : Int
 deep : Int
 deriving DecidableEq,Inhabited
def mx (a b : Int) : Int:=if a < b then b else a
def Sz.above (s u : Sz) : Sz:=⟨wrap64 (s.nodes + u.nodes),mx s.deep (wrap64 (u.deep + 1))⟩
def Ty.size : Ty → Sz
 | .mk _ _ _ _ l => l.foldl (fun s t => s.above t.size) ⟨1,1⟩
def Pt.size : Pt → Sz
 | .mk _ _ _ _ _ l => l.foldl (fun s t => s.above t.size) ⟨1,1⟩
theorem Ty.size_mk (d n : ByteArray) (a : Option Addr) (c : Nat) (l : List Ty) : (Ty.mk d n a c l).size = l.foldl (fun s t => s.above t.size) ⟨1,1⟩:=by rw [Ty.size]
theorem Pt.size_mk (d s : ByteArray) (n : Int) (a : Option Addr) (c : Nat) (l : List Pt) : (Pt.mk d s n a c l).size = l.foldl (fun s t => s.above t.size) ⟨1,1⟩:=by rw [Pt.size]
def Sz.fits (s : Sz) : Bool:=decide (s.nodes ≤ 2000) && decide (s.deep ≤ 200)
def bs (l : List UInt8) : ByteArray:=⟨l.toArray⟩
def isDo (p : List UInt8) (d : ByteArray) : Bool:=d.toList == p
def Pt.binds : Pt → List ByteArray
 | .mk d s _ _ _ l => (if isDo [118,97,114] d then [s] else []) ++ (l.map fun p => p.binds).flatten
theorem Pt.binds_mk (d s : ByteArray) (n : Int) (a : Option Addr) (c : Nat) (l : List Pt) : (Pt.mk d s n a c l).binds = (if isDo [118,97,114] d then [s] else []) ++ l.flatMap Pt.binds:=by
 rw [Pt.binds]
 rfl
def Ty.arity (d : ByteArray) : Option Nat:=
 if isDo [105,110,116] d || isDo [98,111,111,108] d || isDo [117,110,105,116] d || isDo [116,101,120,116] d || isDo [100,97,116,97] d || isDo [118,97,114] d then some 0
 else if isDo [108,105,115,116] d || isDo [97,114,114,97,121] d then some 1
 else if isDo [112,97,105,114] d || isDo [102,110] d then some 2
 else none
def isTyVar (s : ByteArray) : Bool:=match s.toList with | [a,b] => a.toNat == 39 && smallB b | _ => false
def Ty.nameOk (con : ByteArray → Bool) (d n : ByteArray) : Bool:=if isDo [100,97,116,97] d then con n else if isDo [118,97,114] d then isTyVar n else n.toList == []
def Ty.well (con : ByteArray → Bool) : Ty → Bool
 | .mk d n _ _ l => Ty.nameOk con d n && Ty.arity d == some l.length && (l.map fun t => t.well con).all id
theorem Ty.well_mk (con : ByteArray → Bool) (d n : ByteArray) (a : Option Addr) (c : Nat) (l : List Ty) : (Ty.mk d n a c l).well con = (Ty.nameOk con d n && Ty.arity d == some l.length && l.all fun t => t.well con):=by rw [Ty.well]; simp [List.all_map,Function.comp_def]
def Ty.valid (con : ByteArray → Bool) (t : Ty) : Bool:=t.well con && t.size.fits
end Go.Proofs.YtjeggkfgdhepaaaGreatDoor

namespace Go.Proofs.YtjeggkfgdhepaaaGreatDoor
open Go.RowKit
open Go.Proofs
theorem between_any (a b c : Int) (w : World) :
  Calls Tryz.prog 149 #[.int .u8 a,.int .u8 b,.int .u8 c] w fun e w' => e = .returned (.bool (decide (a ≤ b) && decide (b ≤ c))) ∧ w = w':=by
 by_cases h1 : a ≤ b <;> by_cases h2 : b ≤ c
 all_goals
  go_enter Tryz.func149,Tryz.ntmps149
  go_wp2
  go_ret
  simp [h1,h2]
theorem between_is (a b c : Int) (r : Bool) (hr : (decide (a ≤ b) && decide (b ≤ c)) = r) (w : World) :
  Calls Tryz.prog 149 #[.int .u8 a,.int .u8 b,.int .u8 c] w fun e w' => e = .returned (.bool r) ∧ w = w':=hr ▸ between_any a b c w
theorem digit_n (n : Int) (r : Bool) (h : (decide ((48 : Int) ≤ n) && decide (n ≤ 57)) = r) (w : World) :
  Calls Tryz.prog 180 #[.int .u8 n] w fun e w' => e = .returned (.bool r) ∧ w = w':=by
 go_enter Tryz.func180,Tryz.ntmps180
 go_wp2_with (go_at_call 149; refine (between_is _ _ _ _ h _).mono ?_; rintro e w' ⟨rfl,rfl⟩)
 go_ret
 exact ⟨rfl,rfl⟩
theorem small_test (c : UInt8) : (decide ((97 : Int) ≤ (c.toNat : Int)) && decide ((c.toNat : Int) ≤ 122)) = smallB c:=by
 unfold smallB
 congr 1 <;> exact decide_eq_decide.2 (by omega)
theorem great_test (c : UInt8) : (decide ((65 : Int) ≤ (c.toNat : Int)) && decide ((c.toNat : Int) ≤ 90)) = greatB c:=by
 unfold greatB
 congr 1 <;> exact decide_eq_decide.2 (by omega)
theorem digit_test (c : UInt8) : (decide ((48 : Int) ≤ (c.toNat : Int)) && decide ((c.toNat : Int) ≤ 57)) = digitB c:=by
 unfold digitB
 congr 1 <;> exact decide_eq_decide.2 (by omega)
set_option maxHeartbeats 1000000 in
theorem part_n (n : Int) (s g d x y : Bool) (hs : (decide ((97 : Int) ≤ n) && decide (n ≤ 122)) = s) (hg : (decide ((65 : Int) ≤ n) && decide (n ≤ 90)) = g) (hd : (decide ((48 : Int) ≤ n) && decide (n ≤ 57)) = d)
  (hx : (n == 95) = x) (hy : (n == 39) = y) (w : World) :
  Calls Tryz.prog 179 #[.int .u8 n] w fun e w' => e = .returned (.bool (s || g || d || x || y)) ∧ w = w':=by
 have Hs:=Lib.hid hs
 have Hg:=Lib.hid hg
 have Hd:=Lib.hid hd
 clear hs hg hd
 rcases s with _ | _
 rcases g with _ | _
 rcases d with _ | _
 rcases x with _ | _
 rcases y with _ | _
 all_goals
  go_enter Tryz.func179,Tryz.ntmps179
  go_wp2_with (first | (go_at_call 180; refine (digit_n _ _ Hd.out _).mono ?_; rintro e w' ⟨rfl,rfl⟩) | (go_at_call 149; refine (between_any _ _ _ _).mono ?_; rintro e w' ⟨rfl,rfl⟩; first | rw [Hs.out] | rw [Hg.out]))
  go_ret
  exact ⟨rfl,rfl⟩
end Go.Proofs.YtjeggkfgdhepaaaGreatDoor

namespace Go.Proofs.YtjeggkfgdhepaaaGreatDoor
open Go.RowKit
open Go.Proofs
theorem part_is (c : UInt8) (w : World) : Calls Tryz.prog 179 #[.int .u8 c.toNat] w fun e w' => e = .returned (.bool (partB c)) ∧ w = w':=by
 refine (part_n c.toNat _ _ _ _ _ (small_test c) (great_test c) (digit_test c) rfl rfl w).mono ?_
 rintro e w' ⟨rfl,rfl⟩
 refine ⟨?_,rfl⟩
 have h1 : ((c.toNat : Int) == 95) = (c.toNat == 95):=Bool.eq_iff_iff.2 (by simp; omega)
 have h2 : ((c.toNat : Int) == 39) = (c.toNat == 39):=Bool.eq_iff_iff.2 (by simp; omega)
 unfold partB
 rw [h1,h2]
theorem wordL_step {c : UInt8} {l : List UInt8} (h : partB c = true) : wordL (c :: l) = wordL l + 1:=by
 conv => lhs; unfold wordL
 rw [if_pos h]
theorem wordL_stop {c : UInt8} {l : List UInt8} (h : partB c = false) : wordL (c :: l) = 0:=by
 unfold wordL
 rw [if_neg (by simp [h])]
def from_ (s : ByteArray) (i : Nat) : List UInt8:=s.data.toList.drop i
theorem from_lt {s : ByteArray} {i : Nat} (h : i < s.size) : from_ s i = s[i] :: from_ s (i + 1):=by
 unfold from_
 exact List.drop_eq_getElem_cons (by simpa using h)
theorem from_end (s : ByteArray) {i : Nat} (h : s.size ≤ i) : from_ s i = []:=List.drop_eq_nil_of_le (by simpa using h)
set_option maxHeartbeats 1000000 in
theorem word_any (s : ByteArray) (hs : s.size ≤ 140737488355328) (w : World) :
  Calls Tryz.prog 165 #[.string s] w fun e w' => e = .returned (.int .i64 (wordL (from_ s 0))) ∧ w = w':=by
 go_enter Tryz.func165,Tryz.ntmps165
 go_wp2
 go_loopw [3] (fun iv wr => ∃ i : Nat,iv = .int .i64 i ∧ i ≤ s.size ∧ Hid (wordL (from_ s 0) = i + wordL (from_ s i)) ∧ wr = w) (fun iv wr => match iv with | .int _ i => s.size - i.toNat | _ => 0)
 case atStart =>
  exact ⟨0,rfl,Nat.zero_le _,Lib.hid (by omega),rfl⟩
 case round =>
  obtain ⟨i,rfl,hi,H,rfl⟩:=hrel
  by_cases hlt : i < s.size
  ·obtain ⟨r,hr⟩ : ∃ r,partB s[i] = r:=⟨_,rfl⟩
   have hc:=part_is s[i]
   rw [hr] at hc
   have h0 : (0 : Int) ≤ i ∧ (i : Int) < s.size:=by omega
   cases r
   ·go_wp2_with (go_at_call 179; refine (hc _).mono ?_; rintro e w' ⟨rfl,rfl⟩)
    go_ret
    have e:=H.out
    rw [from_lt hlt,wordL_stop hr] at e
    exact ⟨ret_int (by omega),rfl⟩
   ·go_wp2_with (go_at_call 179; refine (hc _).mono ?_; rintro e w' ⟨rfl,rfl⟩)
    have e:=H.out
    rw [from_lt hlt,wordL_step hr] at e
    exact ⟨⟨i + 1,by simp,by omega,Lib.hid (by omega),trivial⟩,by simp; omega⟩
  ·go_wp2
   go_ret
   have e:=H.out
   rw [from_end s (i:=i) (by omega)] at e
   have e0 : wordL [] = 0:=rfl
   exact ⟨ret_int (by omega),rfl⟩
end Go.Proofs.YtjeggkfgdhepaaaGreatDoor

namespace Go.Proofs.YtjeggkfgdhepaaaGreatDoor
open Go.RowKit
open Go.Proofs
theorem rsmall_is (c : UInt8) (w : World) : Calls Tryz.prog 158 #[.int .u8 c.toNat] w fun e w' => e = .returned (.bool (smallB c)) ∧ w = w':=by
 have h : (decide ((97 : Int) ≤ (c.toNat : Int)) && decide ((c.toNat : Int) ≤ 122)) = smallB c:=small_test c
 rw [← h]
 generalize (c.toNat : Int) = n
 by_cases h1 : (97 : Int) ≤ n <;> by_cases h2 : n ≤ 122
 all_goals
  go_enter Tryz.func158,Tryz.ntmps158
  go_wp2
  go_ret
  simp [h1,h2]
theorem rgreat_is (c : UInt8) (w : World) : Calls Tryz.prog 159 #[.int .u8 c.toNat] w fun e w' => e = .returned (.bool (greatB c)) ∧ w = w':=by
 have h : (decide ((65 : Int) ≤ (c.toNat : Int)) && decide ((c.toNat : Int) ≤ 90)) = greatB c:=great_test c
 rw [← h]
 generalize (c.toNat : Int) = n
 by_cases h1 : (65 : Int) ≤ n <;> by_cases h2 : n ≤ 90
 all_goals
  go_enter Tryz.func159,Tryz.ntmps159
  go_wp2
  go_ret
  simp [h1,h2]
theorem rdigit_is (c : UInt8) (w : World) : Calls Tryz.prog 177 #[.int .u8 c.toNat] w fun e w' => e = .returned (.bool (digitB c)) ∧ w = w':=by
 have h : (decide ((48 : Int) ≤ (c.toNat : Int)) && decide ((c.toNat : Int) ≤ 57)) = digitB c:=digit_test c
 rw [← h]
 generalize (c.toNat : Int) = n
 by_cases h1 : (48 : Int) ≤ n <;> by_cases h2 : n ≤ 57
 all_goals
  go_enter Tryz.func177,Tryz.ntmps177
  go_wp2
  go_ret
  simp [h1,h2]
set_option maxHeartbeats 1000000 in
theorem rest_n (n : Int) (s g d x y : Bool) (hs : ∀ w : World,Calls Tryz.prog 158 #[.int .u8 n] w fun e w' => e = .returned (.bool s) ∧ w = w') (hg : ∀ w : World,Calls Tryz.prog 159 #[.int .u8 n] w fun e w' => e = .returned (.bool g) ∧ w = w')
  (hd : ∀ w : World,Calls Tryz.prog 177 #[.int .u8 n] w fun e w' => e = .returned (.bool d) ∧ w = w') (hx : (n == 95) = x) (hy : (n == 39) = y) (w : World) :
  Calls Tryz.prog 186 #[.int .u8 n] w fun e w' => e = .returned (.bool (s || g || d || x || y)) ∧ w = w':=by
 have Hs:=Lib.hid hs
 have Hg:=Lib.hid hg
 have Hd:=Lib.hid hd
 clear hs hg hd
 rcases s with _ | _
 rcases g with _ | _
 rcases d with _ | _
 rcases x with _ | _
 rcases y with _ | _
 all_goals
  go_enter Tryz.func186,Tryz.ntmps186
  go_wp2_with (first | (go_at_call 177; refine (Hd.out _).mono ?_; rintro e w' ⟨rfl,rfl⟩) | (go_at_call 158; refine (Hs.out _).mono ?_; rintro e w' ⟨rfl,rfl⟩) | (go_at_call 159; refine (Hg.out _).mono ?_; rintro e w' ⟨rfl,rfl⟩))
  go_ret
  exact ⟨rfl,rfl⟩
theorem rest_is (c : UInt8) (w : World) : Calls Tryz.prog 186 #[.int .u8 c.toNat] w fun e w' => e = .returned (.bool (partB c)) ∧ w = w':=by
 refine (rest_n c.toNat _ _ _ _ _ (rsmall_is c) (rgreat_is c) (rdigit_is c) rfl rfl w).mono ?_
 rintro e w' ⟨rfl,rfl⟩
 refine ⟨?_,rfl⟩
 have h1 : ((c.toNat : Int) == 95) = (c.toNat == 95):=Bool.eq_iff_iff.2 (by simp; omega)
 have h2 : ((c.toNat : Int) == 39) = (c.toNat == 39):=Bool.eq_iff_iff.2 (by simp; omega)
 unfold partB
 rw [h1,h2]
end Go.Proofs.YtjeggkfgdhepaaaGreatDoor

namespace Go.Proofs.YtjeggkfgdhepaaaGreatDoor
open Go.RowKit
open Go.Proofs
def letterAt (s : ByteArray) (a : Nat) : Bool:=match from_ s a with | [] => false | c :: _ => smallB c || greatB c
set_option maxHeartbeats 1000000 in
theorem rword_any (s : ByteArray) (hs : s.size ≤ 140737488355328) (p : Nat) (hp : p ≤ 140737488355330) (w : World) :
  Calls Tryz.prog 175 #[.string s,.int .i64 p] w fun e w' => e = .returned (.int .i64 (if letterAt s p then wordL (from_ s p) else 0 : Nat)) ∧ w = w':=by
 by_cases hlt : p < s.size
 ·have h0 : (0 : Int) ≤ p ∧ (p : Int) < s.size:=by omega
  obtain ⟨a,ha⟩ : ∃ a,smallB s[p] = a:=⟨_,rfl⟩
  obtain ⟨g,hg⟩ : ∃ g,greatB s[p] = g:=⟨_,rfl⟩
  have hl : letterAt s p = (a || g):=by unfold letterAt; rw [from_lt hlt]; simp [ha,hg]
  have ca:=rsmall_is s[p]
  have cg:=rgreat_is s[p]
  have hpart : (a || g) = true → partB s[p] = true:=fun h => by unfold partB; rw [ha,hg,h]; simp
  rw [ha] at ca
  rw [hg] at cg
  rw [hl]
  have Hh:=Lib.hid hpart
  clear hl ha hg hpart
  cases a <;> cases g
  ·go_enter Tryz.func175,Tryz.ntmps175
   go_wp2_with (first | (go_at_call 158; refine (ca _).mono ?_; rintro e w' ⟨rfl,rfl⟩) | (go_at_call 159; refine (cg _).mono ?_; rintro e w' ⟨rfl,rfl⟩))
   go_ret
   exact ⟨rfl,rfl⟩
  all_goals
   go_enter Tryz.func175,Tryz.ntmps175
   go_wp2_with (first | (go_at_call 158; refine (ca _).mono ?_; rintro e w' ⟨rfl,rfl⟩) | (go_at_call 159; refine (cg _).mono ?_; rintro e w' ⟨rfl,rfl⟩))
   go_loopw [5] (fun iv wr => ∃ i : Nat,iv = .int .i64 i ∧ p + i ≤ s.size ∧ Hid (wordL (from_ s p) = i + wordL (from_ s (p + i))) ∧ wr = w) (fun iv wr => match iv with | .int _ i => s.size - i.toNat | _ => 0)
   case atStart =>
    refine ⟨1,rfl,by omega,Lib.hid ?_,rfl⟩
    rw [from_lt hlt,wordL_step (Hh.out rfl)]
    omega
   case round =>
    obtain ⟨i,rfl,hi,H,rfl⟩:=hrel
    by_cases hlt2 : p + i < s.size
    ·obtain ⟨r,hr⟩ : ∃ r,partB s[p + i] = r:=⟨_,rfl⟩
     have hc:=rest_is s[p + i]
     rw [hr] at hc
     have h1 : (0 : Int) ≤ p + i ∧ (p : Int) + i < s.size:=by omega
     have h2 : ((p : Int) + i).toNat = p + i:=by omega
     cases r
     ·go_wp2_with (go_at_call 186; refine (hc _).mono ?_; rintro e w' ⟨rfl,rfl⟩)
      go_ret
      have e:=H.out
      rw [from_lt hlt2,wordL_stop hr] at e
      exact ⟨ret_int (by first | omega | (simp; omega) | (simp only [Bool.or_self,Bool.or_true,Bool.true_or,if_true]; omega)),rfl⟩
     ·go_wp2_with (go_at_call 186; refine (hc _).mono ?_; rintro e w' ⟨rfl,rfl⟩)
      have e:=H.out
      rw [from_lt hlt2,wordL_step hr] at e
      exact ⟨⟨i + 1,by simp,by omega,Lib.hid (by rw [← Nat.add_assoc]; omega),trivial⟩,by simp; omega⟩
    ·go_wp2
     go_ret
     have e:=H.out
     rw [from_end s (i:=p + i) (by omega)] at e
     have e0 : wordL [] = 0:=rfl
     exact ⟨ret_int (by first | omega | (simp; omega) | (simp only [Bool.or_self,Bool.or_true,Bool.true_or,if_true]; omega)),rfl⟩
 ·have hl : letterAt s p = false:=by unfold letterAt; rw [from_end s (by omega)]
  rw [hl]
  go_enter Tryz.func175,Tryz.ntmps175
  go_wp2
  go_ret
  exact ⟨rfl,rfl⟩
end Go.Proofs.YtjeggkfgdhepaaaGreatDoor

namespace Go.Proofs.YtjeggkfgdhepaaaGreatDoor
open Go.RowKit
open Go.Proofs
theorem grown_any (a b c d : Int) (w : World) :
  Calls Tryz.prog 64 #[.int .i64 a,.int .i64 b,.int .i64 c,.int .i64 d] w fun e w' => e = .returned (.tuple #[.int .i64 (Sz.above ⟨a,b⟩ ⟨c,d⟩).nodes,.int .i64 (Sz.above ⟨a,b⟩ ⟨c,d⟩).deep]) ∧ w = w':=by
 go_enter Tryz.func64,Tryz.ntmps64
 go_wp2
 all_goals
  go_ret2
 ·have h : b < wrap64 (d + 1):=by assumption
  exact ⟨by simp [Sz.above,mx,h],rfl⟩
 ·have h : ¬ b < wrap64 (d + 1):=by omega
  exact ⟨by simp [Sz.above,mx,h],rfl⟩
theorem small_any (a b : Int) (w : World) :
  Calls Tryz.prog 31 #[.int .i64 a,.int .i64 b] w fun e w' => e = .returned (.bool (Sz.fits ⟨a,b⟩)) ∧ w = w':=by
 by_cases h1 : a ≤ 2000 <;> by_cases h2 : b ≤ 200
 all_goals
  go_enter Tryz.func31,Tryz.ntmps31
  go_wp2
  go_ret
  simp [Sz.fits,h1,h2]
theorem fits_any (a b : Int) (w : World) :
  Calls Tryz.prog 47 #[.agg #[.int .i64 a,.int .i64 b]] w fun e w' => e = .returned (.bool (Sz.fits ⟨a,b⟩)) ∧ Below w.heap.size w w':=by
 by_cases h1 : a ≤ 2000 <;> by_cases h2 : b ≤ 200
 all_goals
  go_enter Tryz.func47,Tryz.ntmps47
  go_wp2
  go_ret
  exact ⟨by simp [Sz.fits,h1,h2],(Below.refl _ _).alloc (Nat.le_refl _) _⟩
end Go.Proofs.YtjeggkfgdhepaaaGreatDoor

namespace Go.Proofs.YtjeggkfgdhepaaaGreatDoor
open Go.RowKit
open Go.Proofs
def Sz.cells (s : Sz) : List Value:=[.int .i64 s.nodes,.int .i64 s.deep]
def Sz.arr (s : Sz) : Array Value:=#[.int .i64 s.nodes,.int .i64 s.deep]
def Sz.upto (l : List Sz) (k : Nat) : Sz:=(l.take k).foldl Sz.above ⟨1,1⟩
theorem Sz.upto_succ {l : List Sz} {k : Nat} {s : Sz} (h : l[k]? = some s) : Sz.upto l (k + 1) = (Sz.upto l k).above s:=by
 unfold Sz.upto
 have hlt : k < l.length:=(List.getElem?_eq_some_iff.1 h).1
 rw [List.take_add_one,h]
 simp
theorem Sz.upto_all (l : List Sz) : Sz.upto l l.length = l.foldl Sz.above ⟨1,1⟩:=by simp [Sz.upto]
set_option maxHeartbeats 1000000 in
theorem above_any (A : Option Addr) (cap : Nat) (l : List Sz) (w : World) (hrow : RowAt w.heap.size w 2 A (l.map Sz.cells)) (hl : l.length ≤ 1099511627776) :
  Calls Tryz.prog 93 #[.slice A l.length cap] w fun e w' => e = .returned (.agg #[.int .i64 (l.foldl Sz.above ⟨1,1⟩).nodes,.int .i64 (l.foldl Sz.above ⟨1,1⟩).deep]) ∧ Below w.heap.size w w':=by
 have HR:=Lib.hid hrow
 clear hrow
 go_enter Tryz.func93,Tryz.ntmps93
 go_wp2
 go_loopw [9] (fun iv wr => ∃ k : Nat,iv = .int .i64 k ∧ k ≤ l.length ∧ Hid (Below w.heap.size w wr) ∧ Hid (Blk wr w.heap.size #[.int .i64 0,.int .i64 0] 92) ∧ Hid (Blk wr (w.heap.size + 1) (Sz.upto l k).arr 92)) (fun iv _ => l.length - (intOf iv).toNat)
 case atStart =>
  refine ⟨0,rfl,Nat.zero_le _,Lib.hid ?_,Lib.hid ?_,Lib.hid ?_⟩
  ·exact ((Below.refl _ _).alloc (Nat.le_refl _) _).alloc (by simp) _
  ·exact (Blk.new _ _ _).alloc _
  ·exact Blk.new' _ _ _ _ (by simp)
 case round =>
  obtain ⟨k,rfl,hk,HB,H0,H1⟩:=hrel
  have hsz:=H1.out.lt
  have d0:=H0.out.lt
  have e0:=H0.out.cell 0
  have e1:=H0.out.cell 1
  have g0:=H0.out.free 0
  have g1:=H0.out.free 1
  have c0:=H1.out.cell 0
  have c1:=H1.out.cell 1
  have f0:=H1.out.free 0
  have f1:=H1.out.free 1
  unfold Sz.arr at c0 c1
  simp only [List.getElem?_toArray,List.getElem?_cons_zero,List.getElem?_cons_succ] at c0 c1 e0 e1
  by_cases hlt : k < l.length
  ·obtain ⟨s,hs⟩ : ∃ s,l[k]? = some s:=⟨_,List.getElem?_eq_getElem hlt⟩
   have hstep:=Sz.upto_succ hs
   obtain ⟨b,off,rfl,hb,hc⟩:=HR.out (by simp; omega)
   have x0:=(HB.out.cell (p:=⟨b,off + k * 2,none⟩) hb).trans (hc k s.cells (by simp [hs]) 0 _ rfl)
   have x1:=(HB.out.cell (p:=⟨b,off + k * 2 + 1,none⟩) hb).trans (hc k s.cells (by simp [hs]) 1 _ rfl)
   clear hc
   have HS:=Lib.hid hstep
   clear hstep hs
   go_wp2
   refine ⟨⟨k + 1,by go_num,by omega,Lib.hid ?_,Lib.hid ?_,Lib.hid ?_⟩,by simp [intOf]; omega⟩
   ·exact ((HB.out.setCell (by simp) _).setCell (by simp) _).alloc (by simp [World.setCell]; omega) _
   ·exact ((H0.out.far (by simp) _).far (by simp) _).alloc _
   ·rw [HS.out]
    exact (((H1.out.set 0 _).set 1 _).alloc _).cast (by simp [Sz.arr,Sz.above,mx])
  ·have hk2 : k = l.length:=by omega
   subst hk2
   rw [Sz.upto_all] at c0 c1
   go_wp2
   exact bodyPost_ret (v:=.agg #[.int .i64 (l.foldl Sz.above ⟨1,1⟩).nodes,.int .i64 (l.foldl Sz.above ⟨1,1⟩).deep]) (by simp [results,Tryz.results93,go_sem,e0,e1,g0,g1,d0]) rfl ⟨rfl,(HB.out.setCell (by simp) _).setCell (by simp) _⟩
end Go.Proofs.YtjeggkfgdhepaaaGreatDoor

namespace Go.Proofs.YtjeggkfgdhepaaaGreatDoor
open Go.RowKit
open Go.Proofs
theorem infoSz : (Tryz.prog.info? 92).map (fun i => (i.zero,i.size,i.bytes)) = some (some (.agg #[.int .i64 0,.int .i64 0]),2,16):=by kernel_rfl
theorem RowAt.of_row {B E k n : Nat} {w : World} {A : Option Addr} {c : Nat} {l : List (List Value)} (h : w.ownsRow B E k (.slice A n c) n l.flatten) (hn : l.length = n) (hk : ∀ x ∈ l,x.length = k) : RowAt w.heap.size w k A l:=by
 intro hpos
 have hx0 : l[0]? = some (l[0]'hpos):=List.getElem?_eq_getElem _
 have key : ∀ (l : List (List Value)) (i : Nat) (x : List Value) (j : Nat) (v : Value),(∀ x ∈ l,x.length = k) → l[i]? = some x → x[j]? = some v → l.flatten[i * k + j]? = some v:=by
  intro l
  induction l with
  | nil => intro i x j v _ h; simp at h
  | cons y l ih =>
   intro i x j v hk hx hv
   have hy:=hk y (by simp)
   rcases i with _ | i
   ·simp only [List.getElem?_cons_zero,Option.some.injEq] at hx
    subst hx
    have hj : j < y.length:=(List.getElem?_eq_some_iff.1 hv).1
    rw [List.flatten_cons,List.getElem?_append_left (by omega)]
    simpa using hv
   ·simp only [List.getElem?_cons_succ] at hx
    have:=ih i x j v (fun x hx => hk x (by simp [hx])) hx hv
    rw [List.flatten_cons,List.getElem?_append_right (by rw [hy,Nat.add_mul]; omega),hy,Nat.add_mul]
    have e : i * k + 1 * k + j - k = i * k + j:=by omega
    rw [e]
    exact this
 rcases Nat.eq_zero_or_pos k with hk0 | hk0
 ·obtain ⟨A',c',hv,hA⟩:=row_slice h
  simp only [Value.slice.injEq,true_and] at hv
  obtain ⟨rfl,rfl⟩:=hv
  obtain ⟨g,rfl⟩:=hA (by omega)
  refine ⟨g,0,rfl, ?_,fun i x hx j v hv => ?_⟩
  ·rcases h.2 with ⟨hh,_⟩ | ⟨g',cap,cur,hh,_,hgg,_⟩
   ·simp at hh
   ·simp only [Value.slice.injEq,Option.some.injEq] at hh
    have : g = g':=by have:=hh.1; simp at this; exact this
    subst this
    exact (Array.getElem?_eq_some_iff.1 hgg).1
  ·have:=hk x (List.mem_of_getElem? hx)
   have hj:=(List.getElem?_eq_some_iff.1 hv).1
   omega
 ·have hv0 : (l[0]'hpos)[0]? = some ((l[0]'hpos)[0]'(by rw [hk _ (List.getElem_mem _)]; omega)):=List.getElem?_eq_getElem _
  obtain ⟨g,rfl,hc,-⟩:=row_cell h (0 * k + 0) _ (key l 0 _ 0 _ hk hx0 hv0)
  refine ⟨g,0,rfl,World.block_lt_of_cell? _ _ hc,fun i x hx j v hv => ?_⟩
  obtain ⟨g2,hg2,hc2,-⟩:=row_cell h (i * k + j) v (key l i x j v hk hx hv)
  simp only [Option.some.injEq,Addr.mk.injEq,and_true] at hg2
  subst hg2
  simpa using hc2
section
variable {B B' : Nat} {w w' : World}
theorem RowAt.keep {k : Nat} {A : Option Addr} {l : List (List Value)} (h : RowAt B w k A l) (hb : Below B w w') : RowAt B w' k A l:=by
 intro hp
 obtain ⟨b,off,rfl,hlt,hc⟩:=h hp
 exact ⟨b,off,rfl,hlt,fun i x hx j v hv => (hb.cell (p:=⟨b,off + i * k + j,none⟩) hlt).trans (hc i x hx j v hv)⟩
theorem RowAt.wider {k : Nat} {A : Option Addr} {l : List (List Value)} (h : RowAt B w k A l) (hb : B ≤ B') : RowAt B' w k A l:=by
 intro hp
 obtain ⟨b,off,rfl,hlt,hc⟩:=h hp
 exact ⟨b,off,rfl,by omega,hc⟩
theorem Ty.In.keep (hb : Below B w w') : ∀ t : Ty,t.In B w → t.In B w':=
 Ty.induct fun d n a c l ih h => by
  rw [Ty.In_mk] at h ⊢
  exact ⟨h.1,h.2.1,h.2.2.1,h.2.2.2.1,h.2.2.2.2.1.keep hb,fun t ht => ih t ht (h.2.2.2.2.2 t ht)⟩
theorem Pt.In.keep (hb : Below B w w') : ∀ t : Pt,t.In B w → t.In B w':=
 Pt.induct fun d n m a c l ih h => by
  rw [Pt.In_mk] at h ⊢
  exact ⟨h.1,h.2.1,h.2.2.1,h.2.2.2.1,h.2.2.2.2.1,h.2.2.2.2.2.1.keep hb,fun t ht => ih t ht (h.2.2.2.2.2.2 t ht)⟩
theorem Ty.In.wider (hb : B ≤ B') : ∀ t : Ty,t.In B w → t.In B' w:=
 Ty.induct fun d n a c l ih h => by
  rw [Ty.In_mk] at h ⊢
  exact ⟨h.1,h.2.1,h.2.2.1,h.2.2.2.1,h.2.2.2.2.1.wider hb,fun t ht => ih t ht (h.2.2.2.2.2 t ht)⟩
theorem Pt.In.wider (hb : B ≤ B') : ∀ t : Pt,t.In B w → t.In B' w:=
 Pt.induct fun d n m a c l ih h => by
  rw [Pt.In_mk] at h ⊢
  exact ⟨h.1,h.2.1,h.2.2.1,h.2.2.2.1,h.2.2.2.2.1,h.2.2.2.2.2.1.wider hb,fun t ht => ih t ht (h.2.2.2.2.2.2 t ht)⟩
theorem Ty.In.next {t : Ty} (h : t.In w.heap.size w) (hb : Below w.heap.size w w') : t.In w'.heap.size w':=Ty.In.wider hb.size _ (Ty.In.keep hb _ h)
theorem Pt.In.next {t : Pt} (h : t.In w.heap.size w) (hb : Below w.heap.size w w') : t.In w'.heap.size w':=Pt.In.wider hb.size _ (Pt.In.keep hb _ h)
end
set_option maxHeartbeats 1000000 in
theorem ofPat_any : ∀ (p : Pt) (w : World),p.In w.heap.size w →
  Calls Tryz.prog 46 #[p.val] w fun e w' => e = .returned (.agg #[.int .i64 p.size.nodes,.int .i64 p.size.deep]) ∧ Below w.heap.size w w':=by
 refine Pt.induct fun d n m A c l ih w hin => ?_
 obtain ⟨hd,hn,hm,hl,-,hrow,hall⟩:=Pt.In_mk.1 hin
 rw [Pt.size_mk]
 have HR:=Lib.hid hrow
 have HA:=Lib.hid hall
 have IH:=Lib.hid ih
 clear hin hrow hall ih
 obtain ⟨i0,hi,hz0,hz1,hz2⟩:=info_parts infoSz
 unfold Pt.val
 simp only [Pt.dof,Pt.name,Pt.num,Pt.at_,Pt.cap,Pt.args]
 go_enter Tryz.func46,Tryz.ntmps46
 go_wp2_with fail
 go_loopw [9,3] (fun iv ov wr => ∃ (k : Nat) (A' : Option Addr) (c' : Nat),iv = .int .i64 k ∧ k ≤ l.length ∧ ov = .slice A' k c' ∧ Hid (Below w.heap.size w wr) ∧ Hid (Blk wr (w.heap.size + 1) #[.int .i64 0,.int .i64 0] 92) ∧ Hid (wr.ownsRow (w.heap.size + 2) 92 2 (.slice A' k c') k (((l.take k).map fun t => t.size.cells).flatten)) ∧ w.heap.size + 2 ≤ wr.heap.size) (fun iv _ _ => l.length - (intOf iv).toNat)
 case atStart =>
  refine ⟨0,none,0,rfl,Nat.zero_le _,rfl,Lib.hid ?_,Lib.hid ?_,Lib.hid (World.ownsRow_nil _ _ _ _),by simp⟩
  ·exact ((Below.refl _ _).alloc (Nat.le_refl _) _).alloc (by simp) _
  ·exact Blk.new' _ _ _ _ (by simp)
 case round =>
  obtain ⟨k,A',c',rfl,hk,rfl,HB,H0,HO,hsz⟩:=hrel
  have e0:=H0.out.cell 0
  have e1:=H0.out.cell 1
  have g0:=H0.out.free 0
  have g1:=H0.out.free 1
  have d0:=H0.out.lt
  simp only [List.getElem?_toArray,List.getElem?_cons_zero,List.getElem?_cons_succ] at e0 e1
  by_cases hlt : k < l.length
  ·obtain ⟨q,hq⟩ : ∃ q,l[k]? = some q:=⟨_,List.getElem?_eq_getElem hlt⟩
   have hmem:=List.mem_of_getElem? hq
   obtain ⟨b,off,rfl,hb,hc⟩:=HR.out (by simp; omega)
   have x0:=(HB.out.cell (p:=⟨b,off + k * 4,none⟩) hb).trans (hc k q.cells (by simp [hq]) 0 _ rfl)
   have x1:=(HB.out.cell (p:=⟨b,off + k * 4 + 1,none⟩) hb).trans (hc k q.cells (by simp [hq]) 1 _ rfl)
   have x2:=(HB.out.cell (p:=⟨b,off + k * 4 + 2,none⟩) hb).trans (hc k q.cells (by simp [hq]) 2 _ rfl)
   have x3:=(HB.out.cell (p:=⟨b,off + k * 4 + 3,none⟩) hb).trans (hc k q.cells (by simp [hq]) 3 _ rfl)
   have hqin : q.In wr.heap.size wr:=(Pt.In.wider HB.out.size _ (Pt.In.keep HB.out _ (HA.out q hmem)))
   have HQ:=Lib.hid hqin
   have HK:=Lib.hid hq
   have hcall:=Lib.hid fun w1 (hh : q.In w1.heap.size w1) => IH.out q hmem w1 hh
   clear hc hq hqin
   go_wp2_with fail
   refine (hcall.out _ (HQ.out.next ((Below.refl _ _).alloc (Nat.le_refl _) _))).mono ?_
   rintro en w1 ⟨rfl,hb1⟩
   have HB1:=Lib.hid (((Below.refl _ _).alloc (Nat.le_refl _) _).trans (hb1.mono (by simp)))
   have hs1 : wr.heap.size + 1 ≤ w1.heap.size:=by have:=hb1.size; simpa using this
   clear hb1
   go_wp2_with (at_builtin; go_must (refine wpList_append_own_at _ rfl (.tmp 13) (.tmp 16) 142 rfl (w.heap.size + 2) 92 i0 _ 2 16 Tryz.underlying142 hi hz0 hz1 hz2 rfl (by decide) (.slice A' k c') k (((l.take k).map fun t => t.size.cells).flatten) rfl ?hown ⟨w1.heap.size,0,none⟩ 1 1 q.size.cells rfl rfl ?c1 ?c2 ?c3 ?c4 ?c5 ?_))
   case hown =>
    refine World.ownsRow.alloc (row_stays HO.out fun k hk => ?_) _
    exact HB1.out.block k (by have:=(HO.out.lt k hk).2; omega)
   case c1 => exact World.news_of_block (heap_alloc_new w1 _)
   case c2 => simp [Value.oneCell',Sz.cells]
   case c3 => unfold maxLen; omega
   case c4 => omega
   case c5 => first | omega | (simp; omega)
   intro v' w2 hown hgrow _ hwhere
   obtain ⟨A2,c2,rfl,-⟩:=row_slice hown
   have hb2 : Below wr.heap.size wr (w1.alloc (.cells #[.int .i64 q.size.nodes,.int .i64 q.size.deep] 92)):=HB1.out.alloc (by omega) _
   have hb3 : Below (w.heap.size + 2) wr w2:=(hb2.mono hsz).grown hgrow (by simp; omega) (fun j hj => (HO.out.lt j (by simpa using hj)).1)
   have HB3:=Lib.hid (HB.out.trans (hb3.mono (by omega)))
   have H3:=Lib.hid ((hb3.block _ (by omega)).trans H0.out)
   have HO3:=Lib.hid hown
   have hs3:=hb3.size
   clear hb2 hb3 hown hgrow hwhere
   go_wp2_with fail
   refine ⟨⟨k + 1,A2,c2,by go_num,by omega,rfl,HB3.out,H3.out, ?_,by omega⟩,by simp [intOf]; omega⟩
   rw [List.take_add_one,HK.out]
   unfold Hid
   simpa using HO3.out
  ·have hk2 : k = l.length:=by omega
   have HK2:=Lib.hid hk2
   have hrow2 : RowAt wr.heap.size wr 2 A' ((l.map fun t => t.size).map Sz.cells):=by
    have e:=HO.out
    rw [hk2,List.take_length] at e
    exact RowAt.of_row (l:=(l.map fun t => t.size).map Sz.cells) (by simpa [List.map_map,Function.comp_def] using e) (by simp) (by intro x hx; simp at hx; obtain ⟨t,-,rfl⟩:=hx; rfl)
   have HRW:=Lib.hid hrow2
   clear hk2 hrow2
   go_wp2_with fail
   have hab:=above_any A' c' (l.map fun t => t.size) wr HRW.out (by simpa using hl)
   rw [List.length_map,← HK2.out] at hab
   refine hab.mono ?_
   rintro en w1 ⟨rfl,hb1⟩
   have y0:=(hb1.cell (p:=⟨w.heap.size + 1,0,none⟩) d0).trans e0
   have y1:=(hb1.cell (p:=⟨w.heap.size + 1,1,none⟩) d0).trans e1
   have z0:=(hb1.frozen (p:=⟨w.heap.size + 1,0,none⟩) d0).trans g0
   have z1:=(hb1.frozen (p:=⟨w.heap.size + 1,1,none⟩) d0).trans g1
   have hs1 : w.heap.size + 1 < w1.heap.size:=by have:=hb1.size; omega
   have HB1:=Lib.hid (HB.out.trans (hb1.mono HB.out.size))
   clear hb1
   rw [List.foldl_map]
   go_wp2_with fail
   exact bodyPost_ret (v:=.agg #[.int .i64 (l.foldl (fun (s : Sz) (t : Pt) => s.above t.size) ⟨1,1⟩).nodes,.int .i64 (l.foldl (fun (s : Sz) (t : Pt) => s.above t.size) ⟨1,1⟩).deep]) (by simp [results,Tryz.results46,go_sem,y0,y1,z0,z1,hs1]) rfl ⟨rfl,(HB1.out.setCell (by simp) _).setCell (by simp) _⟩
end Go.Proofs.YtjeggkfgdhepaaaGreatDoor

namespace Go.Proofs.YtjeggkfgdhepaaaGreatDoor
open Go.RowKit
open Go.Proofs
set_option maxHeartbeats 1000000 in
theorem ofType_any : ∀ (p : Ty) (w : World),p.In w.heap.size w →
  Calls Tryz.prog 110 #[p.val] w fun e w' => e = .returned (.agg #[.int .i64 p.size.nodes,.int .i64 p.size.deep]) ∧ Below w.heap.size w w':=by
 refine Ty.induct fun d n A c l ih w hin => ?_
 obtain ⟨hd,hn,hl,-,hrow,hall⟩:=Ty.In_mk.1 hin
 rw [Ty.size_mk]
 have HR:=Lib.hid hrow
 have HA:=Lib.hid hall
 have IH:=Lib.hid ih
 clear hin hrow hall ih
 obtain ⟨i0,hi,hz0,hz1,hz2⟩:=info_parts infoSz
 unfold Ty.val
 simp only [Ty.dof,Ty.name,Ty.at_,Ty.cap,Ty.args]
 go_enter Tryz.func110,Tryz.ntmps110
 go_wp2_with fail
 go_loopw [9,3] (fun iv ov wr => ∃ (k : Nat) (A' : Option Addr) (c' : Nat),iv = .int .i64 k ∧ k ≤ l.length ∧ ov = .slice A' k c' ∧ Hid (Below w.heap.size w wr) ∧ Hid (Blk wr (w.heap.size + 1) #[.int .i64 0,.int .i64 0] 92) ∧ Hid (wr.ownsRow (w.heap.size + 2) 92 2 (.slice A' k c') k (((l.take k).map fun t => t.size.cells).flatten)) ∧ w.heap.size + 2 ≤ wr.heap.size) (fun iv _ _ => l.length - (intOf iv).toNat)
 case atStart =>
  refine ⟨0,none,0,rfl,Nat.zero_le _,rfl,Lib.hid ?_,Lib.hid ?_,Lib.hid (World.ownsRow_nil _ _ _ _),by simp⟩
  ·exact ((Below.refl _ _).alloc (Nat.le_refl _) _).alloc (by simp) _
  ·exact Blk.new' _ _ _ _ (by simp)
 case round =>
  obtain ⟨k,A',c',rfl,hk,rfl,HB,H0,HO,hsz⟩:=hrel
  have e0:=H0.out.cell 0
  have e1:=H0.out.cell 1
  have g0:=H0.out.free 0
  have g1:=H0.out.free 1
  have d0:=H0.out.lt
  simp only [List.getElem?_toArray,List.getElem?_cons_zero,List.getElem?_cons_succ] at e0 e1
  by_cases hlt : k < l.length
  ·obtain ⟨q,hq⟩ : ∃ q,l[k]? = some q:=⟨_,List.getElem?_eq_getElem hlt⟩
   have hmem:=List.mem_of_getElem? hq
   obtain ⟨b,off,rfl,hb,hc⟩:=HR.out (by simp; omega)
   have x0:=(HB.out.cell (p:=⟨b,off + k * 3,none⟩) hb).trans (hc k q.cells (by simp [hq]) 0 _ rfl)
   have x1:=(HB.out.cell (p:=⟨b,off + k * 3 + 1,none⟩) hb).trans (hc k q.cells (by simp [hq]) 1 _ rfl)
   have x2:=(HB.out.cell (p:=⟨b,off + k * 3 + 2,none⟩) hb).trans (hc k q.cells (by simp [hq]) 2 _ rfl)
   have hqin : q.In wr.heap.size wr:=(Ty.In.wider HB.out.size _ (Ty.In.keep HB.out _ (HA.out q hmem)))
   have HQ:=Lib.hid hqin
   have HK:=Lib.hid hq
   have hcall:=Lib.hid fun w1 (hh : q.In w1.heap.size w1) => IH.out q hmem w1 hh
   clear hc hq hqin
   go_wp2_with fail
   refine (hcall.out _ (HQ.out.next ((Below.refl _ _).alloc (Nat.le_refl _) _))).mono ?_
   rintro en w1 ⟨rfl,hb1⟩
   have HB1:=Lib.hid (((Below.refl _ _).alloc (Nat.le_refl _) _).trans (hb1.mono (by simp)))
   have hs1 : wr.heap.size + 1 ≤ w1.heap.size:=by have:=hb1.size; simpa using this
   clear hb1
   go_wp2_with (at_builtin; go_must (refine wpList_append_own_at _ rfl (.tmp 13) (.tmp 16) 142 rfl (w.heap.size + 2) 92 i0 _ 2 16 Tryz.underlying142 hi hz0 hz1 hz2 rfl (by decide) (.slice A' k c') k (((l.take k).map fun t => t.size.cells).flatten) rfl ?hown ⟨w1.heap.size,0,none⟩ 1 1 q.size.cells rfl rfl ?c1 ?c2 ?c3 ?c4 ?c5 ?_))
   case hown =>
    refine World.ownsRow.alloc (row_stays HO.out fun k hk => ?_) _
    exact HB1.out.block k (by have:=(HO.out.lt k hk).2; omega)
   case c1 => exact World.news_of_block (heap_alloc_new w1 _)
   case c2 => simp [Value.oneCell',Sz.cells]
   case c3 => unfold maxLen; omega
   case c4 => omega
   case c5 => first | omega | (simp; omega)
   intro v' w2 hown hgrow _ hwhere
   obtain ⟨A2,c2,rfl,-⟩:=row_slice hown
   have hb2 : Below wr.heap.size wr (w1.alloc (.cells #[.int .i64 q.size.nodes,.int .i64 q.size.deep] 92)):=HB1.out.alloc (by omega) _
   have hb3 : Below (w.heap.size + 2) wr w2:=(hb2.mono hsz).grown hgrow (by simp; omega) (fun j hj => (HO.out.lt j (by simpa using hj)).1)
   have HB3:=Lib.hid (HB.out.trans (hb3.mono (by omega)))
   have H3:=Lib.hid ((hb3.block _ (by omega)).trans H0.out)
   have HO3:=Lib.hid hown
   have hs3:=hb3.size
   clear hb2 hb3 hown hgrow hwhere
   go_wp2_with fail
   refine ⟨⟨k + 1,A2,c2,by go_num,by omega,rfl,HB3.out,H3.out, ?_,by omega⟩,by simp [intOf]; omega⟩
   rw [List.take_add_one,HK.out]
   unfold Hid
   simpa using HO3.out
  ·have hk2 : k = l.length:=by omega
   have HK2:=Lib.hid hk2
   have hrow2 : RowAt wr.heap.size wr 2 A' ((l.map fun t => t.size).map Sz.cells):=by
    have e:=HO.out
    rw [hk2,List.take_length] at e
    exact RowAt.of_row (l:=(l.map fun t => t.size).map Sz.cells) (by simpa [List.map_map,Function.comp_def] using e) (by simp) (by intro x hx; simp at hx; obtain ⟨t,-,rfl⟩:=hx; rfl)
   have HRW:=Lib.hid hrow2
   clear hk2 hrow2
   go_wp2_with fail
   have hab:=above_any A' c' (l.map fun t => t.size) wr HRW.out (by simpa using hl)
   rw [List.length_map,← HK2.out] at hab
   refine hab.mono ?_
   rintro en w1 ⟨rfl,hb1⟩
   have y0:=(hb1.cell (p:=⟨w.heap.size + 1,0,none⟩) d0).trans e0
   have y1:=(hb1.cell (p:=⟨w.heap.size + 1,1,none⟩) d0).trans e1
   have z0:=(hb1.frozen (p:=⟨w.heap.size + 1,0,none⟩) d0).trans g0
   have z1:=(hb1.frozen (p:=⟨w.heap.size + 1,1,none⟩) d0).trans g1
   have hs1 : w.heap.size + 1 < w1.heap.size:=by have:=hb1.size; omega
   have HB1:=Lib.hid (HB.out.trans (hb1.mono HB.out.size))
   clear hb1
   rw [List.foldl_map]
   go_wp2_with fail
   exact bodyPost_ret (v:=.agg #[.int .i64 (l.foldl (fun (s : Sz) (t : Ty) => s.above t.size) ⟨1,1⟩).nodes,.int .i64 (l.foldl (fun (s : Sz) (t : Ty) => s.above t.size) ⟨1,1⟩).deep]) (by simp [results,Tryz.results110,go_sem,y0,y1,z0,z1,hs1]) rfl ⟨rfl,(HB1.out.setCell (by simp) _).setCell (by simp) _⟩
end Go.Proofs.YtjeggkfgdhepaaaGreatDoor

namespace Go.Proofs.YtjeggkfgdhepaaaGreatDoor
open Go.RowKit
open Go.Proofs
theorem Pt.arg_at {B : Nat} {w wr : World} {A : Option Addr} {l : List Pt} {k : Nat} (hR : RowAt B w 4 A (l.map Pt.cells)) (hb : Below B w wr) (hlt : k < l.length) :
  ∃ q b off,l[k]? = some q ∧ q ∈ l ∧ A = some ⟨b,off,none⟩ ∧ b < B ∧ wr.cell? ⟨b,off + k * 4,none⟩ = some (.string q.dof) ∧ wr.cell? ⟨b,off + k * 4 + 1,none⟩ = some (.string q.name) ∧
   wr.cell? ⟨b,off + k * 4 + 2,none⟩ = some (.int .i64 q.num) ∧ wr.cell? ⟨b,off + k * 4 + 3,none⟩ = some (.slice q.at_ q.args.length q.cap):=by
 obtain ⟨q,hq⟩ : ∃ q,l[k]? = some q:=⟨_,List.getElem?_eq_getElem hlt⟩
 obtain ⟨b,off,rfl,hb',hc⟩:=hR (by simp; omega)
 exact ⟨q,b,off,hq,List.mem_of_getElem? hq,rfl,hb',(hb.cell (p:=⟨b,off + k * 4,none⟩) hb').trans (hc k q.cells (by simp [hq]) 0 _ rfl),
  (hb.cell (p:=⟨b,off + k * 4 + 1,none⟩) hb').trans (hc k q.cells (by simp [hq]) 1 _ rfl),(hb.cell (p:=⟨b,off + k * 4 + 2,none⟩) hb').trans (hc k q.cells (by simp [hq]) 2 _ rfl),
  (hb.cell (p:=⟨b,off + k * 4 + 3,none⟩) hb').trans (hc k q.cells (by simp [hq]) 3 _ rfl)⟩
theorem Ty.arg_at {B : Nat} {w wr : World} {A : Option Addr} {l : List Ty} {k : Nat} (hR : RowAt B w 3 A (l.map Ty.cells)) (hb : Below B w wr) (hlt : k < l.length) :
  ∃ q b off,l[k]? = some q ∧ q ∈ l ∧ A = some ⟨b,off,none⟩ ∧ b < B ∧ wr.cell? ⟨b,off + k * 3,none⟩ = some (.string q.dof) ∧ wr.cell? ⟨b,off + k * 3 + 1,none⟩ = some (.string q.name) ∧
   wr.cell? ⟨b,off + k * 3 + 2,none⟩ = some (.slice q.at_ q.args.length q.cap):=by
 obtain ⟨q,hq⟩ : ∃ q,l[k]? = some q:=⟨_,List.getElem?_eq_getElem hlt⟩
 obtain ⟨b,off,rfl,hb',hc⟩:=hR (by simp; omega)
 exact ⟨q,b,off,hq,List.mem_of_getElem? hq,rfl,hb',(hb.cell (p:=⟨b,off + k * 3,none⟩) hb').trans (hc k q.cells (by simp [hq]) 0 _ rfl),
  (hb.cell (p:=⟨b,off + k * 3 + 1,none⟩) hb').trans (hc k q.cells (by simp [hq]) 1 _ rfl),(hb.cell (p:=⟨b,off + k * 3 + 2,none⟩) hb').trans (hc k q.cells (by simp [hq]) 2 _ rfl)⟩
theorem Pt.In.at_ {B : Nat} {w wr : World} {q : Pt} (h : q.In B w) (hb : Below B w wr) (hB : B ≤ wr.heap.size) : q.In wr.heap.size wr:=Pt.In.wider hB _ (Pt.In.keep hb _ h)
theorem Ty.In.at_ {B : Nat} {w wr : World} {q : Ty} (h : q.In B w) (hb : Below B w wr) (hB : B ≤ wr.heap.size) : q.In wr.heap.size wr:=Ty.In.wider hB _ (Ty.In.keep hb _ h)
theorem Blk.four {w : World} {k : Nat} {a b c d : Value} {t : TypeId} (h : Blk w k #[a,b,c,d] t) : w.cell? ⟨k,0,none⟩ = some a ∧ w.cell? ⟨k,1,none⟩ = some b ∧ w.cell? ⟨k,2,none⟩ = some c ∧ w.cell? ⟨k,3,none⟩ = some d:=
 ⟨h.cell 0,h.cell 1,h.cell 2,h.cell 3⟩
theorem Blk.three {w : World} {k : Nat} {a b c : Value} {t : TypeId} (h : Blk w k #[a,b,c] t) : w.cell? ⟨k,0,none⟩ = some a ∧ w.cell? ⟨k,1,none⟩ = some b ∧ w.cell? ⟨k,2,none⟩ = some c:=
 ⟨h.cell 0,h.cell 1,h.cell 2⟩
theorem Blk.two {w : World} {k : Nat} {a b : Value} {t : TypeId} (h : Blk w k #[a,b] t) : w.cell? ⟨k,0,none⟩ = some a ∧ w.cell? ⟨k,1,none⟩ = some b:=
 ⟨h.cell 0,h.cell 1⟩
theorem Blk.one {w : World} {k : Nat} {a : Value} {t : TypeId} (h : Blk w k #[a] t) : w.cell? ⟨k,0,none⟩ = some a:=h.cell 0
theorem Blk.below {w w' : World} {B k : Nat} {cs : Array Value} {t : TypeId} (h : Blk w k cs t) (hb : Below B w w') (hk : k < B) : Blk w' k cs t:=(hb.block k hk).trans h
def Sz.uptoT {α : Type} (f : α → Sz) (l : List α) (k : Nat) : Sz:=(l.take k).foldl (fun s t => s.above (f t)) ⟨1,1⟩
theorem Sz.uptoT_succ {α : Type} {f : α → Sz} {l : List α} {k : Nat} {t : α} (h : l[k]? = some t) : Sz.uptoT f l (k + 1) = (Sz.uptoT f l k).above (f t):=by
 unfold Sz.uptoT
 rw [List.take_add_one,h]
 simp
theorem Sz.uptoT_all {α : Type} (f : α → Sz) (l : List α) : Sz.uptoT f l l.length = l.foldl (fun s t => s.above (f t)) ⟨1,1⟩:=by simp [Sz.uptoT]
set_option maxHeartbeats 1000000 in
theorem sizePat_any : ∀ (p : Pt) (w : World),p.In w.heap.size w →
  Calls Tryz.prog 32 #[p.val] w fun e w' => e = .returned (.tuple #[.int .i64 p.size.nodes,.int .i64 p.size.deep]) ∧ Below w.heap.size w w':=by
 refine Pt.induct fun d n m A c l ih w hin => ?_
 obtain ⟨hd,hn,hm,hl,-,hrow,hall⟩:=Pt.In_mk.1 hin
 rw [Pt.size_mk]
 have HR:=Lib.hid hrow
 have HA:=Lib.hid hall
 have IH:=Lib.hid ih
 clear hin hrow hall ih
 unfold Pt.val
 simp only [Pt.dof,Pt.name,Pt.num,Pt.at_,Pt.cap,Pt.args]
 go_enter Tryz.func32,Tryz.ntmps32
 go_wp2_with fail
 go_loopw [2,3,11] (fun nv dv iv wr => ∃ (k : Nat) (a b : Int),iv = .int .i64 k ∧ k ≤ l.length ∧ nv = .int .i64 a ∧ dv = .int .i64 b ∧ Hid ((⟨a,b⟩ : Sz) = Sz.uptoT Pt.size l k) ∧ Hid (Below w.heap.size w wr)) (fun _ _ iv _ => l.length - (intOf iv).toNat)
 case atStart => exact ⟨0,1,1,rfl,Nat.zero_le _,rfl,rfl,Lib.hid rfl,Lib.hid ((Below.refl _ _).alloc (Nat.le_refl _) _)⟩
 case round =>
  obtain ⟨k,a,b,rfl,hk,rfl,rfl,HS,HB⟩:=hrel
  by_cases hlt : k < l.length
  ·obtain ⟨q,b0,off,hq,hmem,rfl,hb,x0,x1,x2,x3⟩:=Pt.arg_at HR.out HB.out hlt
   have HQ:=Lib.hid ((HA.out q hmem).at_ HB.out HB.out.size)
   have HK:=Lib.hid hq
   have hcall:=Lib.hid fun w1 (hh : q.In w1.heap.size w1) => IH.out q hmem w1 hh
   clear hq
   go_wp2_with fail
   refine (hcall.out _ (HQ.out.next ((Below.refl _ _).alloc (Nat.le_refl _) _))).mono ?_
   rintro en w1 ⟨rfl,hb1⟩
   have HB1:=Lib.hid (HB.out.trans ((((Below.refl _ _).alloc (Nat.le_refl _) _).trans (hb1.mono (by simp))).mono HB.out.size))
   clear hb1
   go_wp2_with fail
   refine (grown_any _ _ _ _ _).mono ?_
   rintro en w2 ⟨rfl,rfl⟩
   go_wp2_with fail
   refine ⟨⟨k + 1,_,_,by go_num,by omega,rfl,rfl, ?_,HB1.out⟩,by simp [intOf]; omega⟩
   rw [Sz.uptoT_succ HK.out,← HS.out]
   rfl
  ·have hk2 : k = l.length:=by omega
   have e:=HS.out
   rw [hk2,Sz.uptoT_all] at e
   have E:=Lib.hid e
   clear e hk2
   go_wp2_with fail
   go_ret2
   rw [← E.out]
   exact ⟨rfl,HB.out⟩
set_option maxHeartbeats 1000000 in
theorem sizeType_any : ∀ (p : Ty) (w : World),p.In w.heap.size w →
  Calls Tryz.prog 138 #[p.val] w fun e w' => e = .returned (.tuple #[.int .i64 p.size.nodes,.int .i64 p.size.deep]) ∧ Below w.heap.size w w':=by
 refine Ty.induct fun d n A c l ih w hin => ?_
 obtain ⟨hd,hn,hl,-,hrow,hall⟩:=Ty.In_mk.1 hin
 rw [Ty.size_mk]
 have HR:=Lib.hid hrow
 have HA:=Lib.hid hall
 have IH:=Lib.hid ih
 clear hin hrow hall ih
 unfold Ty.val
 simp only [Ty.dof,Ty.name,Ty.at_,Ty.cap,Ty.args]
 go_enter Tryz.func138,Tryz.ntmps138
 go_wp2_with fail
 go_loopw [2,3,11] (fun nv dv iv wr => ∃ (k : Nat) (a b : Int),iv = .int .i64 k ∧ k ≤ l.length ∧ nv = .int .i64 a ∧ dv = .int .i64 b ∧ Hid ((⟨a,b⟩ : Sz) = Sz.uptoT Ty.size l k) ∧ Hid (Below w.heap.size w wr)) (fun _ _ iv _ => l.length - (intOf iv).toNat)
 case atStart => exact ⟨0,1,1,rfl,Nat.zero_le _,rfl,rfl,Lib.hid rfl,Lib.hid ((Below.refl _ _).alloc (Nat.le_refl _) _)⟩
 case round =>
  obtain ⟨k,a,b,rfl,hk,rfl,rfl,HS,HB⟩:=hrel
  by_cases hlt : k < l.length
  ·obtain ⟨q,b0,off,hq,hmem,rfl,hb,x0,x1,x2⟩:=Ty.arg_at HR.out HB.out hlt
   have HQ:=Lib.hid ((HA.out q hmem).at_ HB.out HB.out.size)
   have HK:=Lib.hid hq
   have hcall:=Lib.hid fun w1 (hh : q.In w1.heap.size w1) => IH.out q hmem w1 hh
   clear hq
   go_wp2_with fail
   refine (hcall.out _ (HQ.out.next ((Below.refl _ _).alloc (Nat.le_refl _) _))).mono ?_
   rintro en w1 ⟨rfl,hb1⟩
   have HB1:=Lib.hid (HB.out.trans ((((Below.refl _ _).alloc (Nat.le_refl _) _).trans (hb1.mono (by simp))).mono HB.out.size))
   clear hb1
   go_wp2_with fail
   refine (grown_any _ _ _ _ _).mono ?_
   rintro en w2 ⟨rfl,rfl⟩
   go_wp2_with fail
   refine ⟨⟨k + 1,_,_,by go_num,by omega,rfl,rfl, ?_,HB1.out⟩,by simp [intOf]; omega⟩
   rw [Sz.uptoT_succ HK.out,← HS.out]
   rfl
  ·have hk2 : k = l.length:=by omega
   have e:=HS.out
   rw [hk2,Sz.uptoT_all] at e
   have E:=Lib.hid e
   clear e hk2
   go_wp2_with fail
   go_ret2
   rw [← E.out]
   exact ⟨rfl,HB.out⟩
end Go.Proofs.YtjeggkfgdhepaaaGreatDoor

namespace Go.Proofs.YtjeggkfgdhepaaaGreatDoor
open Go.RowKit
open Go.Proofs
def wildD (d : ByteArray) : Bool:=d.toList == [97,110,121] || d.toList == [118,97,114]
set_option maxHeartbeats 400000 in
theorem isWild_any (p : Pt) (w : World) :
  Calls Tryz.prog 86 #[p.val] w fun e w' => e = .returned (.bool (wildD p.dof)) ∧ Below w.heap.size w w':=by
 obtain ⟨d,n,m,A,c,l⟩:=p
 unfold Pt.val wildD
 simp only [Pt.dof,Pt.name,Pt.num,Pt.at_,Pt.cap,Pt.args]
 obtain ⟨a,ha⟩ : ∃ a,(d.toList == [97,110,121]) = a:=⟨_,rfl⟩
 obtain ⟨b,hb⟩ : ∃ b,(d.toList == [118,97,114]) = b:=⟨_,rfl⟩
 rw [ha,hb]
 cases a <;> cases b
 all_goals
  go_enter Tryz.func86,Tryz.ntmps86
  go_wp2_with fail
  go_ret
  exact ⟨rfl,(Below.refl _ _).alloc (Nat.le_refl _) _⟩
set_option maxHeartbeats 400000 in
theorem rwild_any (p : Pt) (w : World) :
  Calls Tryz.prog 50 #[p.val] w fun e w' => e = .returned (.bool (wildD p.dof)) ∧ Below w.heap.size w w':=by
 obtain ⟨d,n,m,A,c,l⟩:=p
 unfold Pt.val wildD
 simp only [Pt.dof,Pt.name,Pt.num,Pt.at_,Pt.cap,Pt.args]
 obtain ⟨a,ha⟩ : ∃ a,(d.toList == [97,110,121]) = a:=⟨_,rfl⟩
 obtain ⟨b,hb⟩ : ∃ b,(d.toList == [118,97,114]) = b:=⟨_,rfl⟩
 rw [ha,hb]
 cases a <;> cases b
 all_goals
  go_enter Tryz.func50,Tryz.ntmps50
  go_wp2_with fail
  go_ret
  exact ⟨rfl,(Below.refl _ _).alloc (Nat.le_refl _) _⟩
end Go.Proofs.YtjeggkfgdhepaaaGreatDoor

namespace Go.Proofs.YtjeggkfgdhepaaaGreatDoor
open Go.RowKit
open Go.Proofs
def Pt.matchB : Pt → Pt → Bool
 | .mk d n m _ _ l => fun v => wildD d || (d.toList == v.dof.toList && n.toList == v.name.toList && m == v.num && l.length == v.args.length && (List.zipWith (fun f u => f u) (l.map fun p => p.matchB) v.args).all id)
def matchAll (l r : List Pt) : Bool:=(List.zipWith Pt.matchB l r).all id
theorem Pt.matchB_mk (d n : ByteArray) (m : Int) (A : Option Addr) (c : Nat) (l : List Pt) (v : Pt) :
  (Pt.mk d n m A c l).matchB v = (wildD d || (d.toList == v.dof.toList && n.toList == v.name.toList && m == v.num && l.length == v.args.length && matchAll l v.args)):=by
 rw [Pt.matchB]
 unfold matchAll
 simp only [List.zipWith_map_left]
end Go.Proofs.YtjeggkfgdhepaaaGreatDoor

namespace Go.Proofs.YtjeggkfgdhepaaaGreatDoor
open Go.RowKit
open Go.Proofs
theorem append_row {P : Program} {w : World} {ops : Array Oper} {rest : List Oper} {o : Oper} {a : Act} {Q : Exit → Act → World → Prop} (hgd : o.guard = none) (s x : Operand) (t : TypeId)
  (ho : o.op = .call { callee:=.builtin .append,args:=#[s,x],argTypes:=#[t,t] }) (base base2 : Nat) (e : TypeId) (i : TypeInfo) (z : Value) (size bytes : Nat) (ht : P.underlying t = some (.slice e)) (hi : P.info? e = some i) (hz : i.zero = some z)
  (hsize : i.size = size) (hby : i.bytes = bytes) (hzs : z.cells.size = size) (hsz : 0 < size) (v : Value) (n : Nat) (xs : List Value) (hs : a.eval s = v) (hown : w.ownsRow base e size v n xs)
  (v2 : Value) (m : Nat) (news : List Value) (hx : a.eval x = v2) (hown2 : w.ownsRow base2 e size v2 m news) (h1 : ∀ u ∈ news,u.oneCell' = true)
  (h63 : n + m ≤ maxLen) (hbytes : (n + m) * bytes ≤ 140737488355328) (hbase : base ≤ w.heap.size)
  (h : ∀ v' w',w'.ownsRow base e size v' (n + m) (xs ++ news) → w.grownBy w' v.ownBlock → (v'.ownBlock = v.ownBlock ∨ v'.ownBlock = some w.heap.size) → wpList P ops Q rest (a.put o.dst v') w') :
  wpList P ops Q (o :: rest) a w:=by
 rcases hown2.2 with ⟨rfl,rfl⟩ | ⟨g,cap,cur,rfl,hb,hg,hc1,hc2,hc3,hcur⟩
 ·have hnil : news = []:=List.eq_nil_of_length_eq_zero (by rw [hown2.1]; simp)
  subst hnil
  refine wpList_append_own_none hgd s x t ho base e i size ht hi v n xs hs hown hx ?_
  exact h v w (by simpa using hown) (World.grownBy.refl w _) (.inl rfl)
 ·refine wpList_append_own_at w hgd s x t ho base e i z size bytes ht hi hz hsize hby hzs hsz v n xs hs hown ⟨g,0,none⟩ m cap news hx hown2.1 ?_ h1 h63 hbytes hbase fun v' w' k1 k2 _ k4 => h v' w' k1 k2 k4
  intro j u hu
  obtain ⟨g',hg',hcell,-⟩:=row_cell hown2 j u hu
  simp only [Option.some.injEq,Addr.mk.injEq,and_true] at hg'
  subst hg'
  have e : (⟨g,0,none⟩ : Addr).add j = ⟨g,j,none⟩:=by unfold Addr.add; split <;> simp_all
  rw [e]
  exact hcell
theorem infoStr : (Tryz.prog.info? 9).map (fun i => (i.zero,i.size,i.bytes)) = some (some (.string ByteArray.empty),1,16):=by kernel_rfl
def Texts (B : Nat) (w : World) (v : Value) (l : List ByteArray) : Prop:=∃ A c,v = .slice A l.length c ∧ w.ownsRow B 9 1 (.slice A l.length c) l.length (l.map Value.string)
theorem Texts.nil (B : Nat) (w : World) : Texts B w (.slice none 0 0) []:=⟨none,0,rfl,World.ownsRow_nil _ _ _ _⟩
theorem Texts.keep {B : Nat} {w w' : World} {v : Value} {l : List ByteArray} (h : Texts B w v l) (hb : Below w.heap.size w w') : Texts B w' v l:=by
 obtain ⟨A,c,rfl,h⟩:=h
 exact ⟨A,c,rfl,row_stays h fun k hk => hb.block k (h.lt k hk).2⟩
theorem Texts.wider {B B' : Nat} {w : World} {v : Value} {l : List ByteArray} (h : Texts B w v l) (hB : B' ≤ B) : Texts B' w v l:=by
 obtain ⟨A,c,rfl,h⟩:=h
 refine ⟨A,c,rfl,h.1, ?_⟩
 rcases h.2 with hn | ⟨g,cap,cur,e,hb,rest⟩
 ·exact .inl hn
 ·exact .inr ⟨g,cap,cur,e,by omega,rest⟩
theorem Pt.binds_bound {l : List Pt} {k : Nat} {q : Pt} (h : l[k]? = some q) : (((l.take k).flatMap Pt.binds).length + q.binds.length) ≤ (l.flatMap Pt.binds).length:=by
 have e : l = l.take k ++ (l.drop k):=(List.take_append_drop k l).symm
 have hd : l.drop k = q :: l.drop (k + 1):=by
  have hlt:=(List.getElem?_eq_some_iff.1 h).1
  rw [List.drop_eq_getElem_cons hlt]
  rw [(List.getElem?_eq_some_iff.1 h).2]
 conv => rhs; rw [e,hd]
 simp
def bindsTo (first : List ByteArray) (l : List Pt) (k : Nat) : List ByteArray:=first ++ (l.take k).flatMap Pt.binds
theorem bindsTo_zero (first : List ByteArray) (l : List Pt) : bindsTo first l 0 = first:=by simp [bindsTo]
theorem bindsTo_succ {first : List ByteArray} {l : List Pt} {k : Nat} {q : Pt} (h : l[k]? = some q) : bindsTo first l (k + 1) = bindsTo first l k ++ q.binds:=by
 unfold bindsTo
 rw [List.take_add_one,h]
 simp
theorem bindsTo_all (first : List ByteArray) (l : List Pt) : bindsTo first l l.length = first ++ l.flatMap Pt.binds:=by simp [bindsTo]
theorem bindsTo_bound {first : List ByteArray} {l : List Pt} {k : Nat} {q : Pt} (h : l[k]? = some q) : (bindsTo first l k).length + q.binds.length ≤ (first ++ l.flatMap Pt.binds).length:=by
 have:=Pt.binds_bound h
 unfold bindsTo
 simp only [List.length_append]
 omega
def BindsPost (w : World) (l : List ByteArray) (e : Ending) (w' : World) : Prop:=Below w.heap.size w w' ∧ ∃ v,e = .returned v ∧ Texts w.heap.size w' v l
set_option maxHeartbeats 2000000 in
set_option maxRecDepth 100000 in
theorem rbinds_any : ∀ (p : Pt) (w : World),p.In w.heap.size w → p.binds.length ≤ 1048576 → Calls Tryz.prog 30 #[p.val] w (BindsPost w p.binds):=by
 refine Pt.induct fun d n m A c l ih w hin hbd => ?_
 obtain ⟨hd,hn,hm,hl,-,hrow,hall⟩:=Pt.In_mk.1 hin
 rw [Pt.binds_mk] at hbd ⊢
 have HR:=Lib.hid hrow
 have HA:=Lib.hid hall
 have IH:=Lib.hid ih
 clear hin hrow hall ih
 obtain ⟨i0,hi,hz0,hz1,hz2⟩:=info_parts infoStr
 unfold Pt.val
 simp only [Pt.dof,Pt.name,Pt.num,Pt.at_,Pt.cap,Pt.args]
 obtain ⟨a,ha⟩ : ∃ a,(d.toList == [118,97,114]) = a:=⟨_,rfl⟩
 have hfirst : isDo [118,97,114] d = a:=ha
 rw [hfirst] at hbd ⊢
 have HF:=Lib.hid hfirst
 clear hfirst
 cases a
 ·simp only [Bool.false_eq_true,if_false] at hbd ⊢
  have HBD:=Lib.hid hbd
  clear hbd
  go_enter Tryz.func30,Tryz.ntmps30
  go_wp2_with fail
  go_loopw [17,3] (fun iv ov wr => ∃ k : Nat,iv = .int .i64 k ∧ k ≤ l.length ∧ Hid (Below w.heap.size w wr) ∧ Hid (Texts w.heap.size wr ov (bindsTo [] l k))) (fun iv _ _ => l.length - (intOf iv).toNat)
  case atStart => exact ⟨0,rfl,Nat.zero_le _,Lib.hid ((Below.refl _ _).alloc (Nat.le_refl _) _),by rw [bindsTo_zero]; exact Texts.nil _ _⟩
  case round =>
   obtain ⟨k,rfl,hk,HB,HT⟩:=hrel
   obtain ⟨A',c',rfl,hrw⟩:=HT.out
   have HRW:=Lib.hid hrw
   clear hrw
   by_cases hlt : k < l.length
   ·obtain ⟨q,b0,off,hq,hmem,rfl,hb,x0,x1,x2,x3⟩:=Pt.arg_at HR.out HB.out hlt
    have HQ:=Lib.hid ((HA.out q hmem).at_ HB.out HB.out.size)
    have HK:=Lib.hid hq
    have hbb:=bindsTo_bound (first:=[]) hq
    have hbd:=HBD.out
    have hlen : (bindsTo [] l k).length + q.binds.length ≤ 1048576:=Nat.le_trans hbb hbd
    have hcall:=Lib.hid fun w1 (hh : q.In w1.heap.size w1) => IH.out q hmem w1 hh (by omega)
    have HBW:=Lib.hid HB.out.size
    clear hq hbb hbd
    go_wp2_with fail
    refine (hcall.out _ (HQ.out.next ((Below.refl _ _).alloc (Nat.le_refl _) _))).mono ?_
    rintro en w1 ⟨hb1,v,rfl,A2,c2,rfl,hrow2⟩
    have hb2 : Below wr.heap.size wr w1:=((Below.refl _ _).alloc (Nat.le_refl _) _).trans (hb1.mono (by simp))
    have hs1 : wr.heap.size + 1 ≤ w1.heap.size:=by have:=hb1.size; simpa using this
    have hs0:=HB.out.size
    have HR2:=Lib.hid hrow2
    have HB2:=Lib.hid hb2
    clear hb1 hb2 hrow2
    go_wp2_with (at_builtin; go_must (refine append_row rfl (.tmp 21) (.tmp 23) 53 rfl w.heap.size _ 9 i0 _ 1 16 Tryz.underlying53 hi hz0 hz1 hz2 rfl (by decide) (.slice A' (bindsTo [] l k).length c') (bindsTo [] l k).length ((bindsTo [] l k).map Value.string) rfl ?hown (.slice A2 q.binds.length c2) q.binds.length (q.binds.map Value.string) rfl HR2.out ?c2 ?c3 ?c4 ?c5 ?_))
    case hown => exact row_stays HRW.out fun k hk => HB2.out.block k (HRW.out.lt k hk).2
    case c2 => intro u hu; simp only [List.mem_map] at hu; obtain ⟨x,-,rfl⟩:=hu; rfl
    case c3 => unfold maxLen; omega
    case c4 => omega
    case c5 => omega
    intro v' w2 hown hgrow _
    obtain ⟨A3,c3,rfl,-⟩:=row_slice hown
    have hb3 : Below w.heap.size w w2:=(HB.out.trans (HB2.out.mono HB.out.size)).grown hgrow (by omega) (fun j hj => (HRW.out.lt j hj).1)
    have HB3:=Lib.hid hb3
    have HO3:=Lib.hid hown
    clear hb3 hown hgrow
    go_wp2_with fail
    refine ⟨⟨k + 1,by go_num,by omega,HB3.out,A3,c3, ?_, ?_⟩,by simp [intOf]; omega⟩
    ·rw [bindsTo_succ HK.out,List.length_append]
    ·rw [bindsTo_succ HK.out,List.length_append,List.map_append]
     exact HO3.out
   ·have hk2 : k = l.length:=by omega
    have hrw:=HRW.out
    have HK2:=Lib.hid hk2
    rw [hk2,bindsTo_all] at hrw
    have HRW2:=Lib.hid hrw
    clear hk2 hrw
    go_wp2_with fail
    go_ret
    refine ⟨HB.out,_,rfl,A',c', ?_,HRW2.out⟩
    rw [HK2.out,bindsTo_all]
    rfl
 ·simp only [if_true] at hbd ⊢
  have HBD:=Lib.hid hbd
  clear hbd
  go_enter Tryz.func30,Tryz.ntmps30
  go_wp2_with (at_builtin; go_must (refine wpList_append_own_at _ rfl (.tmp 9) (.tmp 12) 53 rfl w.heap.size 9 i0 _ 1 16 Tryz.underlying53 hi hz0 hz1 hz2 rfl (by decide) (.slice none 0 0) 0 [] rfl (World.ownsRow_nil _ _ _ _) ⟨w.heap.size + 1,0,none⟩ 1 1 [.string n] rfl rfl ?c1 ?c2 ?c3 ?c4 ?c5 ?_))
  case c1 => exact cell_one_at _ _ _ _ (by simp)
  case c2 => simp [Value.oneCell']
  case c3 => unfold maxLen; omega
  case c4 => omega
  case c5 => simp; omega
  intro v' w0 hown hgrow _ _
  obtain ⟨A0,c0,rfl,-⟩:=row_slice hown
  have hb0 : Below w.heap.size w w0:=(((Below.refl w.heap.size w).alloc (Nat.le_refl _) _).alloc (by simp) _).grown hgrow (by simp; omega) (fun j hj => by cases hj)
  have hbx : Blk w0 w.heap.size _ _:=(hgrow.block w.heap.size (by simp; omega) (by simp [Value.ownBlock])).trans ((Blk.new w _ _).alloc _)
  have c3:=hbx.cell 3
  simp only [List.getElem?_toArray,List.getElem?_cons_zero,List.getElem?_cons_succ] at c3
  have HB0:=Lib.hid hb0
  have HT0 : Hid (Texts w.heap.size w0 (.slice A0 1 c0) [n]):=Lib.hid ⟨A0,c0,rfl,hown⟩
  clear hb0 hown hgrow hbx
  go_wp2_with fail
  go_loopw [17,3] (fun iv ov wr => ∃ k : Nat,iv = .int .i64 k ∧ k ≤ l.length ∧ Hid (Below w.heap.size w wr) ∧ Hid (Texts w.heap.size wr ov (bindsTo [n] l k))) (fun iv _ _ => l.length - (intOf iv).toNat)
  case atStart => exact ⟨0,rfl,Nat.zero_le _,HB0.out,by rw [bindsTo_zero]; exact HT0.out⟩
  case round =>
   obtain ⟨k,rfl,hk,HB,HT⟩:=hrel
   obtain ⟨A',c',rfl,hrw⟩:=HT.out
   have HRW:=Lib.hid hrw
   clear hrw
   by_cases hlt : k < l.length
   ·obtain ⟨q,b0,off,hq,hmem,rfl,hb,x0,x1,x2,x3⟩:=Pt.arg_at HR.out HB.out hlt
    have HQ:=Lib.hid ((HA.out q hmem).at_ HB.out HB.out.size)
    have HK:=Lib.hid hq
    have hbb:=bindsTo_bound (first:=[n]) hq
    have hbd:=HBD.out
    have hlen : (bindsTo [n] l k).length + q.binds.length ≤ 1048576:=Nat.le_trans hbb hbd
    have hcall:=Lib.hid fun w1 (hh : q.In w1.heap.size w1) => IH.out q hmem w1 hh (by omega)
    have HBW:=Lib.hid HB.out.size
    clear hq hbb hbd
    go_wp2_with fail
    refine (hcall.out _ (HQ.out.next ((Below.refl _ _).alloc (Nat.le_refl _) _))).mono ?_
    rintro en w1 ⟨hb1,v,rfl,A2,c2,rfl,hrow2⟩
    have hb2 : Below wr.heap.size wr w1:=((Below.refl _ _).alloc (Nat.le_refl _) _).trans (hb1.mono (by simp))
    have hs1 : wr.heap.size + 1 ≤ w1.heap.size:=by have:=hb1.size; simpa using this
    have hs0:=HB.out.size
    have HR2:=Lib.hid hrow2
    have HB2:=Lib.hid hb2
    clear hb1 hb2 hrow2
    go_wp2_with (at_builtin; go_must (refine append_row rfl (.tmp 21) (.tmp 23) 53 rfl w.heap.size _ 9 i0 _ 1 16 Tryz.underlying53 hi hz0 hz1 hz2 rfl (by decide) (.slice A' (bindsTo [n] l k).length c') (bindsTo [n] l k).length ((bindsTo [n] l k).map Value.string) rfl ?hown (.slice A2 q.binds.length c2) q.binds.length (q.binds.map Value.string) rfl HR2.out ?c2 ?c3 ?c4 ?c5 ?_))
    case hown => exact row_stays HRW.out fun k hk => HB2.out.block k (HRW.out.lt k hk).2
    case c2 => intro u hu; simp only [List.mem_map] at hu; obtain ⟨x,-,rfl⟩:=hu; rfl
    case c3 => unfold maxLen; omega
    case c4 => omega
    case c5 => omega
    intro v' w2 hown hgrow _
    obtain ⟨A3,c3,rfl,-⟩:=row_slice hown
    have hb3 : Below w.heap.size w w2:=(HB.out.trans (HB2.out.mono HB.out.size)).grown hgrow (by omega) (fun j hj => (HRW.out.lt j hj).1)
    have HB3:=Lib.hid hb3
    have HO3:=Lib.hid hown
    clear hb3 hown hgrow
    go_wp2_with fail
    refine ⟨⟨k + 1,by go_num,by omega,HB3.out,A3,c3, ?_, ?_⟩,by simp [intOf]; omega⟩
    ·rw [bindsTo_succ HK.out,List.length_append]
    ·rw [bindsTo_succ HK.out,List.length_append,List.map_append]
     exact HO3.out
   ·have hk2 : k = l.length:=by omega
    have hrw:=HRW.out
    have HK2:=Lib.hid hk2
    rw [hk2,bindsTo_all] at hrw
    have HRW2:=Lib.hid hrw
    clear hk2 hrw
    go_wp2_with fail
    go_ret
    refine ⟨HB.out,_,rfl,A',c', ?_,HRW2.out⟩
    rw [HK2.out,bindsTo_all]
    rfl
end Go.Proofs.YtjeggkfgdhepaaaGreatDoor

namespace Go.Proofs.YtjeggkfgdhepaaaGreatDoor
open Go.RowKit
open Go.Proofs
def AddPost (B : Nat) (w : World) (l : List ByteArray) (e : Ending) (w' : World) : Prop:=Below B w w' ∧ ∃ v,e = .returned v ∧ Texts B w' v l
end Go.Proofs.YtjeggkfgdhepaaaGreatDoor

namespace Go.Proofs.YtjeggkfgdhepaaaGreatDoor
open Go.RowKit
open Go.Proofs
structure Cn where
 name : ByteArray
 has : Bool
 ty : Ty
 deriving Inhabited
structure Dt where
 name : ByteArray
 at_ : Option Addr
 cap : Nat
 cons : List Cn
 deriving Inhabited
def Cn.cells (c : Cn) : List Value:=[.string c.name,.bool c.has,.string c.ty.dof,.string c.ty.name,.slice c.ty.at_ c.ty.args.length c.ty.cap]
def Cn.val (c : Cn) : Value:=.agg #[.string c.name,.bool c.has,.string c.ty.dof,.string c.ty.name,.slice c.ty.at_ c.ty.args.length c.ty.cap]
def Dt.cells (d : Dt) : List Value:=[.string d.name,.slice d.at_ d.cons.length d.cap]
def Dt.val (d : Dt) : Value:=.agg #[.string d.name,.slice d.at_ d.cons.length d.cap]
def Cn.In (B : Nat) (w : World) (c : Cn) : Prop:=c.name.size ≤ 1099511627776 ∧ c.ty.In B w
def Dt.In (B : Nat) (w : World) (d : Dt) : Prop:=d.name.size ≤ 1099511627776 ∧ d.cons.length ≤ 1099511627776 ∧ (d.cons.length ≤ d.cap ∧ (d.at_ = none → d.cap = 0)) ∧ RowAt B w 5 d.at_ (d.cons.map Cn.cells) ∧ ∀ c ∈ d.cons,c.In B w
section
variable {B B' : Nat} {w w' : World}
theorem Cn.In.at_ {c : Cn} (h : c.In B w) (hb : Below B w w') (hB : B ≤ w'.heap.size) : c.In w'.heap.size w':=⟨h.1,h.2.at_ hb hB⟩
theorem Cn.In.keep {c : Cn} (h : c.In B w) (hb : Below B w w') : c.In B w':=⟨h.1,Ty.In.keep hb _ h.2⟩
theorem Cn.In.wider {c : Cn} (h : c.In B w) (hb : B ≤ B') : c.In B' w:=⟨h.1,Ty.In.wider hb _ h.2⟩
theorem Dt.In.keep {d : Dt} (h : d.In B w) (hb : Below B w w') : d.In B w':=⟨h.1,h.2.1,h.2.2.1,h.2.2.2.1.keep hb,fun c hc => (h.2.2.2.2 c hc).keep hb⟩
theorem Dt.In.wider {d : Dt} (h : d.In B w) (hb : B ≤ B') : d.In B' w:=⟨h.1,h.2.1,h.2.2.1,h.2.2.2.1.wider hb,fun c hc => (h.2.2.2.2 c hc).wider hb⟩
theorem Dt.In.at_ {d : Dt} (h : d.In B w) (hb : Below B w w') (hB : B ≤ w'.heap.size) : d.In w'.heap.size w':=(h.keep hb).wider hB
end
theorem Cn.arg_at {B : Nat} {w wr : World} {A : Option Addr} {l : List Cn} {k : Nat} (hR : RowAt B w 5 A (l.map Cn.cells)) (hb : Below B w wr) (hlt : k < l.length) :
  ∃ q b off,l[k]? = some q ∧ q ∈ l ∧ A = some ⟨b,off,none⟩ ∧ b < B ∧ wr.cell? ⟨b,off + k * 5,none⟩ = some (.string q.name) ∧ wr.cell? ⟨b,off + k * 5 + 1,none⟩ = some (.bool q.has) ∧ wr.cell? ⟨b,off + k * 5 + 2,none⟩ = some (.string q.ty.dof) ∧
   wr.cell? ⟨b,off + k * 5 + 3,none⟩ = some (.string q.ty.name) ∧ wr.cell? ⟨b,off + k * 5 + 4,none⟩ = some (.slice q.ty.at_ q.ty.args.length q.ty.cap):=by
 obtain ⟨q,hq⟩ : ∃ q,l[k]? = some q:=⟨_,List.getElem?_eq_getElem hlt⟩
 obtain ⟨b,off,rfl,hb',hc⟩:=hR (by simp; omega)
 exact ⟨q,b,off,hq,List.mem_of_getElem? hq,rfl,hb',(hb.cell (p:=⟨b,off + k * 5,none⟩) hb').trans (hc k q.cells (by simp [hq]) 0 _ rfl),
  (hb.cell (p:=⟨b,off + k * 5 + 1,none⟩) hb').trans (hc k q.cells (by simp [hq]) 1 _ rfl),(hb.cell (p:=⟨b,off + k * 5 + 2,none⟩) hb').trans (hc k q.cells (by simp [hq]) 2 _ rfl),
  (hb.cell (p:=⟨b,off + k * 5 + 3,none⟩) hb').trans (hc k q.cells (by simp [hq]) 3 _ rfl),(hb.cell (p:=⟨b,off + k * 5 + 4,none⟩) hb').trans (hc k q.cells (by simp [hq]) 4 _ rfl)⟩
theorem Dt.arg_at {B : Nat} {w wr : World} {A : Option Addr} {l : List Dt} {k : Nat} (hR : RowAt B w 2 A (l.map Dt.cells)) (hb : Below B w wr) (hlt : k < l.length) :
  ∃ q b off,l[k]? = some q ∧ q ∈ l ∧ A = some ⟨b,off,none⟩ ∧ b < B ∧ wr.cell? ⟨b,off + k * 2,none⟩ = some (.string q.name) ∧ wr.cell? ⟨b,off + k * 2 + 1,none⟩ = some (.slice q.at_ q.cons.length q.cap):=by
 obtain ⟨q,hq⟩ : ∃ q,l[k]? = some q:=⟨_,List.getElem?_eq_getElem hlt⟩
 obtain ⟨b,off,rfl,hb',hc⟩:=hR (by simp; omega)
 exact ⟨q,b,off,hq,List.mem_of_getElem? hq,rfl,hb',(hb.cell (p:=⟨b,off + k * 2,none⟩) hb').trans (hc k q.cells (by simp [hq]) 0 _ rfl),
  (hb.cell (p:=⟨b,off + k * 2 + 1,none⟩) hb').trans (hc k q.cells (by simp [hq]) 1 _ rfl)⟩
end Go.Proofs.YtjeggkfgdhepaaaGreatDoor

namespace Go.Proofs.YtjeggkfgdhepaaaGreatDoor
open Go.RowKit
open Go.Proofs
def Asks (g : Nat) (lb : Array Value) (enc : Value) (I' J : World → Prop) (W : World) : Prop:=
 Calls Tryz.prog g (#[enc] ++ lb) W fun e W' => (e = .returned (.bool true) ∧ J W') ∨ (e = .returned (.bool false) ∧ I' W')
def Found (n : Nat) (I J : Nat → World → Prop) (e : Ending) (w' : World) : Prop:=(∃ i : Nat,i < n ∧ e = .returned (.int .i64 i) ∧ J i w') ∨ (e = .returned (.int .i64 (-1)) ∧ I n w')
def Holds (n : Nat) (I J : Nat → World → Prop) (e : Ending) (w' : World) : Prop:=(∃ i : Nat,i < n ∧ e = .returned (.bool true) ∧ J i w') ∨ (e = .returned (.bool false) ∧ I n w')
set_option maxHeartbeats 1000000 in
theorem indexPat (g : Nat) (eg : ∀ args w,(callFunc g args).run Tryz.prog w = .ok (.enter g args) w) (lb : Array Value) (l : List Pt) (A : Option Addr) (cap : Nat) (w : World) (I J : Nat → World → Prop) (hl : l.length ≤ 1099511627776)
  (hrow : ∀ i W,I i W → ∃ B,RowAt B W 4 A (l.map Pt.cells)) (h0 : I 0 w) (hcall : ∀ i W q,l[i]? = some q → I i W → Asks g lb q.val (I (i + 1)) (J i) W) :
  Calls Tryz.prog 56 #[.slice A l.length cap,.func (.func g) #[] lb] w (Found l.length I J):=by
 have HROW:=Lib.hid hrow
 have H0:=Lib.hid h0
 have HC:=Lib.hid hcall
 clear hrow h0 hcall
 go_enter Tryz.func56,Tryz.ntmps56
 go_wp2_with fail
 go_loopw [8] (fun iv wr => ∃ k : Nat,iv = .int .i64 k ∧ k ≤ l.length ∧ Hid (I k wr)) (fun iv _ => l.length - (intOf iv).toNat)
 case atStart => exact ⟨0,rfl,Nat.zero_le _,H0.out⟩
 case round =>
  obtain ⟨k,rfl,hk,HI⟩:=hrel
  by_cases hlt : k < l.length
  ·obtain ⟨B,hR⟩:=HROW.out k wr HI.out
   obtain ⟨q,b0,off,hq,hmem,rfl,hb,x0,x1,x2,x3⟩:=Pt.arg_at hR (Below.refl _ _) hlt
   have hcq:=Lib.hid (HC.out k wr q hq HI.out)
   have hk1 : (k : Int) < (l.length : Int):=by omega
   clear hR hq hmem hb
   go_wp2_with fail
   refine Calls.mono hcq.out ?_
   rintro en w1 (⟨rfl,hJ⟩ | ⟨rfl,hI⟩)
   ·have HJ:=Lib.hid hJ
    clear hJ
    go_wp2_with fail
    go_ret
    exact .inl ⟨k,hlt,rfl,HJ.out⟩
   ·have HI2:=Lib.hid hI
    clear hI
    go_wp2_with fail
    exact ⟨⟨k + 1,by go_num,by omega,HI2.out⟩,by simp [intOf]; omega⟩
  ·have hk2 : k = l.length:=by omega
   have hi:=HI.out
   rw [hk2] at hi
   have HI2:=Lib.hid hi
   clear hi hk2
   go_wp2_with fail
   go_ret
   exact .inr ⟨rfl,HI2.out⟩
set_option maxHeartbeats 1000000 in
theorem indexTy (g : Nat) (eg : ∀ args w,(callFunc g args).run Tryz.prog w = .ok (.enter g args) w) (lb : Array Value) (l : List Ty) (A : Option Addr) (cap : Nat) (w : World) (I J : Nat → World → Prop) (hl : l.length ≤ 1099511627776)
  (hrow : ∀ i W,I i W → ∃ B,RowAt B W 3 A (l.map Ty.cells)) (h0 : I 0 w) (hcall : ∀ i W q,l[i]? = some q → I i W → Asks g lb q.val (I (i + 1)) (J i) W) :
  Calls Tryz.prog 133 #[.slice A l.length cap,.func (.func g) #[] lb] w (Found l.length I J):=by
 have HROW:=Lib.hid hrow
 have H0:=Lib.hid h0
 have HC:=Lib.hid hcall
 clear hrow h0 hcall
 go_enter Tryz.func133,Tryz.ntmps133
 go_wp2_with fail
 go_loopw [8] (fun iv wr => ∃ k : Nat,iv = .int .i64 k ∧ k ≤ l.length ∧ Hid (I k wr)) (fun iv _ => l.length - (intOf iv).toNat)
 case atStart => exact ⟨0,rfl,Nat.zero_le _,H0.out⟩
 case round =>
  obtain ⟨k,rfl,hk,HI⟩:=hrel
  by_cases hlt : k < l.length
  ·obtain ⟨B,hR⟩:=HROW.out k wr HI.out
   obtain ⟨q,b0,off,hq,hmem,rfl,hb,x0,x1,x2⟩:=Ty.arg_at hR (Below.refl _ _) hlt
   have hcq:=Lib.hid (HC.out k wr q hq HI.out)
   have hk1 : (k : Int) < (l.length : Int):=by omega
   clear hR hq hmem hb
   go_wp2_with fail
   refine Calls.mono hcq.out ?_
   rintro en w1 (⟨rfl,hJ⟩ | ⟨rfl,hI⟩)
   ·have HJ:=Lib.hid hJ
    clear hJ
    go_wp2_with fail
    go_ret
    exact .inl ⟨k,hlt,rfl,HJ.out⟩
   ·have HI2:=Lib.hid hI
    clear hI
    go_wp2_with fail
    exact ⟨⟨k + 1,by go_num,by omega,HI2.out⟩,by simp [intOf]; omega⟩
  ·have hk2 : k = l.length:=by omega
   have hi:=HI.out
   rw [hk2] at hi
   have HI2:=Lib.hid hi
   clear hi hk2
   go_wp2_with fail
   go_ret
   exact .inr ⟨rfl,HI2.out⟩
set_option maxHeartbeats 1000000 in
theorem indexCon (g : Nat) (eg : ∀ args w,(callFunc g args).run Tryz.prog w = .ok (.enter g args) w) (lb : Array Value) (l : List Cn) (A : Option Addr) (cap : Nat) (w : World) (I J : Nat → World → Prop) (hl : l.length ≤ 1099511627776)
  (hrow : ∀ i W,I i W → ∃ B,RowAt B W 5 A (l.map Cn.cells)) (h0 : I 0 w) (hcall : ∀ i W q,l[i]? = some q → I i W → Asks g lb q.val (I (i + 1)) (J i) W) :
  Calls Tryz.prog 119 #[.slice A l.length cap,.func (.func g) #[] lb] w (Found l.length I J):=by
 have HROW:=Lib.hid hrow
 have H0:=Lib.hid h0
 have HC:=Lib.hid hcall
 clear hrow h0 hcall
 go_enter Tryz.func119,Tryz.ntmps119
 go_wp2_with fail
 go_loopw [8] (fun iv wr => ∃ k : Nat,iv = .int .i64 k ∧ k ≤ l.length ∧ Hid (I k wr)) (fun iv _ => l.length - (intOf iv).toNat)
 case atStart => exact ⟨0,rfl,Nat.zero_le _,H0.out⟩
 case round =>
  obtain ⟨k,rfl,hk,HI⟩:=hrel
  by_cases hlt : k < l.length
  ·obtain ⟨B,hR⟩:=HROW.out k wr HI.out
   obtain ⟨q,b0,off,hq,hmem,rfl,hb,x0,x1,x2,x3,x4⟩:=Cn.arg_at hR (Below.refl _ _) hlt
   have hcq:=Lib.hid (HC.out k wr q hq HI.out)
   have hk1 : (k : Int) < (l.length : Int):=by omega
   clear hR hq hmem hb
   go_wp2_with fail
   refine Calls.mono hcq.out ?_
   rintro en w1 (⟨rfl,hJ⟩ | ⟨rfl,hI⟩)
   ·have HJ:=Lib.hid hJ
    clear hJ
    go_wp2_with fail
    go_ret
    exact .inl ⟨k,hlt,rfl,HJ.out⟩
   ·have HI2:=Lib.hid hI
    clear hI
    go_wp2_with fail
    exact ⟨⟨k + 1,by go_num,by omega,HI2.out⟩,by simp [intOf]; omega⟩
  ·have hk2 : k = l.length:=by omega
   have hi:=HI.out
   rw [hk2] at hi
   have HI2:=Lib.hid hi
   clear hi hk2
   go_wp2_with fail
   go_ret
   exact .inr ⟨rfl,HI2.out⟩
theorem containsPat (g : Nat) (eg : ∀ args w,(callFunc g args).run Tryz.prog w = .ok (.enter g args) w) (lb : Array Value) (l : List Pt) (A : Option Addr) (cap : Nat) (w : World) (I J : Nat → World → Prop) (hl : l.length ≤ 1099511627776)
  (hrow : ∀ i W,I i W → ∃ B,RowAt B W 4 A (l.map Pt.cells)) (h0 : I 0 w) (hcall : ∀ i W q,l[i]? = some q → I i W → Asks g lb q.val (I (i + 1)) (J i) W) :
  Calls Tryz.prog 54 #[.slice A l.length cap,.func (.func g) #[] lb] w (Holds l.length I J):=by
 have HC:=Lib.hid (indexPat g eg lb l A cap w I J hl hrow h0 hcall)
 clear hrow h0 hcall
 go_enter Tryz.func54,Tryz.ntmps54
 go_wp2_with fail
 refine Calls.mono HC.out ?_
 rintro en w1 (⟨i,hi,rfl,hJ⟩ | ⟨rfl,hI⟩)
 ·have HJ:=Lib.hid hJ
  clear hJ
  go_wp2_with fail
  go_ret
  exact .inl ⟨i,hi,rfl,HJ.out⟩
 ·have HI:=Lib.hid hI
  clear hI
  go_wp2_with fail
  go_ret
  exact .inr ⟨rfl,HI.out⟩
theorem containsTy (g : Nat) (eg : ∀ args w,(callFunc g args).run Tryz.prog w = .ok (.enter g args) w) (lb : Array Value) (l : List Ty) (A : Option Addr) (cap : Nat) (w : World) (I J : Nat → World → Prop) (hl : l.length ≤ 1099511627776)
  (hrow : ∀ i W,I i W → ∃ B,RowAt B W 3 A (l.map Ty.cells)) (h0 : I 0 w) (hcall : ∀ i W q,l[i]? = some q → I i W → Asks g lb q.val (I (i + 1)) (J i) W) :
  Calls Tryz.prog 111 #[.slice A l.length cap,.func (.func g) #[] lb] w (Holds l.length I J):=by
 have HC:=Lib.hid (indexTy g eg lb l A cap w I J hl hrow h0 hcall)
 clear hrow h0 hcall
 go_enter Tryz.func111,Tryz.ntmps111
 go_wp2_with fail
 refine Calls.mono HC.out ?_
 rintro en w1 (⟨i,hi,rfl,hJ⟩ | ⟨rfl,hI⟩)
 ·have HJ:=Lib.hid hJ
  clear hJ
  go_wp2_with fail
  go_ret
  exact .inl ⟨i,hi,rfl,HJ.out⟩
 ·have HI:=Lib.hid hI
  clear hI
  go_wp2_with fail
  go_ret
  exact .inr ⟨rfl,HI.out⟩
theorem containsCon (g : Nat) (eg : ∀ args w,(callFunc g args).run Tryz.prog w = .ok (.enter g args) w) (lb : Array Value) (l : List Cn) (A : Option Addr) (cap : Nat) (w : World) (I J : Nat → World → Prop) (hl : l.length ≤ 1099511627776)
  (hrow : ∀ i W,I i W → ∃ B,RowAt B W 5 A (l.map Cn.cells)) (h0 : I 0 w) (hcall : ∀ i W q,l[i]? = some q → I i W → Asks g lb q.val (I (i + 1)) (J i) W) :
  Calls Tryz.prog 105 #[.slice A l.length cap,.func (.func g) #[] lb] w (Holds l.length I J):=by
 have HC:=Lib.hid (indexCon g eg lb l A cap w I J hl hrow h0 hcall)
 clear hrow h0 hcall
 go_enter Tryz.func105,Tryz.ntmps105
 go_wp2_with fail
 refine Calls.mono HC.out ?_
 rintro en w1 (⟨i,hi,rfl,hJ⟩ | ⟨rfl,hI⟩)
 ·have HJ:=Lib.hid hJ
  clear hJ
  go_wp2_with fail
  go_ret
  exact .inl ⟨i,hi,rfl,HJ.out⟩
 ·have HI:=Lib.hid hI
  clear hI
  go_wp2_with fail
  go_ret
  exact .inr ⟨rfl,HI.out⟩
end Go.Proofs.YtjeggkfgdhepaaaGreatDoor
