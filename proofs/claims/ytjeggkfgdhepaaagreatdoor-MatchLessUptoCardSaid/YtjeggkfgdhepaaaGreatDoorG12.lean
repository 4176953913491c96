/- The program's seek at one column: rows of one pattern each. -/
import Derived.Test.YtjeggkfgdhepaaaGreatDoorG11
set_option linter.unusedVariables false
set_option linter.unusedSimpArgs false
namespace Go.Proofs.YtjeggkfgdhepaaaGreatDoor
open Go.RowKit
open Go.Proofs
open Go.Maps

/-- A row of another type stays. -/
theorem Sm.own {K : Sk} {w w1 : World} {B size n : Nat} {v : Value} {xs : List Value} {e : TypeId} (h : Sm K w w1) (ho : w.ownsRow B e size v n xs) (hne : 90 ≠ e) : w1.ownsRow B e size v n xs := by
  obtain ⟨f, f', hf, hf', hm⟩ := h.flag
  exact row_stays ho fun i hi => h.block i (ho.lt i hi).2 (fun e1 => own_ne ho hf hne (by rw [hi, e1]))
theorem MapAt.ne_row {w : World} {b m : Nat} {L : List (ByteArray × Value)} (hm : MapAt ofV w b m L) {B size n : Nat} {v : Value} {xs : List Value} {e : TypeId} (ho : w.ownsRow B e size v n xs) : v.ownBlock ≠ some b := by
  obtain ⟨D, ⟨es, clock, hh, -⟩, -⟩ := hm
  rcases ho.2 with ⟨rfl, -⟩ | ⟨g, cap, cur, rfl, -, hg, -⟩
  · intro h; cases h
  · intro he
    simp only [Value.ownBlock, Option.some.injEq] at he
    subst he
    rw [hh] at hg
    cases hg
theorem SkAt.grown {Z : Sk} {l : List Dt} {L : List (ByteArray × Value)} {w w1 : World} {B size n : Nat} {v : Value} {xs : List Value} (h : SkAt Z l L w) (ho : w.ownsRow B 3 size v n xs) (hg : w.grownBy w1 v.ownBlock) : SkAt Z l L w1 := by
  obtain ⟨f, hf⟩ := h.blk
  obtain ⟨m, hm⟩ := h.n
  exact ⟨⟨f, (hg.block _ hf.lt (own_ne ho hf (by decide)).symm).trans hf⟩, h.d.block (hg.block _ h.d.lt (h.d.ne_row ho).symm), ⟨m, hm.block (hg.block _ hm.lt (hm.ne_row ho).symm)⟩, h.vals, h.ned, h.nen⟩
theorem rowsIn_all {B : Nat} {W : World} {l : List Pt} {k : Nat} {A9 : Option Addr} {c9 : Nat} (h : RowsO B W (.slice A9 k c9) l k) (hl : l.length = k) (hk : k ≤ 1048576) (hall : ∀ q ∈ l, q.In W.heap.size W) :
    ∃ (rs : List Rw), rs.length = k ∧ RowsIn W.heap.size W A9 rs ∧ patsL rs = oneCol l := by
  obtain ⟨rs, A, c, hrl, he, hown, hone⟩ := h
  cases he
  have hmem : ∀ r ∈ rs, ∃ q b, q ∈ l ∧ r = ⟨some ⟨b, 0, none⟩, 1, [q]⟩ ∧ Blk W b #[.string q.dof, .string q.name, .int .i64 q.num, .slice q.at_ q.args.length q.cap] 28 := fun r hr => by
    obtain ⟨i, hi⟩ := List.getElem?_of_mem hr
    obtain ⟨q, b, h1, h2, h3⟩ := hone i r hi
    exact ⟨q, b, List.mem_of_getElem? h1, h2, h3⟩
  refine ⟨rs, hrl, ⟨by have := row_vals hown; rwa [List.map_map] at this, fun r hr => ?_, by omega⟩, ?_⟩
  · obtain ⟨q, b, hq, rfl, hb⟩ := hmem r hr
    exact ⟨row_pt1 hb hb.lt, fun p hp => by simp only [List.mem_cons, List.not_mem_nil, or_false] at hp; subst hp; exact hall _ hq, Nat.le_refl _, (show (1 : Nat) ≤ 9223372036854775807 by decide)⟩
  · unfold patsL oneCol
    refine List.ext_getElem? fun i => ?_
    rw [List.getElem?_map, List.getElem?_map]
    by_cases hi : i < rs.length
    · obtain ⟨q, b, h1, h2, -⟩ := hone i rs[i] (List.getElem?_eq_getElem hi)
      rw [List.getElem?_eq_getElem hi, h1, Option.map_some, Option.map_some, h2]
    · rw [List.getElem?_eq_none (by omega), List.getElem?_eq_none (by omega)]
      rfl
theorem seek_col (Z : Sk) (l : List Dt) (L : List (ByteArray × Value)) (hr : Right2 l L) (t : Ty) (ht : okT l t) (htc : t.capB) (hcaps : ∀ d ∈ l, ∀ c ∈ d.cons, c.ty.capB) (col : List Pt) (p : Pt) (hcol : ∀ q ∈ col, POk l t q ∧ q.capB) (hp : POk l t p ∧ p.capB)
    (k : Nat) (hk : col.length = k) (hlen : k ≤ 1000) (hsz : sizeL [t] (oneCol col) [p] ≤ 100000) (W : World) (hV : VEnv Z l L W) (htin : t.In W.heap.size W) (hin : ∀ q ∈ col, q.In W.heap.size W) (hpin : p.In W.heap.size W) (B bt bp : Nat) (A9 : Option Addr) (c9 : Nat)
    (kt : Blk W bt #[.string t.dof, .string t.name, .slice t.at_ t.args.length t.cap] 25) (kp : Blk W bp #[.string p.dof, .string p.name, .int .i64 p.num, .slice p.at_ p.args.length p.cap] 28) (ro : RowsO B W (.slice A9 k c9) col k) :
    Calls Tryz.prog 44 #[Z.val, .slice (some ⟨bt, 0, none⟩) 1 1, .slice A9 k c9, .slice (some ⟨bp, 0, none⟩) 1 1] W (SeekPost Z l [t] (oneCol col) [p] W) := by
  obtain ⟨rs, hrl, hri, hpats⟩ := rowsIn_all ro hk (by omega) hin
  have h := seek_any Z l L hr ⟨some ⟨bt, 0, none⟩, 1, [t]⟩ A9 rs c9 ⟨some ⟨bp, 0, none⟩, 1, [p]⟩ W
    ⟨hV, hcaps, ⟨row_ty1 kt kt.lt, fun u hu => by simp only [List.mem_cons, List.not_mem_nil, or_false] at hu; subst hu; exact htin, Nat.le_refl _, (show (1 : Nat) ≤ 9223372036854775807 by decide)⟩, fun h => (by cases h), fun u hu => by simp only [List.mem_cons, List.not_mem_nil, or_false] at hu; subst hu; exact ⟨ht, htc⟩, hri,
      fun r hr => by
        have hm : r.pats ∈ oneCol col := by rw [← hpats]; exact List.mem_map.2 ⟨r, hr, rfl⟩
        obtain ⟨q, hq, he⟩ := List.mem_map.1 hm
        rw [← he]
        obtain ⟨h1, h2⟩ := hcol q hq
        exact ⟨.cons h1 .nil, fun x hx => by simp only [List.mem_cons, List.not_mem_nil, or_false] at hx; subst hx; exact h2⟩, by omega,
      ⟨row_pt1 kp kp.lt, fun x hx => by simp only [List.mem_cons, List.not_mem_nil, or_false] at hx; subst hx; exact hpin, Nat.le_refl _, (show (1 : Nat) ≤ 9223372036854775807 by decide)⟩,
      ⟨.cons hp.1 .nil, fun x hx => by simp only [List.mem_cons, List.not_mem_nil, or_false] at hx; subst hx; exact hp.2⟩⟩ (by rw [hpats]; exact hsz)
  rw [hpats, hrl] at h
  exact h
/-- What asking needs of a world: the trees lie there, of bounded capacities. -/
structure AskIn (w : World) (A : Option Addr) (l : List Dt) (t : Ty) (Ap : Option Addr) (ps : List Pt) : Prop where
  env : Env w
  dts : DtsIn w.heap.size w A l
  ty : t.In w.heap.size w
  pts : PtsIn w.heap.size w Ap ps
  caps : ∀ d ∈ l, ∀ c ∈ d.cons, c.ty.capB
  tcap : t.capB
  pcap : ∀ p ∈ ps, p.capB
  dlen : ∀ d ∈ l, d.cons.length ≤ 1048576
  count : (ps.map Pt.count).sum ≤ 1048576
theorem AskIn.next {w w1 : World} {A : Option Addr} {l : List Dt} {t : Ty} {Ap : Option Addr} {ps : List Pt} (h : AskIn w A l t Ap ps) (hb : Below w.heap.size w w1) : AskIn w1 A l t Ap ps :=
  ⟨h.env.next hb, h.dts.next hb, h.ty.at_ hb hb.size, h.pts.at_ hb hb.size, h.caps, h.tcap, h.pcap, h.dlen, h.count⟩
/-- A seeker that is right. -/
def SkOk (l : List Dt) (B : Nat) (w : World) (v : Value) : Prop := ∃ (Z : Sk) (L : List (ByteArray × Value)), v = Z.val ∧ B ≤ Z.b ∧ SkAt Z l L w ∧ Right2 l L ∧ Open_ Z w
/-- One pattern behind others. -/
theorem seek_one (Z : Sk) (l : List Dt) (L : List (ByteArray × Value)) (hr : Right2 l L) (A : Option Addr) (t : Ty) (Ap : Option Addr) (ps : List Pt) (ha : Asked l t ps) (k : Nat) (q : Pt) (hq : ps[k]? = some q) (W : World) (hi : AskIn W A l t Ap ps) (hV : VEnv Z l L W) (B bt bp : Nat) (A9 : Option Addr) (c9 : Nat)
    (kt : Blk W bt #[.string t.dof, .string t.name, .slice t.at_ t.args.length t.cap] 25) (kp : Blk W bp #[.string q.dof, .string q.name, .int .i64 q.num, .slice q.at_ q.args.length q.cap] 28) (ro : RowsO B W (.slice A9 k c9) (ps.take k) k) :
    Calls Tryz.prog 44 #[.pointer (some ⟨Z.b, 0, none⟩), .slice (some ⟨bt, 0, none⟩) 1 1, .slice A9 k c9, .slice (some ⟨bp, 0, none⟩) 1 1] W fun e W' => Sm Z W W' ∧ ∃ vz, e = .returned (.tuple #[vz, .bool (!idle l t ps k)]) := by
  have hmem := List.mem_of_getElem? hq
  have hkl := (List.getElem?_eq_some_iff.1 hq).1
  have hl12 := ha.len
  refine Calls.mono (seek_col Z l L hr t ha.ty hi.tcap hi.caps (ps.take k) q (fun x hx => ⟨ha.pok x (List.mem_of_mem_take hx), hi.pcap x (List.mem_of_mem_take hx)⟩) ⟨ha.pok q hmem, hi.pcap q hmem⟩ k (by rw [List.length_take]; omega) (by omega) (size_one ha hq) W hV hi.ty (fun x hx => hi.pts.each x (List.mem_of_mem_take hx)) (hi.pts.each q hmem) B bt bp A9 c9 kt kp ro) ?_
  rintro e W' ⟨hs, ⟨rfl, hno⟩ | ⟨hyes, A', c', out, rfl, -⟩⟩
  · refine ⟨hs, .slice none 0 0, ?_⟩
    rw [(idle_iff hq).2 hno]
    rfl
  · refine ⟨hs, .slice A' out.length c', ?_⟩
    cases h : idle l t ps k with
    | false => rfl
    | true => exact absurd hyes ((idle_iff hq).1 h)
end Go.Proofs.YtjeggkfgdhepaaaGreatDoor

/- The seeker as its numbers sink. -/
set_option linter.unusedVariables false
set_option linter.unusedSimpArgs false
namespace Go.Proofs.YtjeggkfgdhepaaaGreatDoor
open Go.RowKit
open Go.Proofs
open Go.Maps

theorem dTo_inv {l : List Dt} {s : ByteArray} {v : Value} (h : lookL (dTo l l.length) s = some v) : ∃ d ∈ l, d.name = s ∧ v = d.val := by
  unfold dTo at h
  rw [lookL_map, List.take_length] at h
  obtain ⟨d, hd, rfl⟩ := Option.map_eq_some_iff.1 h
  exact ⟨d, by simpa using List.mem_of_find?_eq_some hd, bytes_of (by simpa using List.find?_some hd), rfl⟩
def numOfV : Value → Nat
  | .tuple #[.int _ m, .bool b] => if b then m.toNat else 2002
  | _ => 2002
noncomputable def lookN (bN : Nat) (W : World) (s : ByteArray) : Nat := match (Instr.lookup 88 (.map (some bN)) (.string s) true).run Tryz.prog W with
  | .ok v _ => numOfV v
  | _ => 2002
/-- How far the numbers in a world can sink. -/
noncomputable def potW (l : List Dt) (bN : Nat) (W : World) : Nat := (l.map fun d => lookN bN W d.name).sum
theorem lookN_is {Z : Sk} {l : List Dt} {L : List (ByteArray × Value)} {W : World} (h : SkAt Z l L W) (s : ByteArray) (hs : s.size ≤ 1099511627776) : lookN Z.bN W s = potOf (numL L) s := by
  obtain ⟨m, hm⟩ := h.n
  have h9 := map_look_gen true Tryz.underlying88 (zeroInt W) hm s hs
  have hk := num_look h.vals s
  simp only [Prod.mk.injEq] at hk
  unfold lookN potOf
  rw [h9]
  simp only [if_true]
  rw [hk.1, hk.2]
  cases numL L s <;> rfl
theorem potW_is {Z : Sk} {l : List Dt} {L : List (ByteArray × Value)} {W : World} (h : SkAt Z l L W) (hs : ∀ d ∈ l, d.name.size ≤ 1099511627776) : potW l Z.bN W = pot l (numL L) := by
  unfold potW pot
  refine congrArg List.sum (List.map_congr_left fun d hd => lookN_is h d.name (hs d hd))
/-- Where the numbers are sinking. -/
structure NS (l : List Dt) (w : World) (Z : Sk) (bw bD bC bE : Nat) (W : World) (L : List (ByteArray × Value)) : Prop where
  bel : Below w.heap.size w W
  box : Blk W bw #[.map (some bD), .map (some bC), .map (some bE)] 63
  sk : SkAt Z l L W
  open_ : Open_ Z W
  numb : Numb l (numL L)
  cnt : ∃ n, MapAt ofV W Z.bN n L ∧ n + pot l (numL L) ≤ 2002 * l.length
theorem NS.next {l : List Dt} {w : World} {Z : Sk} {bw bD bC bE : Nat} {W W1 : World} {L : List (ByteArray × Value)} (h : NS l w Z bw bD bC bE W L) (hb : Below W.heap.size W W1) : NS l w Z bw bD bC bE W1 L := by
  obtain ⟨n, h1, h2⟩ := h.cnt
  have ho := h.open_
  exact ⟨h.bel.trans (hb.mono h.bel.size), h.box.below hb h.box.lt, h.sk.next hb, (show Blk _ _ _ _ from Blk.below ho hb (Blk.lt ho)), h.numb, n, h1.next hb, h2⟩
theorem blk_map {w : World} {b b' n : Nat} {cs : Array Value} {T : TypeId} {L : List (ByteArray × Value)} (h : Blk w b cs T) (hm : MapAt ofV w b' n L) : b ≠ b' := by
  rintro rfl
  obtain ⟨D, ⟨es, clock, hh, -⟩, -⟩ := hm
  unfold Blk at h
  rw [h] at hh
  cases hh
theorem NS.put {l : List Dt} {w : World} {Z : Sk} {bw bD bC bE n : Nat} {W W1 : World} {L : List (ByteArray × Value)} (hr : Right l) (h : NS l w Z bw bD bC bE W L) (hZ : w.heap.size ≤ Z.bN) (hne : Z.bN ≠ Z.bD) {d : Dt} (hd : d ∈ l) {c : Cn} (hc : c ∈ d.cons) (hok : (conN (numL L) c).2 = true) (hless : Less (numL L) d.name (conN (numL L) c).1)
    (hn : n + pot l (numL L) ≤ 2002 * l.length) (hm : MapAt ofV W1 Z.bN (n + 1) ((d.name, .int .i64 (conN (numL L) c).1) :: L)) (hg : W.grownBy W1 (some Z.bN)) :
    NS l w Z bw bD bC bE W1 ((d.name, .int .i64 (conN (numL L) c).1) :: L) ∧ pot l (numL ((d.name, .int .i64 (conN (numL L) c).1) :: L)) + 1 ≤ pot l (numL L) := by
  have hN := numsOk h.sk.vals
  have hrg := con_range hN c
  have hp := pot_put hN hd hrg hless
  obtain ⟨m0, hm0⟩ := h.sk.n
  obtain ⟨f, hf⟩ := h.sk.blk
  have hb1 := blk_map h.box hm0
  have hb2 := blk_map hf hm0
  have hblk : ∀ k, k < W.heap.size → k ≠ Z.bN → W1.heap[k]? = W.heap[k]? := fun k hk hne => hg.block k hk (by simpa using hne)
  have ho := h.open_
  refine ⟨⟨h.bel.grown hg h.bel.size (fun k hk => by simp only [Option.some.injEq] at hk; omega), (hblk _ h.box.lt hb1).trans h.box, ⟨⟨f, (hblk _ hf.lt hb2).trans hf⟩, h.sk.d.block (hblk _ h.sk.d.lt (Ne.symm hne)), ⟨_, hm⟩, fun s v hv => ?_, h.sk.ned, h.sk.nen⟩, (hblk _ hf.lt hb2).trans ho, numb_put hr h.numb hd hc hok hless, n + 1, hm, by omega⟩, hp⟩
  by_cases hs : d.name = s
  · subst hs
    rw [lookL_same] at hv
    simp only [Option.some.injEq] at hv
    exact ⟨_, hv.symm, hrg⟩
  · rw [lookL_other _ _ hs] at hv
    exact h.sk.vals s v hv
/-- Have the numbers turned since the round began? -/
structure Turned (l : List Dt) (L0 L : List (ByteArray × Value)) (m : Bool) : Prop where
  no : m = false → L = L0
  yes : m = true → pot l (numL L) + 1 ≤ pot l (numL L0)
def Vis (l : List Dt) (L : List (ByteArray × Value)) (left : Lit → Bool) : Prop := ∀ d ∈ l, left (keyL d.name) = false → ∀ c ∈ d.cons, QuietC (numL L) d.name c
theorem Turned.zero (l : List Dt) (L : List (ByteArray × Value)) : Turned l L L false := ⟨fun _ => rfl, fun h => by cases h⟩
theorem Turned.put {l : List Dt} {L0 L L' : List (ByteArray × Value)} {m : Bool} (h : Turned l L0 L m) (hp : pot l (numL L') + 1 ≤ pot l (numL L)) : Turned l L0 L' true := by
  refine ⟨fun h => (by cases h), fun _ => ?_⟩
  cases m with
  | false => rw [h.no rfl] at hp; exact hp
  | true => have := h.yes rfl; omega
theorem Vis.step {l : List Dt} {L : List (ByteArray × Value)} {left : Lit → Bool} (hr : Right l) (h : Vis l L left) {d : Dt} (hd : d ∈ l) (hq : ∀ c ∈ d.cons, QuietC (numL L) d.name c) : Vis l L (fun z => left z && !z.sameKey (keyL d.name)) := by
  intro e he hl
  simp only [Bool.and_eq_false_iff] at hl
  rcases hl with hl | hl
  · exact h e he hl
  · have := keyL_same (a := e.name) (b := d.name) (by simpa using hl)
    have := same_name hr he hd this
    subst this
    exact hq
/-- A constructor that gives nothing less. -/
theorem quiet_of {N : Nums} {n : ByteArray} {c : Cn} (h : (conN N c).2 = true → ¬Less N n (conN N c).1) : QuietC N n c := by
  intro hc
  have := h hc
  unfold Less at this
  cases hn : N n with
  | none => exact absurd (.inl hn) this
  | some m =>
    refine ⟨m, rfl, ?_⟩
    apply Classical.byContradiction
    intro hlt
    exact this (.inr ⟨m, hn, by omega⟩)
end Go.Proofs.YtjeggkfgdhepaaaGreatDoor

/- newSeeker, by the program: the least numbers of nodes. -/
set_option linter.unusedVariables false
set_option linter.unusedSimpArgs false
namespace Go.Proofs.YtjeggkfgdhepaaaGreatDoor
open Go.RowKit
open Go.Proofs
open Go.Maps

/-- The first world of the seeker. -/
theorem ns_zero (l : List Dt) (w : World) (bD bC bE : Nat) (hm : MapAt ofV w bD l.length (dTo l l.length)) :
    NS l w ⟨w.heap.size + 1 + 1, bD, bC, bE, w.heap.size + 1⟩ w.heap.size bD bC bE (((w.alloc (.cells #[.map (some bD), .map (some bC), .map (some bE)] 63)).alloc (.map #[] 0)).alloc (.cells #[.map (some bD), .map (some bC), .map (some bE), .map (some (w.heap.size + 1)), .bool false] 90)) [] := by
  have hb : Below w.heap.size w (((w.alloc (.cells #[.map (some bD), .map (some bC), .map (some bE)] 63)).alloc (.map #[] 0)).alloc (.cells #[.map (some bD), .map (some bC), .map (some bE), .map (some (w.heap.size + 1)), .bool false] 90)) := (((Below.refl w.heap.size w).alloc (Nat.le_refl _) _).alloc (by simp) _).alloc (by simp; omega) _
  have hmm : MapAt ofV (((w.alloc (.cells #[.map (some bD), .map (some bC), .map (some bE)] 63)).alloc (.map #[] 0)).alloc (.cells #[.map (some bD), .map (some bC), .map (some bE), .map (some (w.heap.size + 1)), .bool false] 90)) (w.heap.size + 1) 0 [] := by
    have h := (MapAt.made ofV (w.alloc (.cells #[.map (some bD), .map (some bC), .map (some bE)] 63))).next ((Below.refl _ _).alloc (Nat.le_refl _) (.cells #[.map (some bD), .map (some bC), .map (some bE), .map (some (w.heap.size + 1)), .bool false] 90))
    simpa using h
  have hs : Blk (((w.alloc (.cells #[.map (some bD), .map (some bC), .map (some bE)] 63)).alloc (.map #[] 0)).alloc (.cells #[.map (some bD), .map (some bC), .map (some bE), .map (some (w.heap.size + 1)), .bool false] 90)) (w.heap.size + 1 + 1) ((⟨w.heap.size + 1 + 1, bD, bC, bE, w.heap.size + 1⟩ : Sk).cells false) 90 := Blk.new' _ _ _ _ (by simp)
  have hlt := hm.lt
  have hv : ∀ s v, lookL ([] : List (ByteArray × Value)) s = some v → ∃ m : Int, v = .int .i64 m ∧ 1 ≤ m ∧ m ≤ 2001 := fun s v h => by rw [lookL_nil] at h; cases h
  refine ⟨hb, ((Blk.new w _ _).alloc _).alloc _, ⟨⟨false, hs⟩, hm.next hb, ⟨0, hmm⟩, hv, by simp only; omega, by simp⟩, hs, numb_nil l, 0, hmm, ?_⟩
  have := pot_max (l := l) (numsOk hv)
  omega
theorem less_iff {N : Nums} {s : ByteArray} {n was : Int} {is : Bool} (hwas : (match N s with | some m => m | none => 0) = was) (his : (N s).isSome = is) : Less N s n ↔ (is = false ∨ n < was) := by
  subst hwas his
  unfold Less
  cases h : N s with
  | none => simp
  | some z => simp
theorem Below.range {w w1 : World} (hg : w.grownBy w1 none) : Below w.heap.size w w1 := (Below.refl _ _).grown hg (Nat.le_refl _) (fun k hk => by cases hk)
theorem range_cells {W : World} {b r n k : Nat} {L : List (ByteArray × Value)} {left : Lit → Bool} {cnt : Nat} {cs : Array Value} {T : TypeId} (h : RangeAt ofV W b r n L left cnt) (hb : Blk W k cs T) : k ≠ r := by
  obtain ⟨D, ⟨es, clock, since, seen, c0, a1, a2, a3, a4, a5, rest⟩, hn⟩ := h
  rintro rfl
  unfold Blk at hb
  rw [hb] at a5
  cases a5
theorem range_map {W : World} {b r n k m : Nat} {L L' : List (ByteArray × Value)} {left : Lit → Bool} {cnt : Nat} (h : RangeAt ofV W b r n L left cnt) (hb : MapAt ofV W k m L') : k ≠ r := by
  obtain ⟨D, ⟨es, clock, since, seen, c0, a1, a2, a3, a4, a5, rest⟩, hn⟩ := h
  rintro rfl
  obtain ⟨D', ⟨es', clock', hh, -⟩, -⟩ := hb
  rw [hh] at a5
  cases a5
theorem NS.ranged {l : List Dt} {w : World} {Z : Sk} {bw bD bC bE : Nat} {W W1 : World} {L : List (ByteArray × Value)} (h : NS l w Z bw bD bC bE W L) {b r n cnt : Nat} {L' : List (ByteArray × Value)} {left : Lit → Bool} (hr : w.heap.size ≤ r) (hra : RangeAt ofV W b r n L' left cnt) (hg : W.grownBy W1 (some r)) : NS l w Z bw bD bC bE W1 L := by
  obtain ⟨m, h1, h2⟩ := h.cnt
  obtain ⟨f, hf⟩ := h.sk.blk
  have ho := h.open_
  have hblk : ∀ k, k < W.heap.size → k ≠ r → W1.heap[k]? = W.heap[k]? := fun k hk hne => hg.block k hk (by simpa using hne)
  exact ⟨h.bel.grown hg h.bel.size (fun k hk => by simp only [Option.some.injEq] at hk; omega), (hblk _ h.box.lt (range_cells hra h.box)).trans h.box, ⟨⟨f, (hblk _ hf.lt (range_cells hra hf)).trans hf⟩, h.sk.d.block (hblk _ h.sk.d.lt (range_map hra h.sk.d)), ⟨m, h1.block (hblk _ h1.lt (range_map hra h1))⟩, h.sk.vals, h.sk.ned, h.sk.nen⟩,
    (show Blk _ _ _ _ from (hblk _ hf.lt (range_cells hra hf)).trans ho), h.numb, m, h1.block (hblk _ h1.lt (range_map hra h1)), h2⟩
set_option maxRecDepth 100000 in
set_option maxHeartbeats 8000000 in
theorem newSeeker_any (l : List Dt) (w : World) (hr : Right l) (hd : ∀ d ∈ l, d.In w.heap.size w ∧ d.cons.length ≤ 1048576) (hl : l.length ≤ 1048576) (bD bC bE : Nat) (hm : MapAt ofV w bD l.length (dTo l l.length)) :
    Calls Tryz.prog 83 #[wVal bD bC bE] w fun e w' => Below w.heap.size w w' ∧ ∃ v, e = .returned v ∧ SkOk l w.heap.size w' v := by
  have HR := Lib.hid hr
  have HD := Lib.hid hd
  have H0 := Lib.hid (ns_zero l w bD bC bE hm)
  have HNB := Lib.hid (show bD < w.heap.size from hm.lt)
  have HNM := Lib.hid (fun (d : Dt) (h : d ∈ l) => (hd d h).1.1)
  have HLK := Lib.hid (fun (d : Dt) (h : d ∈ l) => look_dt hr.names h)
  have HP := Lib.hid (fun (Z : Sk) (W : World) (L : List (ByteArray × Value)) (h : NS l w Z w.heap.size bD bC bE W L) => potW_is h.sk (fun d hd1 => (hd d hd1).1.1))
  clear hr hd hm
  unfold wVal
  have hmm := @run_makeMap Tryz.prog
  go_enter Tryz.func83, Tryz.ntmps83
  go_wp2_with fail
  clear hmm
  generalize ((w.alloc (.cells #[.map (some bD), .map (some bC), .map (some bE)] 63)).alloc (.map #[] 0)).alloc (.cells #[.map (some bD), .map (some bC), .map (some bE), .map (some (w.heap.size + 1)), .bool false] 90) = w0 at H0 ⊢
  have HNN := Lib.hid (show w.heap.size ≤ w.heap.size + 1 ∧ w.heap.size ≤ w.heap.size + 1 + 1 from ⟨by omega, by omega⟩)
  generalize w.heap.size + 1 + 1 = bS at H0 HNN ⊢
  generalize w.heap.size + 1 = bN at H0 HNN ⊢
  go_loopw [4] (fun mv wr => ∃ (m : Bool) (L : List (ByteArray × Value)), mv = .bool m ∧ Hid (NS l w ⟨bS, bD, bC, bE, bN⟩ w.heap.size bD bC bE wr L) ∧ Hid (m = false → ∀ d ∈ l, ∀ c ∈ d.cons, QuietC (numL L) d.name c)) (fun mv wr => isT mv * (potW l bN wr + 1))
  case atStart => exact ⟨true, [], rfl, H0.out, Lib.hid (fun h => by cases h)⟩
  case round =>
    obtain ⟨m0, L0, rfl, HN, HQ⟩ := hrel
    obtain ⟨y0, y1, y2⟩ := HN.out.box.three
    have yl := HN.out.box.lt
    cases m0
    case false =>
      go_wp2_with fail
      go_ret
      exact ⟨HN.out.bel, _, rfl, ⟨bS, bD, bC, bE, bN⟩, L0, rfl, HNN.out.2, HN.out.sk, right_two HR.out HN.out.numb (HQ.out (by simp)), HN.out.open_⟩
    case true =>
      have HPO := Lib.hid (HP.out _ _ _ HN.out)
      go_wp2_with (at_range; go_must (refine map_range rfl _ 59 111 rfl Tryz.underlying59 rfl HN.out.sk.d ?_))
      intro w1 left1 cnt1 hr1 hl1 hg1 hs1
      have HR1 := Lib.hid hr1
      have HN1 := Lib.hid (HN.out.next (Below.range hg1))
      have HV1 : Hid (Vis l L0 left1) := Lib.hid (fun d hd hf => by rw [hl1, HLK.out d hd] at hf; cases hf)
      have HRN : Hid (wr.heap.size ≠ bN ∧ bD ≠ bN) := Lib.hid (by
        obtain ⟨n, h1, -⟩ := HN.out.cnt
        have := h1.lt
        have := HNB.out
        have := HNN.out
        simp only at *
        omega)
      clear hr1 hl1 hg1 hs1 y0 y1 y2 yl
      obtain ⟨wo, rfl⟩ : ∃ wo : World, wo = wr := ⟨_, rfl⟩
      go_wp2_with fail
      have HRW := Lib.hid (show w.heap.size ≤ wo.heap.size from HN.out.bel.size)
      generalize wo.heap.size = r at HR1 HRN HRW ⊢
      go_loopw [21, 4] (fun _ mv wr => ∃ (left : Lit → Bool) (cnt : Nat) (m : Bool) (L : List (ByteArray × Value)), mv = .bool m ∧ Hid (RangeAt ofV wr bD r l.length (dTo l l.length) left cnt) ∧ Hid (NS l w ⟨bS, bD, bC, bE, bN⟩ w.heap.size bD bC bE wr L) ∧ Hid (Turned l L0 L m) ∧ Hid (m = false → Vis l L0 left)) (fun _ _ wr => wr.rangeLeft bD r)
      case atStart => exact ⟨left1, cnt1, false, L0, rfl, HR1.out, HN1.out, Lib.hid (Turned.zero _ _), Lib.hid (fun _ => HV1.out)⟩
      case round =>
        obtain ⟨left, cnt, m, L, rfl, HRA, HN2, HT2, HV2⟩ := hrel
        go_wp2_with (at_next; go_must (refine map_next rfl _ rfl r left cnt rfl HRA.out ofV_inj ?_ ?_))
        · intro hdone
          have HDONE := Lib.hid (show m = false → ∀ d ∈ l, ∀ c ∈ d.cons, QuietC (numL L) d.name c from fun hf d hd c hc => by
            rw [HT2.out.no hf]
            exact HV2.out hf d hd (hdone _) c hc)
          clear hdone
          go_wp2_with fail
          refine ⟨⟨m, L, rfl, HN2.out, HDONE.out⟩, ?_⟩
          have e1 := HP.out _ _ _ HN2.out
          have e2 := HPO.out
          simp only at e1 e2
          rw [e1, e2]
          cases m with
          | false => simp [isT]
          | true => have := HT2.out.yes rfl; simp [isT]; omega
        · intro s v w5 cnt5 hlk hlf hr5 hlt5 hg5 hs5 hen
          obtain ⟨d, hd, rfl, rfl⟩ := dTo_inv hlk
          rcases d with ⟨dn, da, dc, cs⟩
          obtain ⟨hdi, hcn⟩ := HD.out _ hd
          have HDM := Lib.hid hd
          have hdn : dn.size ≤ 1099511627776 := hdi.1
          have HROW := Lib.hid (show RowAt w.heap.size w 5 da (cs.map Cn.cells) from hdi.2.2.2.1)
          have HCI := Lib.hid (show ∀ c ∈ cs, c.In w.heap.size w from hdi.2.2.2.2)
          have HLT := Lib.hid hlt5
          have HRGE := Lib.hid (show w.heap.size ≤ r from HRW.out)
          have HN5 := Lib.hid (HN2.out.ranged HRGE.out HRA.out hg5)
          have HR5 := Lib.hid hr5
          simp only [Dt.val, ofV] at hen hcn HR5 ⊢
          clear hlk hlf hr5 hlt5 hg5 hs5 hdi hd
          obtain ⟨wm, rfl⟩ : ∃ wm : World, wm = wr := ⟨_, rfl⟩
          go_wp2_with fail
          have HN6 := Lib.hid (HN5.out.next ((Below.refl _ _).alloc (Nat.le_refl _) (.cells #[.string dn, .slice da cs.length dc] 111)))
          have HR6 := Lib.hid (HR5.out.next ((Below.refl _ _).alloc (Nat.le_refl _) (.cells #[.string dn, .slice da cs.length dc] 111)))
          clear hen
          generalize w5.alloc (.cells #[.string dn, .slice da cs.length dc] 111) = w6 at HN6 HR6 ⊢
          go_loopw [29, 4] (fun iv mv wr => ∃ (k : Nat) (m : Bool) (L : List (ByteArray × Value)), iv = .int .i64 k ∧ mv = .bool m ∧ k ≤ cs.length ∧ Hid (RangeAt ofV wr bD r l.length (dTo l l.length) (fun z => left z && !z.sameKey (keyL dn)) cnt5) ∧ Hid (NS l w ⟨bS, bD, bC, bE, bN⟩ w.heap.size bD bC bE wr L) ∧ Hid (Turned l L0 L m) ∧ Hid (m = false → Vis l L0 left ∧ ∀ c ∈ cs.take k, QuietC (numL L0) dn c)) (fun iv _ _ => cs.length - (intOf iv).toNat)
          case atStart => exact ⟨0, m, L, rfl, rfl, Nat.zero_le _, HR6.out, HN6.out, HT2.out, Lib.hid (fun hf => ⟨HV2.out hf, fun c hc => by simp at hc⟩)⟩
          case round =>
            obtain ⟨k, m3, L3, rfl, rfl, hk, HR7, HN7, HT7, HV7⟩ := hrel
            by_cases hlt : k < cs.length
            · obtain ⟨c, b0, off, hq, hmem, hat, hb, x0, x1, x2, x3, x4⟩ := Cn.arg_at HROW.out HN7.out.bel hlt
              have HAT := Lib.hid hat
              subst hat
              have HQ := Lib.hid hq
              have HMEM := Lib.hid hmem
              have HN8 := Lib.hid (HN7.out.next ((Below.refl _ _).alloc (Nat.le_refl _) (.cells #[.string c.name, .bool c.has, .string c.ty.dof, .string c.ty.name, .slice c.ty.at_ c.ty.args.length c.ty.cap] 117)))
              have HR8 := Lib.hid (HR7.out.next ((Below.refl _ _).alloc (Nat.le_refl _) (.cells #[.string c.name, .bool c.has, .string c.ty.dof, .string c.ty.name, .slice c.ty.at_ c.ty.args.length c.ty.cap] 117)))
              have hcall := conNodes_any ⟨bS, bD, bC, bE, bN⟩ l L3 c _ (fun hh => ((HR.out.cons _ HDM.out).2 c hmem).2 hh) ((HCI.out c hmem).at_ HN8.out.bel HN8.out.bel.size) HN8.out.sk
              obtain ⟨x, hx⟩ : ∃ x, conN (numL L3) c = x := ⟨_, rfl⟩
              rw [hx] at hcall
              obtain ⟨n, ok⟩ := x
              have HX := Lib.hid hx
              have HC := Lib.hid hcall
              have hrg := con_range (numsOk HN7.out.sk.vals) c
              rw [hx] at hrg
              simp only at hrg
              unfold Cn.val Sk.val at HC
              clear hq hx hcall hmem HAT
              go_wp2_with fail
              clear x0 x1 x2 x3 x4
              refine Calls.mono HC.out ?_
              rintro e w9 ⟨rfl, hb9⟩
              have HN9 := Lib.hid (HN8.out.next hb9)
              have HR9 := Lib.hid (HR8.out.next hb9)
              clear hb9
              obtain ⟨cn, hm9, hcnt⟩ := HN9.out.cnt
              have HM9 := Lib.hid hm9
              have HCNT := Lib.hid hcnt
              have hcb : cn ≤ 2002 * 1048576 := by omega
              have hlk := num_look HN9.out.sk.vals dn
              simp only [Prod.mk.injEq] at hlk
              obtain ⟨was, hwas⟩ : ∃ v : Int, (match numL L3 dn with | some m => m | none => 0) = v := ⟨_, rfl⟩
              obtain ⟨is, his⟩ : ∃ b, (numL L3 dn).isSome = b := ⟨_, rfl⟩
              have HL1 := Lib.hid (show (lookL L3 dn).getD (.int .i64 0) = .int .i64 was from hlk.1.trans (congrArg (Value.int .i64) hwas))
              have HL2 := Lib.hid (hlk.2.trans his)
              have HLESS := Lib.hid (less_iff (n := n) hwas his)
              have hop := HN9.out.open_
              have z3 := Blk.cell hop 3
              have zl := Blk.lt hop
              unfold Sk.cells at z3
              simp only at z3 zl hm9
              clear hm9 hcnt hlk hwas his hop
              have HEND := Lib.hid (show QuietC (numL L3) dn c → (m3 = false → Vis l L0 left ∧ ∀ c ∈ cs.take (k + 1), QuietC (numL L0) dn c) from fun hqc hf => by
                obtain ⟨h1, h2⟩ := HV7.out hf
                refine ⟨h1, fun c' hc' => ?_⟩
                rw [take_snoc HQ.out, List.mem_append, List.mem_singleton] at hc'
                rcases hc' with h | rfl
                · exact h2 c' h
                · rw [← HT7.out.no hf]
                  exact hqc)
              cases ok
              case false =>
                have HV10 := Lib.hid (HEND.out (fun h => by rw [HX.out] at h; cases h))
                go_wp2_with (first | (at_lookup; refine map_look rfl _ _ 88 3 rfl Tryz.underlying88 (.int .i64 0) (zeroInt _) rfl HM9.out dn hdn rfl ofV_inj ?_; rw [HL1.out, HL2.out]) | fail)
                exact ⟨⟨k + 1, m3, L3, by go_num, rfl, by omega, HR9.out, HN9.out, HT7.out, HV10.out⟩, by simp [intOf]; omega⟩
              case true =>
                by_cases hls : is = false ∨ n < was
                · have HLS := Lib.hid hls
                  cases is
                  case false =>
                    clear hls
                    go_wp2_with (first | (at_lookup; refine map_look rfl _ _ 88 3 rfl Tryz.underlying88 (.int .i64 0) (zeroInt _) rfl HM9.out dn hdn rfl ofV_inj ?_; rw [HL1.out, HL2.out]) | (at_mapUpdate; go_must (refine map_put rfl _ _ _ 88 3 rfl Tryz.underlying88 rfl HM9.out (by omega) dn hdn rfl (.int .i64 n) rfl ?_)) | fail)
                    intro w10 hm10 hg10
                    have hput := HN9.out.put HR.out HNN.out.1 (Ne.symm HRN.out.2) HDM.out HMEM.out (by rw [HX.out]) (by rw [HX.out]; exact HLESS.out.2 HLS.out) HCNT.out (by rw [HX.out]; exact hm10) hg10
                    rw [HX.out] at hput
                    have HPUT := Lib.hid hput
                    have HR10 := Lib.hid (HR9.out.blocks (hg10.block _ HN9.out.sk.d.lt (by simpa using HRN.out.2)) (hg10.block _ HR9.out.lt (by simpa using HRN.out.1)))
                    clear hm10 hg10 hput
                    go_wp2_with fail
                    exact ⟨⟨k + 1, true, _, by go_num, rfl, by omega, HR10.out, HPUT.out.1, Lib.hid (HT7.out.put HPUT.out.2), Lib.hid (fun h => by cases h)⟩, by simp [intOf]; omega⟩
                  case true =>
                    have hlt2 : n < was := by rcases hls with h | h; cases h; exact h
                    clear hls
                    go_wp2_with (first | (at_lookup; refine map_look rfl _ _ 88 3 rfl Tryz.underlying88 (.int .i64 0) (zeroInt _) rfl HM9.out dn hdn rfl ofV_inj ?_; rw [HL1.out, HL2.out]) | (at_mapUpdate; go_must (refine map_put rfl _ _ _ 88 3 rfl Tryz.underlying88 rfl HM9.out (by omega) dn hdn rfl (.int .i64 n) rfl ?_)) | fail)
                    intro w10 hm10 hg10
                    have hput := HN9.out.put HR.out HNN.out.1 (Ne.symm HRN.out.2) HDM.out HMEM.out (by rw [HX.out]) (by rw [HX.out]; exact HLESS.out.2 HLS.out) HCNT.out (by rw [HX.out]; exact hm10) hg10
                    rw [HX.out] at hput
                    have HPUT := Lib.hid hput
                    have HR10 := Lib.hid (HR9.out.blocks (hg10.block _ HN9.out.sk.d.lt (by simpa using HRN.out.2)) (hg10.block _ HR9.out.lt (by simpa using HRN.out.1)))
                    clear hm10 hg10 hput
                    go_wp2_with fail
                    exact ⟨⟨k + 1, true, _, by go_num, rfl, by omega, HR10.out, HPUT.out.1, Lib.hid (HT7.out.put HPUT.out.2), Lib.hid (fun h => by cases h)⟩, by simp [intOf]; omega⟩
                · have HV10 := Lib.hid (HEND.out (quiet_of (fun _ hh => by rw [HX.out] at hh; exact hls (HLESS.out.1 hh))))
                  obtain rfl : is = true := by
                    cases is with
                    | true => rfl
                    | false => exact absurd (.inl rfl) hls
                  have hnl : ¬ n < was := fun h => hls (.inr h)
                  clear hls
                  go_wp2_with (first | (at_lookup; refine map_look rfl _ _ 88 3 rfl Tryz.underlying88 (.int .i64 0) (zeroInt _) rfl HM9.out dn hdn rfl ofV_inj ?_; rw [HL1.out, HL2.out]) | fail)
                  exact ⟨⟨k + 1, m3, L3, by go_num, rfl, by omega, HR9.out, HN9.out, HT7.out, HV10.out⟩, by simp [intOf]; omega⟩
            · have hk2 : k = cs.length := by omega
              have HV8 := Lib.hid (show m3 = false → Vis l L0 (fun z => left z && !z.sameKey (keyL dn)) from fun hf => by
                obtain ⟨h1, h2⟩ := HV7.out hf
                rw [hk2, List.take_length] at h2
                exact h1.step HR.out HDM.out h2)
              clear hk2
              go_wp2_with fail
              exact ⟨⟨_, cnt5, m3, L3, rfl, HR7.out, HN7.out, HT7.out, HV8.out⟩, by rw [HR7.out.left_eq, HRA.out.left_eq]; exact HLT.out⟩
theorem newSeeker_of {l : List Dt} {A : Option Addr} {w : World} {B : Nat} (hr : Right l) (hd : DtsIn w.heap.size w A l) (hc : ∀ d ∈ l, d.cons.length ≤ 1048576) (hB : B ≤ w.heap.size) (bD bC bE : Nat) (hm : MapAt ofV w bD l.length (dTo l l.length)) :
    Calls Tryz.prog 83 #[wVal bD bC bE] w fun e w' => Below w.heap.size w w' ∧ ∃ v, e = .returned v ∧ SkOk l B w' v := by
  refine Calls.mono (newSeeker_any l w hr (fun d h => ⟨hd.each d h, hc d h⟩) hd.len bD bC bE hm) ?_
  rintro e w' ⟨hb, v, rfl, Z, L, rfl, h1, h2⟩
  exact ⟨hb, _, rfl, Z, L, rfl, Nat.le_trans hB h1, h2⟩
end Go.Proofs.YtjeggkfgdhepaaaGreatDoor

/- Useless, by the program: the indexes of the useless patterns. -/
set_option linter.unusedVariables false
set_option linter.unusedSimpArgs false
namespace Go.Proofs.YtjeggkfgdhepaaaGreatDoor
open Go.RowKit
open Go.Proofs
open Go.Maps

def UselessPost (l : List Dt) (t : Ty) (ps : List Pt) (w : World) (e : Ending) (w' : World) : Prop :=
  Below w.heap.size w w' ∧ ((askedErr l t ps = 0 ∧ ∃ v, e = .returned (.tuple #[v, .int .i64 0]) ∧ OwnI w.heap.size w' v (idleL l t ps ps.length)) ∨ (askedErr l t ps ≠ 0 ∧ e = .returned (.tuple #[.slice none 0 0, .int .i64 (askedErr l t ps)])))
set_option maxRecDepth 100000 in
set_option maxHeartbeats 4000000 in
theorem useless_any (A : Option Addr) (l : List Dt) (c : Nat) (t : Ty) (Ap : Option Addr) (ps : List Pt) (cp : Nat) (w : World) (h : AskIn w A l t Ap ps) (hcap : ps.length ≤ cp) :
    Calls Tryz.prog 18 #[.slice A l.length c, t.val, .slice Ap ps.length cp] w (UselessPost l t ps w) := by
  have H := Lib.hid h
  have HP := Lib.hid h.pts
  have HAQ := Lib.hid (asked_iff (l := l) (t := t) h.count)
  have HASK := Lib.hid (fun (W : World) (hW : Below w.heap.size w W) => asked_any (SkOk l w.heap.size) A l c t Ap ps cp W (fun h0 W1 bD bC bE hb1 h1 _ _ => newSeeker_of (HAQ.out.1 h0).right ((H.out.next hW).next hb1).dts ((H.out.next hW).next hb1).dlen (Nat.le_trans hW.size hb1.size) bD bC bE h1) (h.env.next hW) (h.dts.next hW) (h.ty.at_ hW hW.size) (h.pts.at_ hW hW.size))
  obtain ⟨i0, hi, hz0, hz1, hz2⟩ := info_parts infoInt
  clear h
  have HB0 := Lib.hid ((Below.refl w.heap.size w).alloc (Nat.le_refl _) (.cells #[.string t.dof, .string t.name, .slice t.at_ t.args.length t.cap] 25))
  have K0 := Lib.hid (Blk.new w #[.string t.dof, .string t.name, .slice t.at_ t.args.length t.cap] 25)
  unfold Ty.val at *
  go_enter Tryz.func18, Tryz.ntmps18
  go_wp2_with fail
  refine Calls.mono (HASK.out _ HB0.out) ?_
  rintro e w1 ⟨hb1, ⟨h0, v1, rfl, Z, L, rfl, hZb, hska, hr2, -⟩ | ⟨hne, rfl⟩⟩
  case inr =>
    have HB1 := Lib.hid (HB0.out.trans (hb1.mono HB0.out.size))
    have HNE := Lib.hid hne
    have hne2 : (askedErr l t ps == 0) = false := by simpa using hne
    generalize hq : askedErr l t ps = er at *
    have HQ := Lib.hid hq
    clear hb1 hne hq
    go_wp2_with fail
    exact bodyPost_ret (v := .tuple #[.slice none 0 0, .int .i64 er]) (by simp [results, Tryz.results18, go_sem]) rfl ⟨HB1.out, .inr ⟨by rw [HQ.out]; exact HNE.out, by rw [HQ.out]⟩⟩
  have HASKED := Lib.hid (HAQ.out.1 h0)
  have HZERO := Lib.hid h0
  have hl12 := HASKED.out.len
  have HB1 := Lib.hid (HB0.out.trans (hb1.mono HB0.out.size))
  have K1 := Lib.hid (K0.out.below hb1 K0.out.lt)
  have HV1 := Lib.hid (show VEnv Z l L w1 from ⟨hska, fun d hd => ⟨(H.out.next HB1.out).dts.each d hd, H.out.dlen d hd⟩⟩)
  have HZB := Lib.hid hZb
  have HR2 := Lib.hid hr2
  clear hb1 hska hr2 hZb h0
  unfold Sk.val
  go_wp2_with fail
  go_loopw [27, 10] (fun iv ov wr => ∃ k : Nat, iv = .int .i64 k ∧ k ≤ ps.length ∧ Hid (Below w.heap.size w wr) ∧ Hid (Blk wr w.heap.size #[.string t.dof, .string t.name, .slice t.at_ t.args.length t.cap] 25) ∧ Hid (OwnI (w.heap.size + 1) wr ov (idleL l t ps k)) ∧ Hid (VEnv Z l L wr)) (fun iv _ _ => ps.length - (intOf iv).toNat)
  case atStart => exact ⟨0, rfl, Nat.zero_le _, HB1.out, K1.out, Lib.hid ⟨none, 0, by unfold idleL idleN; rfl, World.ownsRow_nil _ _ _ _⟩, HV1.out⟩
  case round =>
    obtain ⟨k, rfl, hk, HB, HK, HO, HV⟩ := hrel
    obtain ⟨A', c', rfl, hown⟩ := HO.out
    have HOWN := Lib.hid hown
    clear hown
    by_cases hlt : k < ps.length
    · obtain ⟨q, b0, off, hq, hmem, rfl, hb, x0, x1, x2, x3⟩ := Pt.arg_at HP.out.row HB.out hlt
      have HQ := Lib.hid hq
      have hs0 := HB.out.size
      have kc : k ≤ cp := by omega
      clear hq
      go_wp2_with fail
      have HP0 := Lib.hid (show P7 w.heap.size wr.heap.size t q (wr.alloc (.cells #[.string q.dof, .string q.name, .int .i64 q.num, .slice q.at_ q.args.length q.cap] 28)) from ⟨(HK.out.alloc _).cell 0, (HK.out.alloc _).cell 1, (HK.out.alloc _).cell 2, (Blk.new wr _ _).cell 0, (Blk.new wr _ _).cell 1, (Blk.new wr _ _).cell 2, (Blk.new wr _ _).cell 3⟩)
      have HBW := Lib.hid (HB.out.alloc hs0 (.cells #[.string q.dof, .string q.name, .int .i64 q.num, .slice q.at_ q.args.length q.cap] 28))
      have HKW := Lib.hid (HK.out.alloc (.cells #[.string q.dof, .string q.name, .int .i64 q.num, .slice q.at_ q.args.length q.cap] 28))
      have HQW := Lib.hid (Blk.new wr #[.string q.dof, .string q.name, .int .i64 q.num, .slice q.at_ q.args.length q.cap] 28)
      have HOW := Lib.hid (World.ownsRow.alloc HOWN.out (.cells #[.string q.dof, .string q.name, .int .i64 q.num, .slice q.at_ q.args.length q.cap] 28))
      have HVW := Lib.hid (HV.out.next ((Below.refl _ _).alloc (Nat.le_refl _) (.cells #[.string q.dof, .string q.name, .int .i64 q.num, .slice q.at_ q.args.length q.cap] 28)))
      clear x0 x1 x2 x3 HP0
      generalize wr.alloc (.cells #[.string q.dof, .string q.name, .int .i64 q.num, .slice q.at_ q.args.length q.cap] 28) = w0 at HBW HKW HQW HOW HVW ⊢
      have HSF := Lib.hid (fun W (hW : Below w0.heap.size w0 W) => (show P7 w.heap.size wr.heap.size t q W from by
        have k1 := HKW.out.below hW HKW.out.lt
        have k2 := HQW.out.below hW HQW.out.lt
        exact ⟨k1.cell 0, k1.cell 1, k1.cell 2, k2.cell 0, k2.cell 1, k2.cell 2, k2.cell 3⟩))
      have HZ0 := Lib.hid (Below.refl w0.heap.size w0)
      have HROWS := Lib.hid (fun (W : World) (hW : Below w.heap.size w W) => (by
        have hl : (ps.take k).length = k := by simp; omega
        have h := rows_any (some ⟨b0, off, none⟩) (ps.take k) cp W (by omega) (by rw [List.map_take]; exact RowAt.take ((HP.out.at_ hW hW.size).row) k) (fun q hq => (HP.out.each q (List.mem_of_mem_take hq)).at_ hW hW.size)
        rw [hl] at h
        exact h : Calls Tryz.prog 45 #[.slice (some ⟨b0, off, none⟩) k cp] W fun e w' => Below W.heap.size W w' ∧ ∃ v, e = .returned v ∧ RowsO W.heap.size w' v (ps.take k) k))
      have HSEEK := Lib.hid (fun (W : World) (bt bp : Nat) (A9 : Option Addr) (c9 : Nat) (hW : Below w.heap.size w W) (hV : VEnv Z l L W) (kt : Blk W bt #[.string t.dof, .string t.name, .slice t.at_ t.args.length t.cap] 25) (kp : Blk W bp #[.string q.dof, .string q.name, .int .i64 q.num, .slice q.at_ q.args.length q.cap] 28) (ro : RowsO w.heap.size W (.slice A9 k c9) (ps.take k) k) =>
        seek_one Z l L HR2.out A t _ ps HASKED.out k q HQ.out W (H.out.next hW) hV w.heap.size bt bp A9 c9 kt kp ro)
      obtain ⟨z, hz⟩ : ∃ z, (!idle l t ps k) = z := ⟨_, rfl⟩
      have HU1 := Lib.hid (fun (hh : z = true) => (show idleL l t ps (k + 1) = idleL l t ps k from idleL_no (by rw [← hz] at hh; simpa using hh)))
      have HU2 := Lib.hid (fun (hh : z = false) => (show idleL l t ps (k + 1) = idleL l t ps k ++ [.int .i64 (k : Nat)] from idleL_yes (by rw [← hz] at hh; simpa using hh)))
      have HUL := Lib.hid (show (idleL l t ps k).length ≤ 12 by have := idleL_len l t ps k; omega)
      rw [hz] at HSEEK
      clear hz
      refine region_ord (P7 w.heap.size wr.heap.size t q) (.read 0 (.read 1 (.read 3 (.read 4 (.read 5 (.read 7 (.three 2 (.two 6 (.one 8 (.one 9 (.read 10 (.read 11 (.read 12 (.one 13 (.one 14 .done))))))) 8 (.one 6 (.one 9 (.read 10 (.read 11 (.read 12 (.one 13 (.one 14 .done)))))))) 6 (.two 2 (.one 8 (.one 9 (.read 10 (.read 11 (.read 12 (.one 13 (.one 14 .done))))))) 8 (.one 2 (.one 9 (.read 10 (.read 11 (.read 12 (.one 13 (.one 14 .done)))))))) 8 (.two 2 (.one 6 (.one 9 (.read 10 (.read 11 (.read 12 (.one 13 (.one 14 .done))))))) 6 (.one 2 (.one 9 (.read 10 (.read 11 (.read 12 (.one 13 (.one 14 .done))))))))))))))) (by kernel_rfl) (by kernel_rfl) (HSF.out _ HZ0.out.drew) ?_
      iterate 6
        refine wpOrd_read _ ?_ rfl (by rfl) (fun W hW => ?_) ?_
        rotate_left
        · unfold P7 at hW
          go_simp
          try with_reducible rfl
        simp only [Act.put, List.setIfInBounds_toArray, List.set_cons_zero, List.set_cons_succ]
      refine ⟨?_, ?_, ?_⟩
      · refine stepAt_of _ rfl rfl (fun K hK => ?_)
        go_simp
        have KT := Lib.hid (show Blk ((w0.alloc (.cells #[.string t.dof, .string t.name, .slice t.at_ t.args.length t.cap] 25)).drew) w0.heap.size #[.string t.dof, .string t.name, .slice t.at_ t.args.length t.cap] 25 from Blk.new w0 _ _)
        have HS1 := Lib.hid (show Below w0.heap.size w0 ((w0.alloc (.cells #[.string t.dof, .string t.name, .slice t.at_ t.args.length t.cap] 25)).drew) from ((Below.refl _ _).alloc (Nat.le_refl _) _).drew)
        have HZ1 := Lib.hid (HZ0.out.trans (HS1.out.mono HZ0.out.size))
        refine hK _ _ ⟨HSF.out _ HZ1.out, ?_⟩
        clear hK K
        generalize ((w0.alloc (.cells #[.string t.dof, .string t.name, .slice t.at_ t.args.length t.cap] 25)).drew) = wx1 at KT HS1 HZ1 ⊢
        refine wpOrd_two ?_ ?_
        · refine stepAt_of _ rfl rfl (fun K hK => ?_)
          go_simp
          have HD := Lib.hid (HBW.out.trans (HZ1.out.mono HBW.out.size))
          refine Calls.mono (HROWS.out _ HD.out) ?_
          rintro e wx2 ⟨hb9, v9, rfl, hro⟩
          obtain ⟨rs9, A9, c9, hr1, rfl, hr2, hr3⟩ := hro
          have RO : Hid (RowsO w.heap.size wx2 (.slice A9 k c9) (ps.take k) k) := Lib.hid ⟨rs9, A9, c9, hr1, rfl, own_wide hr2 HD.out.size, hr3⟩
          have HS2 := Lib.hid (show Below wx1.heap.size wx1 wx2 from hb9)
          have KT := Lib.hid (KT.out.below HS2.out KT.out.lt)
          have HZ2 := Lib.hid (HZ1.out.trans (HS2.out.mono HZ1.out.size))
          refine hK _ _ ⟨HSF.out _ HZ2.out, ?_⟩
          clear hK K hb9 hr1 hr2 hr3
          refine wpOrd_one ?_
          · refine stepAt_of _ rfl rfl (fun K hK => ?_)
            go_simp
            have KP := Lib.hid (show Blk (wx2.alloc (.cells #[.string q.dof, .string q.name, .int .i64 q.num, .slice q.at_ q.args.length q.cap] 28)) wx2.heap.size #[.string q.dof, .string q.name, .int .i64 q.num, .slice q.at_ q.args.length q.cap] 28 from Blk.new wx2 _ _)
            have HS3 := Lib.hid (show Below wx2.heap.size wx2 (wx2.alloc (.cells #[.string q.dof, .string q.name, .int .i64 q.num, .slice q.at_ q.args.length q.cap] 28)) from (Below.refl _ _).alloc (Nat.le_refl _) _)
            have KT := Lib.hid (KT.out.below HS3.out KT.out.lt)
            have RO := Lib.hid (RO.out.keep HS3.out)
            have HZ3 := Lib.hid (HZ2.out.trans (HS3.out.mono HZ2.out.size))
            refine hK _ _ ⟨HSF.out _ HZ3.out, ?_⟩
            clear hK K
            generalize (wx2.alloc (.cells #[.string q.dof, .string q.name, .int .i64 q.num, .slice q.at_ q.args.length q.cap] 28)) = wx3 at KP HS3 HZ3 KT RO ⊢
            refine wpOrd_one ?_
            refine stepAt_of _ rfl rfl (fun K hK => ?_)
            go_simp
            refine Calls.mono (HSEEK.out _ _ _ _ _ (HBW.out.trans (HZ3.out.mono HBW.out.size)) (HVW.out.next HZ3.out) KT.out KP.out RO.out) ?_
            rintro e wz ⟨hsz, vz, rfl⟩
            have HSZ := Lib.hid hsz
            have HPZ := Lib.hid (show P7 w.heap.size wr.heap.size t q wz from by
              have k1 := hsz.blk (HKW.out.below HZ3.out HKW.out.lt) (by decide)
              have k2 := hsz.blk (HQW.out.below HZ3.out HQW.out.lt) (by decide)
              exact ⟨k1.cell 0, k1.cell 1, k1.cell 2, k2.cell 0, k2.cell 1, k2.cell 2, k2.cell 3⟩)
            refine hK _ _ ⟨HPZ.out, ?_⟩
            clear hK K hsz
            refine wpOrd_read _ ?_ rfl (by rfl) (fun W hW => ?_) ?_
            rotate_left
            · unfold P7 at hW
              go_simp
              try with_reducible rfl
            simp only [Act.put, List.setIfInBounds_toArray, List.set_cons_zero, List.set_cons_succ]
            refine wpOrd_read _ ?_ rfl (by rfl) (fun W hW => ?_) ?_
            rotate_left
            · unfold P7 at hW
              go_simp
              try with_reducible rfl
            simp only [Act.put, List.setIfInBounds_toArray, List.set_cons_zero, List.set_cons_succ]
            refine wpOrd_read _ ?_ rfl (by rfl) (fun W hW => ?_) ?_
            rotate_left
            · unfold P7 at hW
              go_simp
              try with_reducible rfl
            simp only [Act.put, List.setIfInBounds_toArray, List.set_cons_zero, List.set_cons_succ]
            iterate 2
              refine wpOrd_one ?_
              refine stepAt_of _ rfl rfl (fun K hK => ?_)
              go_simp
              refine hK _ _ ⟨HPZ.out, ?_⟩
              clear hK K
            refine wpOrd_done ?_
            refine NoPanic.normal ?_
            have HBZ := Lib.hid ((HBW.out.trans (HZ3.out.mono HBW.out.size)).trans (HSZ.out.below (by have := HBW.out.size; have := HZ3.out.size; omega) HZB.out))
            have HKZ := Lib.hid (HSZ.out.blk (HKW.out.below HZ3.out HKW.out.lt) (by decide))
            have HOZ := Lib.hid (HSZ.out.own (row_stays HOW.out fun i hi => HZ3.out.block i (HOW.out.lt i hi).2) (by decide))
            have HVZ := Lib.hid ((HVW.out.next HZ3.out).sm HSZ.out)
            have hzs := HKZ.out.lt
            cases z
            case true =>
              go_wp2_with fail
              exact ⟨⟨k + 1, by go_num, by omega, HBZ.out, HKZ.out, Lib.hid ⟨A', c', by rw [HU1.out (by simp)], by rw [HU1.out (by simp)]; exact HOZ.out⟩, HVZ.out⟩, by simp [intOf]; omega⟩
            case false =>
              go_wp2_with (at_builtin; go_must (refine wpList_append_own_at _ rfl (.tmp 47) (.tmp 49) 41 rfl (w.heap.size + 1) 3 i0 _ 1 8 Tryz.underlying41 hi hz0 hz1 hz2 rfl (by decide) (.slice A' (idleL l t ps k).length c') (idleL l t ps k).length (idleL l t ps k) rfl (HOZ.out.alloc _) ⟨wz.heap.size, 0, none⟩ 1 1 [.int .i64 k] rfl rfl (World.news_of_block (heap_alloc_new wz _)) (by simp [Value.oneCell']) (by have := HUL.out; unfold maxLen; omega) (by have := HUL.out; omega) (by first | omega | (simp; omega)) ?_))
              intro v' w9 hown hgrow _ _
              obtain ⟨A5, c5, rfl, -⟩ := row_slice hown
              have hb9 : Below w.heap.size w w9 := (HBZ.out.alloc HBZ.out.size _).grown hgrow (by simp; omega) (fun i hi => by have := (HOZ.out.lt i hi).1; omega)
              have hk9 : Blk w9 w.heap.size _ _ := (hgrow.block _ (by simp; omega) (fun e => by have := (HOZ.out.lt _ e.symm).1; omega)).trans (HKZ.out.alloc _)
              have HB9 := Lib.hid hb9
              have HK9 := Lib.hid hk9
              have HO9 := Lib.hid hown
              have HV9 := Lib.hid (show VEnv Z l L w9 from ⟨SkAt.grown (HVZ.out.sk.next ((Below.refl _ _).alloc (Nat.le_refl _) (.cells #[.int .i64 k] 3))) (HOZ.out.alloc _) hgrow, fun d hd => ⟨(H.out.next HB9.out).dts.each d hd, H.out.dlen d hd⟩⟩)
              clear hown hgrow hb9 hk9
              go_wp2_with fail
              exact ⟨⟨k + 1, by go_num, by omega, HB9.out, HK9.out, Lib.hid ⟨A5, c5, by rw [HU2.out (by simp)]; simp, by rw [HU2.out (by simp)]; have := HO9.out; simpa using this⟩, HV9.out⟩, by simp [intOf]; omega⟩
        · refine stepAt_of _ rfl rfl (fun K hK => ?_)
          go_simp
          have KP := Lib.hid (show Blk (wx1.alloc (.cells #[.string q.dof, .string q.name, .int .i64 q.num, .slice q.at_ q.args.length q.cap] 28)) wx1.heap.size #[.string q.dof, .string q.name, .int .i64 q.num, .slice q.at_ q.args.length q.cap] 28 from Blk.new wx1 _ _)
          have HS2 := Lib.hid (show Below wx1.heap.size wx1 (wx1.alloc (.cells #[.string q.dof, .string q.name, .int .i64 q.num, .slice q.at_ q.args.length q.cap] 28)) from (Below.refl _ _).alloc (Nat.le_refl _) _)
          have KT := Lib.hid (KT.out.below HS2.out KT.out.lt)
          have HZ2 := Lib.hid (HZ1.out.trans (HS2.out.mono HZ1.out.size))
          refine hK _ _ ⟨HSF.out _ HZ2.out, ?_⟩
          clear hK K
          generalize (wx1.alloc (.cells #[.string q.dof, .string q.name, .int .i64 q.num, .slice q.at_ q.args.length q.cap] 28)) = wx2 at KP HS2 HZ2 KT ⊢
          refine wpOrd_one ?_
          · refine stepAt_of _ rfl rfl (fun K hK => ?_)
            go_simp
            have HD := Lib.hid (HBW.out.trans (HZ2.out.mono HBW.out.size))
            refine Calls.mono (HROWS.out _ HD.out) ?_
            rintro e wx3 ⟨hb9, v9, rfl, hro⟩
            obtain ⟨rs9, A9, c9, hr1, rfl, hr2, hr3⟩ := hro
            have RO : Hid (RowsO w.heap.size wx3 (.slice A9 k c9) (ps.take k) k) := Lib.hid ⟨rs9, A9, c9, hr1, rfl, own_wide hr2 HD.out.size, hr3⟩
            have HS3 := Lib.hid (show Below wx2.heap.size wx2 wx3 from hb9)
            have KT := Lib.hid (KT.out.below HS3.out KT.out.lt)
            have KP := Lib.hid (KP.out.below HS3.out KP.out.lt)
            have HZ3 := Lib.hid (HZ2.out.trans (HS3.out.mono HZ2.out.size))
            refine hK _ _ ⟨HSF.out _ HZ3.out, ?_⟩
            clear hK K hb9 hr1 hr2 hr3
            refine wpOrd_one ?_
            refine stepAt_of _ rfl rfl (fun K hK => ?_)
            go_simp
            refine Calls.mono (HSEEK.out _ _ _ _ _ (HBW.out.trans (HZ3.out.mono HBW.out.size)) (HVW.out.next HZ3.out) KT.out KP.out RO.out) ?_
            rintro e wz ⟨hsz, vz, rfl⟩
            have HSZ := Lib.hid hsz
            have HPZ := Lib.hid (show P7 w.heap.size wr.heap.size t q wz from by
              have k1 := hsz.blk (HKW.out.below HZ3.out HKW.out.lt) (by decide)
              have k2 := hsz.blk (HQW.out.below HZ3.out HQW.out.lt) (by decide)
              exact ⟨k1.cell 0, k1.cell 1, k1.cell 2, k2.cell 0, k2.cell 1, k2.cell 2, k2.cell 3⟩)
            refine hK _ _ ⟨HPZ.out, ?_⟩
            clear hK K hsz
            refine wpOrd_read _ ?_ rfl (by rfl) (fun W hW => ?_) ?_
            rotate_left
            · unfold P7 at hW
              go_simp
              try with_reducible rfl
            simp only [Act.put, List.setIfInBounds_toArray, List.set_cons_zero, List.set_cons_succ]
            refine wpOrd_read _ ?_ rfl (by rfl) (fun W hW => ?_) ?_
            rotate_left
            · unfold P7 at hW
              go_simp
              try with_reducible rfl
            simp only [Act.put, List.setIfInBounds_toArray, List.set_cons_zero, List.set_cons_succ]
            refine wpOrd_read _ ?_ rfl (by rfl) (fun W hW => ?_) ?_
            rotate_left
            · unfold P7 at hW
              go_simp
              try with_reducible rfl
            simp only [Act.put, List.setIfInBounds_toArray, List.set_cons_zero, List.set_cons_succ]
            iterate 2
              refine wpOrd_one ?_
              refine stepAt_of _ rfl rfl (fun K hK => ?_)
              go_simp
              refine hK _ _ ⟨HPZ.out, ?_⟩
              clear hK K
            refine wpOrd_done ?_
            refine NoPanic.normal ?_
            have HBZ := Lib.hid ((HBW.out.trans (HZ3.out.mono HBW.out.size)).trans (HSZ.out.below (by have := HBW.out.size; have := HZ3.out.size; omega) HZB.out))
            have HKZ := Lib.hid (HSZ.out.blk (HKW.out.below HZ3.out HKW.out.lt) (by decide))
            have HOZ := Lib.hid (HSZ.out.own (row_stays HOW.out fun i hi => HZ3.out.block i (HOW.out.lt i hi).2) (by decide))
            have HVZ := Lib.hid ((HVW.out.next HZ3.out).sm HSZ.out)
            have hzs := HKZ.out.lt
            cases z
            case true =>
              go_wp2_with fail
              exact ⟨⟨k + 1, by go_num, by omega, HBZ.out, HKZ.out, Lib.hid ⟨A', c', by rw [HU1.out (by simp)], by rw [HU1.out (by simp)]; exact HOZ.out⟩, HVZ.out⟩, by simp [intOf]; omega⟩
            case false =>
              go_wp2_with (at_builtin; go_must (refine wpList_append_own_at _ rfl (.tmp 47) (.tmp 49) 41 rfl (w.heap.size + 1) 3 i0 _ 1 8 Tryz.underlying41 hi hz0 hz1 hz2 rfl (by decide) (.slice A' (idleL l t ps k).length c') (idleL l t ps k).length (idleL l t ps k) rfl (HOZ.out.alloc _) ⟨wz.heap.size, 0, none⟩ 1 1 [.int .i64 k] rfl rfl (World.news_of_block (heap_alloc_new wz _)) (by simp [Value.oneCell']) (by have := HUL.out; unfold maxLen; omega) (by have := HUL.out; omega) (by first | omega | (simp; omega)) ?_))
              intro v' w9 hown hgrow _ _
              obtain ⟨A5, c5, rfl, -⟩ := row_slice hown
              have hb9 : Below w.heap.size w w9 := (HBZ.out.alloc HBZ.out.size _).grown hgrow (by simp; omega) (fun i hi => by have := (HOZ.out.lt i hi).1; omega)
              have hk9 : Blk w9 w.heap.size _ _ := (hgrow.block _ (by simp; omega) (fun e => by have := (HOZ.out.lt _ e.symm).1; omega)).trans (HKZ.out.alloc _)
              have HB9 := Lib.hid hb9
              have HK9 := Lib.hid hk9
              have HO9 := Lib.hid hown
              have HV9 := Lib.hid (show VEnv Z l L w9 from ⟨SkAt.grown (HVZ.out.sk.next ((Below.refl _ _).alloc (Nat.le_refl _) (.cells #[.int .i64 k] 3))) (HOZ.out.alloc _) hgrow, fun d hd => ⟨(H.out.next HB9.out).dts.each d hd, H.out.dlen d hd⟩⟩)
              clear hown hgrow hb9 hk9
              go_wp2_with fail
              exact ⟨⟨k + 1, by go_num, by omega, HB9.out, HK9.out, Lib.hid ⟨A5, c5, by rw [HU2.out (by simp)]; simp, by rw [HU2.out (by simp)]; have := HO9.out; simpa using this⟩, HV9.out⟩, by simp [intOf]; omega⟩
      · refine stepAt_of _ rfl rfl (fun K hK => ?_)
        go_simp
        have HD := Lib.hid (show Below w.heap.size w w0.drew from (HBW.out.trans (HZ0.out.mono HBW.out.size)).drew)
        refine Calls.mono (HROWS.out _ HD.out) ?_
        rintro e wx1 ⟨hb9, v9, rfl, hro⟩
        obtain ⟨rs9, A9, c9, hr1, rfl, hr2, hr3⟩ := hro
        have RO : Hid (RowsO w.heap.size wx1 (.slice A9 k c9) (ps.take k) k) := Lib.hid ⟨rs9, A9, c9, hr1, rfl, own_wide hr2 HD.out.size, hr3⟩
        have HS1 := Lib.hid (show Below w0.heap.size w0 wx1 from (Below.refl _ _).drew.trans hb9)
        have HZ1 := Lib.hid (HZ0.out.trans (HS1.out.mono HZ0.out.size))
        refine hK _ _ ⟨HSF.out _ HZ1.out, ?_⟩
        clear hK K hb9 hr1 hr2 hr3
        refine wpOrd_two ?_ ?_
        · refine stepAt_of _ rfl rfl (fun K hK => ?_)
          go_simp
          have KT := Lib.hid (show Blk (wx1.alloc (.cells #[.string t.dof, .string t.name, .slice t.at_ t.args.length t.cap] 25)) wx1.heap.size #[.string t.dof, .string t.name, .slice t.at_ t.args.length t.cap] 25 from Blk.new wx1 _ _)
          have HS2 := Lib.hid (show Below wx1.heap.size wx1 (wx1.alloc (.cells #[.string t.dof, .string t.name, .slice t.at_ t.args.length t.cap] 25)) from (Below.refl _ _).alloc (Nat.le_refl _) _)
          have RO := Lib.hid (RO.out.keep HS2.out)
          have HZ2 := Lib.hid (HZ1.out.trans (HS2.out.mono HZ1.out.size))
          refine hK _ _ ⟨HSF.out _ HZ2.out, ?_⟩
          clear hK K
          generalize (wx1.alloc (.cells #[.string t.dof, .string t.name, .slice t.at_ t.args.length t.cap] 25)) = wx2 at KT HS2 HZ2 RO ⊢
          refine wpOrd_one ?_
          · refine stepAt_of _ rfl rfl (fun K hK => ?_)
            go_simp
            have KP := Lib.hid (show Blk (wx2.alloc (.cells #[.string q.dof, .string q.name, .int .i64 q.num, .slice q.at_ q.args.length q.cap] 28)) wx2.heap.size #[.string q.dof, .string q.name, .int .i64 q.num, .slice q.at_ q.args.length q.cap] 28 from Blk.new wx2 _ _)
            have HS3 := Lib.hid (show Below wx2.heap.size wx2 (wx2.alloc (.cells #[.string q.dof, .string q.name, .int .i64 q.num, .slice q.at_ q.args.length q.cap] 28)) from (Below.refl _ _).alloc (Nat.le_refl _) _)
            have RO := Lib.hid (RO.out.keep HS3.out)
            have KT := Lib.hid (KT.out.below HS3.out KT.out.lt)
            have HZ3 := Lib.hid (HZ2.out.trans (HS3.out.mono HZ2.out.size))
            refine hK _ _ ⟨HSF.out _ HZ3.out, ?_⟩
            clear hK K
            generalize (wx2.alloc (.cells #[.string q.dof, .string q.name, .int .i64 q.num, .slice q.at_ q.args.length q.cap] 28)) = wx3 at KP HS3 HZ3 RO KT ⊢
            refine wpOrd_one ?_
            refine stepAt_of _ rfl rfl (fun K hK => ?_)
            go_simp
            refine Calls.mono (HSEEK.out _ _ _ _ _ (HBW.out.trans (HZ3.out.mono HBW.out.size)) (HVW.out.next HZ3.out) KT.out KP.out RO.out) ?_
            rintro e wz ⟨hsz, vz, rfl⟩
            have HSZ := Lib.hid hsz
            have HPZ := Lib.hid (show P7 w.heap.size wr.heap.size t q wz from by
              have k1 := hsz.blk (HKW.out.below HZ3.out HKW.out.lt) (by decide)
              have k2 := hsz.blk (HQW.out.below HZ3.out HQW.out.lt) (by decide)
              exact ⟨k1.cell 0, k1.cell 1, k1.cell 2, k2.cell 0, k2.cell 1, k2.cell 2, k2.cell 3⟩)
            refine hK _ _ ⟨HPZ.out, ?_⟩
            clear hK K hsz
            refine wpOrd_read _ ?_ rfl (by rfl) (fun W hW => ?_) ?_
            rotate_left
            · unfold P7 at hW
              go_simp
              try with_reducible rfl
            simp only [Act.put, List.setIfInBounds_toArray, List.set_cons_zero, List.set_cons_succ]
            refine wpOrd_read _ ?_ rfl (by rfl) (fun W hW => ?_) ?_
            rotate_left
            · unfold P7 at hW
              go_simp
              try with_reducible rfl
            simp only [Act.put, List.setIfInBounds_toArray, List.set_cons_zero, List.set_cons_succ]
            refine wpOrd_read _ ?_ rfl (by rfl) (fun W hW => ?_) ?_
            rotate_left
            · unfold P7 at hW
              go_simp
              try with_reducible rfl
            simp only [Act.put, List.setIfInBounds_toArray, List.set_cons_zero, List.set_cons_succ]
            iterate 2
              refine wpOrd_one ?_
              refine stepAt_of _ rfl rfl (fun K hK => ?_)
              go_simp
              refine hK _ _ ⟨HPZ.out, ?_⟩
              clear hK K
            refine wpOrd_done ?_
            refine NoPanic.normal ?_
            have HBZ := Lib.hid ((HBW.out.trans (HZ3.out.mono HBW.out.size)).trans (HSZ.out.below (by have := HBW.out.size; have := HZ3.out.size; omega) HZB.out))
            have HKZ := Lib.hid (HSZ.out.blk (HKW.out.below HZ3.out HKW.out.lt) (by decide))
            have HOZ := Lib.hid (HSZ.out.own (row_stays HOW.out fun i hi => HZ3.out.block i (HOW.out.lt i hi).2) (by decide))
            have HVZ := Lib.hid ((HVW.out.next HZ3.out).sm HSZ.out)
            have hzs := HKZ.out.lt
            cases z
            case true =>
              go_wp2_with fail
              exact ⟨⟨k + 1, by go_num, by omega, HBZ.out, HKZ.out, Lib.hid ⟨A', c', by rw [HU1.out (by simp)], by rw [HU1.out (by simp)]; exact HOZ.out⟩, HVZ.out⟩, by simp [intOf]; omega⟩
            case false =>
              go_wp2_with (at_builtin; go_must (refine wpList_append_own_at _ rfl (.tmp 47) (.tmp 49) 41 rfl (w.heap.size + 1) 3 i0 _ 1 8 Tryz.underlying41 hi hz0 hz1 hz2 rfl (by decide) (.slice A' (idleL l t ps k).length c') (idleL l t ps k).length (idleL l t ps k) rfl (HOZ.out.alloc _) ⟨wz.heap.size, 0, none⟩ 1 1 [.int .i64 k] rfl rfl (World.news_of_block (heap_alloc_new wz _)) (by simp [Value.oneCell']) (by have := HUL.out; unfold maxLen; omega) (by have := HUL.out; omega) (by first | omega | (simp; omega)) ?_))
              intro v' w9 hown hgrow _ _
              obtain ⟨A5, c5, rfl, -⟩ := row_slice hown
              have hb9 : Below w.heap.size w w9 := (HBZ.out.alloc HBZ.out.size _).grown hgrow (by simp; omega) (fun i hi => by have := (HOZ.out.lt i hi).1; omega)
              have hk9 : Blk w9 w.heap.size _ _ := (hgrow.block _ (by simp; omega) (fun e => by have := (HOZ.out.lt _ e.symm).1; omega)).trans (HKZ.out.alloc _)
              have HB9 := Lib.hid hb9
              have HK9 := Lib.hid hk9
              have HO9 := Lib.hid hown
              have HV9 := Lib.hid (show VEnv Z l L w9 from ⟨SkAt.grown (HVZ.out.sk.next ((Below.refl _ _).alloc (Nat.le_refl _) (.cells #[.int .i64 k] 3))) (HOZ.out.alloc _) hgrow, fun d hd => ⟨(H.out.next HB9.out).dts.each d hd, H.out.dlen d hd⟩⟩)
              clear hown hgrow hb9 hk9
              go_wp2_with fail
              exact ⟨⟨k + 1, by go_num, by omega, HB9.out, HK9.out, Lib.hid ⟨A5, c5, by rw [HU2.out (by simp)]; simp, by rw [HU2.out (by simp)]; have := HO9.out; simpa using this⟩, HV9.out⟩, by simp [intOf]; omega⟩
        · refine stepAt_of _ rfl rfl (fun K hK => ?_)
          go_simp
          have KP := Lib.hid (show Blk (wx1.alloc (.cells #[.string q.dof, .string q.name, .int .i64 q.num, .slice q.at_ q.args.length q.cap] 28)) wx1.heap.size #[.string q.dof, .string q.name, .int .i64 q.num, .slice q.at_ q.args.length q.cap] 28 from Blk.new wx1 _ _)
          have HS2 := Lib.hid (show Below wx1.heap.size wx1 (wx1.alloc (.cells #[.string q.dof, .string q.name, .int .i64 q.num, .slice q.at_ q.args.length q.cap] 28)) from (Below.refl _ _).alloc (Nat.le_refl _) _)
          have RO := Lib.hid (RO.out.keep HS2.out)
          have HZ2 := Lib.hid (HZ1.out.trans (HS2.out.mono HZ1.out.size))
          refine hK _ _ ⟨HSF.out _ HZ2.out, ?_⟩
          clear hK K
          generalize (wx1.alloc (.cells #[.string q.dof, .string q.name, .int .i64 q.num, .slice q.at_ q.args.length q.cap] 28)) = wx2 at KP HS2 HZ2 RO ⊢
          refine wpOrd_one ?_
          · refine stepAt_of _ rfl rfl (fun K hK => ?_)
            go_simp
            have KT := Lib.hid (show Blk (wx2.alloc (.cells #[.string t.dof, .string t.name, .slice t.at_ t.args.length t.cap] 25)) wx2.heap.size #[.string t.dof, .string t.name, .slice t.at_ t.args.length t.cap] 25 from Blk.new wx2 _ _)
            have HS3 := Lib.hid (show Below wx2.heap.size wx2 (wx2.alloc (.cells #[.string t.dof, .string t.name, .slice t.at_ t.args.length t.cap] 25)) from (Below.refl _ _).alloc (Nat.le_refl _) _)
            have RO := Lib.hid (RO.out.keep HS3.out)
            have KP := Lib.hid (KP.out.below HS3.out KP.out.lt)
            have HZ3 := Lib.hid (HZ2.out.trans (HS3.out.mono HZ2.out.size))
            refine hK _ _ ⟨HSF.out _ HZ3.out, ?_⟩
            clear hK K
            generalize (wx2.alloc (.cells #[.string t.dof, .string t.name, .slice t.at_ t.args.length t.cap] 25)) = wx3 at KT HS3 HZ3 RO KP ⊢
            refine wpOrd_one ?_
            refine stepAt_of _ rfl rfl (fun K hK => ?_)
            go_simp
            refine Calls.mono (HSEEK.out _ _ _ _ _ (HBW.out.trans (HZ3.out.mono HBW.out.size)) (HVW.out.next HZ3.out) KT.out KP.out RO.out) ?_
            rintro e wz ⟨hsz, vz, rfl⟩
            have HSZ := Lib.hid hsz
            have HPZ := Lib.hid (show P7 w.heap.size wr.heap.size t q wz from by
              have k1 := hsz.blk (HKW.out.below HZ3.out HKW.out.lt) (by decide)
              have k2 := hsz.blk (HQW.out.below HZ3.out HQW.out.lt) (by decide)
              exact ⟨k1.cell 0, k1.cell 1, k1.cell 2, k2.cell 0, k2.cell 1, k2.cell 2, k2.cell 3⟩)
            refine hK _ _ ⟨HPZ.out, ?_⟩
            clear hK K hsz
            refine wpOrd_read _ ?_ rfl (by rfl) (fun W hW => ?_) ?_
            rotate_left
            · unfold P7 at hW
              go_simp
              try with_reducible rfl
            simp only [Act.put, List.setIfInBounds_toArray, List.set_cons_zero, List.set_cons_succ]
            refine wpOrd_read _ ?_ rfl (by rfl) (fun W hW => ?_) ?_
            rotate_left
            · unfold P7 at hW
              go_simp
              try with_reducible rfl
            simp only [Act.put, List.setIfInBounds_toArray, List.set_cons_zero, List.set_cons_succ]
            refine wpOrd_read _ ?_ rfl (by rfl) (fun W hW => ?_) ?_
            rotate_left
            · unfold P7 at hW
              go_simp
              try with_reducible rfl
            simp only [Act.put, List.setIfInBounds_toArray, List.set_cons_zero, List.set_cons_succ]
            iterate 2
              refine wpOrd_one ?_
              refine stepAt_of _ rfl rfl (fun K hK => ?_)
              go_simp
              refine hK _ _ ⟨HPZ.out, ?_⟩
              clear hK K
            refine wpOrd_done ?_
            refine NoPanic.normal ?_
            have HBZ := Lib.hid ((HBW.out.trans (HZ3.out.mono HBW.out.size)).trans (HSZ.out.below (by have := HBW.out.size; have := HZ3.out.size; omega) HZB.out))
            have HKZ := Lib.hid (HSZ.out.blk (HKW.out.below HZ3.out HKW.out.lt) (by decide))
            have HOZ := Lib.hid (HSZ.out.own (row_stays HOW.out fun i hi => HZ3.out.block i (HOW.out.lt i hi).2) (by decide))
            have HVZ := Lib.hid ((HVW.out.next HZ3.out).sm HSZ.out)
            have hzs := HKZ.out.lt
            cases z
            case true =>
              go_wp2_with fail
              exact ⟨⟨k + 1, by go_num, by omega, HBZ.out, HKZ.out, Lib.hid ⟨A', c', by rw [HU1.out (by simp)], by rw [HU1.out (by simp)]; exact HOZ.out⟩, HVZ.out⟩, by simp [intOf]; omega⟩
            case false =>
              go_wp2_with (at_builtin; go_must (refine wpList_append_own_at _ rfl (.tmp 47) (.tmp 49) 41 rfl (w.heap.size + 1) 3 i0 _ 1 8 Tryz.underlying41 hi hz0 hz1 hz2 rfl (by decide) (.slice A' (idleL l t ps k).length c') (idleL l t ps k).length (idleL l t ps k) rfl (HOZ.out.alloc _) ⟨wz.heap.size, 0, none⟩ 1 1 [.int .i64 k] rfl rfl (World.news_of_block (heap_alloc_new wz _)) (by simp [Value.oneCell']) (by have := HUL.out; unfold maxLen; omega) (by have := HUL.out; omega) (by first | omega | (simp; omega)) ?_))
              intro v' w9 hown hgrow _ _
              obtain ⟨A5, c5, rfl, -⟩ := row_slice hown
              have hb9 : Below w.heap.size w w9 := (HBZ.out.alloc HBZ.out.size _).grown hgrow (by simp; omega) (fun i hi => by have := (HOZ.out.lt i hi).1; omega)
              have hk9 : Blk w9 w.heap.size _ _ := (hgrow.block _ (by simp; omega) (fun e => by have := (HOZ.out.lt _ e.symm).1; omega)).trans (HKZ.out.alloc _)
              have HB9 := Lib.hid hb9
              have HK9 := Lib.hid hk9
              have HO9 := Lib.hid hown
              have HV9 := Lib.hid (show VEnv Z l L w9 from ⟨SkAt.grown (HVZ.out.sk.next ((Below.refl _ _).alloc (Nat.le_refl _) (.cells #[.int .i64 k] 3))) (HOZ.out.alloc _) hgrow, fun d hd => ⟨(H.out.next HB9.out).dts.each d hd, H.out.dlen d hd⟩⟩)
              clear hown hgrow hb9 hk9
              go_wp2_with fail
              exact ⟨⟨k + 1, by go_num, by omega, HB9.out, HK9.out, Lib.hid ⟨A5, c5, by rw [HU2.out (by simp)]; simp, by rw [HU2.out (by simp)]; have := HO9.out; simpa using this⟩, HV9.out⟩, by simp [intOf]; omega⟩
      · refine stepAt_of _ rfl rfl (fun K hK => ?_)
        go_simp
        have KP := Lib.hid (show Blk ((w0.alloc (.cells #[.string q.dof, .string q.name, .int .i64 q.num, .slice q.at_ q.args.length q.cap] 28)).drew) w0.heap.size #[.string q.dof, .string q.name, .int .i64 q.num, .slice q.at_ q.args.length q.cap] 28 from Blk.new w0 _ _)
        have HS1 := Lib.hid (show Below w0.heap.size w0 ((w0.alloc (.cells #[.string q.dof, .string q.name, .int .i64 q.num, .slice q.at_ q.args.length q.cap] 28)).drew) from ((Below.refl _ _).alloc (Nat.le_refl _) _).drew)
        have HZ1 := Lib.hid (HZ0.out.trans (HS1.out.mono HZ0.out.size))
        refine hK _ _ ⟨HSF.out _ HZ1.out, ?_⟩
        clear hK K
        generalize ((w0.alloc (.cells #[.string q.dof, .string q.name, .int .i64 q.num, .slice q.at_ q.args.length q.cap] 28)).drew) = wx1 at KP HS1 HZ1 ⊢
        refine wpOrd_two ?_ ?_
        · refine stepAt_of _ rfl rfl (fun K hK => ?_)
          go_simp
          have KT := Lib.hid (show Blk (wx1.alloc (.cells #[.string t.dof, .string t.name, .slice t.at_ t.args.length t.cap] 25)) wx1.heap.size #[.string t.dof, .string t.name, .slice t.at_ t.args.length t.cap] 25 from Blk.new wx1 _ _)
          have HS2 := Lib.hid (show Below wx1.heap.size wx1 (wx1.alloc (.cells #[.string t.dof, .string t.name, .slice t.at_ t.args.length t.cap] 25)) from (Below.refl _ _).alloc (Nat.le_refl _) _)
          have KP := Lib.hid (KP.out.below HS2.out KP.out.lt)
          have HZ2 := Lib.hid (HZ1.out.trans (HS2.out.mono HZ1.out.size))
          refine hK _ _ ⟨HSF.out _ HZ2.out, ?_⟩
          clear hK K
          generalize (wx1.alloc (.cells #[.string t.dof, .string t.name, .slice t.at_ t.args.length t.cap] 25)) = wx2 at KT HS2 HZ2 KP ⊢
          refine wpOrd_one ?_
          · refine stepAt_of _ rfl rfl (fun K hK => ?_)
            go_simp
            have HD := Lib.hid (HBW.out.trans (HZ2.out.mono HBW.out.size))
            refine Calls.mono (HROWS.out _ HD.out) ?_
            rintro e wx3 ⟨hb9, v9, rfl, hro⟩
            obtain ⟨rs9, A9, c9, hr1, rfl, hr2, hr3⟩ := hro
            have RO : Hid (RowsO w.heap.size wx3 (.slice A9 k c9) (ps.take k) k) := Lib.hid ⟨rs9, A9, c9, hr1, rfl, own_wide hr2 HD.out.size, hr3⟩
            have HS3 := Lib.hid (show Below wx2.heap.size wx2 wx3 from hb9)
            have KP := Lib.hid (KP.out.below HS3.out KP.out.lt)
            have KT := Lib.hid (KT.out.below HS3.out KT.out.lt)
            have HZ3 := Lib.hid (HZ2.out.trans (HS3.out.mono HZ2.out.size))
            refine hK _ _ ⟨HSF.out _ HZ3.out, ?_⟩
            clear hK K hb9 hr1 hr2 hr3
            refine wpOrd_one ?_
            refine stepAt_of _ rfl rfl (fun K hK => ?_)
            go_simp
            refine Calls.mono (HSEEK.out _ _ _ _ _ (HBW.out.trans (HZ3.out.mono HBW.out.size)) (HVW.out.next HZ3.out) KT.out KP.out RO.out) ?_
            rintro e wz ⟨hsz, vz, rfl⟩
            have HSZ := Lib.hid hsz
            have HPZ := Lib.hid (show P7 w.heap.size wr.heap.size t q wz from by
              have k1 := hsz.blk (HKW.out.below HZ3.out HKW.out.lt) (by decide)
              have k2 := hsz.blk (HQW.out.below HZ3.out HQW.out.lt) (by decide)
              exact ⟨k1.cell 0, k1.cell 1, k1.cell 2, k2.cell 0, k2.cell 1, k2.cell 2, k2.cell 3⟩)
            refine hK _ _ ⟨HPZ.out, ?_⟩
            clear hK K hsz
            refine wpOrd_read _ ?_ rfl (by rfl) (fun W hW => ?_) ?_
            rotate_left
            · unfold P7 at hW
              go_simp
              try with_reducible rfl
            simp only [Act.put, List.setIfInBounds_toArray, List.set_cons_zero, List.set_cons_succ]
            refine wpOrd_read _ ?_ rfl (by rfl) (fun W hW => ?_) ?_
            rotate_left
            · unfold P7 at hW
              go_simp
              try with_reducible rfl
            simp only [Act.put, List.setIfInBounds_toArray, List.set_cons_zero, List.set_cons_succ]
            refine wpOrd_read _ ?_ rfl (by rfl) (fun W hW => ?_) ?_
            rotate_left
            · unfold P7 at hW
              go_simp
              try with_reducible rfl
            simp only [Act.put, List.setIfInBounds_toArray, List.set_cons_zero, List.set_cons_succ]
            iterate 2
              refine wpOrd_one ?_
              refine stepAt_of _ rfl rfl (fun K hK => ?_)
              go_simp
              refine hK _ _ ⟨HPZ.out, ?_⟩
              clear hK K
            refine wpOrd_done ?_
            refine NoPanic.normal ?_
            have HBZ := Lib.hid ((HBW.out.trans (HZ3.out.mono HBW.out.size)).trans (HSZ.out.below (by have := HBW.out.size; have := HZ3.out.size; omega) HZB.out))
            have HKZ := Lib.hid (HSZ.out.blk (HKW.out.below HZ3.out HKW.out.lt) (by decide))
            have HOZ := Lib.hid (HSZ.out.own (row_stays HOW.out fun i hi => HZ3.out.block i (HOW.out.lt i hi).2) (by decide))
            have HVZ := Lib.hid ((HVW.out.next HZ3.out).sm HSZ.out)
            have hzs := HKZ.out.lt
            cases z
            case true =>
              go_wp2_with fail
              exact ⟨⟨k + 1, by go_num, by omega, HBZ.out, HKZ.out, Lib.hid ⟨A', c', by rw [HU1.out (by simp)], by rw [HU1.out (by simp)]; exact HOZ.out⟩, HVZ.out⟩, by simp [intOf]; omega⟩
            case false =>
              go_wp2_with (at_builtin; go_must (refine wpList_append_own_at _ rfl (.tmp 47) (.tmp 49) 41 rfl (w.heap.size + 1) 3 i0 _ 1 8 Tryz.underlying41 hi hz0 hz1 hz2 rfl (by decide) (.slice A' (idleL l t ps k).length c') (idleL l t ps k).length (idleL l t ps k) rfl (HOZ.out.alloc _) ⟨wz.heap.size, 0, none⟩ 1 1 [.int .i64 k] rfl rfl (World.news_of_block (heap_alloc_new wz _)) (by simp [Value.oneCell']) (by have := HUL.out; unfold maxLen; omega) (by have := HUL.out; omega) (by first | omega | (simp; omega)) ?_))
              intro v' w9 hown hgrow _ _
              obtain ⟨A5, c5, rfl, -⟩ := row_slice hown
              have hb9 : Below w.heap.size w w9 := (HBZ.out.alloc HBZ.out.size _).grown hgrow (by simp; omega) (fun i hi => by have := (HOZ.out.lt i hi).1; omega)
              have hk9 : Blk w9 w.heap.size _ _ := (hgrow.block _ (by simp; omega) (fun e => by have := (HOZ.out.lt _ e.symm).1; omega)).trans (HKZ.out.alloc _)
              have HB9 := Lib.hid hb9
              have HK9 := Lib.hid hk9
              have HO9 := Lib.hid hown
              have HV9 := Lib.hid (show VEnv Z l L w9 from ⟨SkAt.grown (HVZ.out.sk.next ((Below.refl _ _).alloc (Nat.le_refl _) (.cells #[.int .i64 k] 3))) (HOZ.out.alloc _) hgrow, fun d hd => ⟨(H.out.next HB9.out).dts.each d hd, H.out.dlen d hd⟩⟩)
              clear hown hgrow hb9 hk9
              go_wp2_with fail
              exact ⟨⟨k + 1, by go_num, by omega, HB9.out, HK9.out, Lib.hid ⟨A5, c5, by rw [HU2.out (by simp)]; simp, by rw [HU2.out (by simp)]; have := HO9.out; simpa using this⟩, HV9.out⟩, by simp [intOf]; omega⟩
        · refine stepAt_of _ rfl rfl (fun K hK => ?_)
          go_simp
          have HD := Lib.hid (HBW.out.trans (HZ1.out.mono HBW.out.size))
          refine Calls.mono (HROWS.out _ HD.out) ?_
          rintro e wx2 ⟨hb9, v9, rfl, hro⟩
          obtain ⟨rs9, A9, c9, hr1, rfl, hr2, hr3⟩ := hro
          have RO : Hid (RowsO w.heap.size wx2 (.slice A9 k c9) (ps.take k) k) := Lib.hid ⟨rs9, A9, c9, hr1, rfl, own_wide hr2 HD.out.size, hr3⟩
          have HS2 := Lib.hid (show Below wx1.heap.size wx1 wx2 from hb9)
          have KP := Lib.hid (KP.out.below HS2.out KP.out.lt)
          have HZ2 := Lib.hid (HZ1.out.trans (HS2.out.mono HZ1.out.size))
          refine hK _ _ ⟨HSF.out _ HZ2.out, ?_⟩
          clear hK K hb9 hr1 hr2 hr3
          refine wpOrd_one ?_
          · refine stepAt_of _ rfl rfl (fun K hK => ?_)
            go_simp
            have KT := Lib.hid (show Blk (wx2.alloc (.cells #[.string t.dof, .string t.name, .slice t.at_ t.args.length t.cap] 25)) wx2.heap.size #[.string t.dof, .string t.name, .slice t.at_ t.args.length t.cap] 25 from Blk.new wx2 _ _)
            have HS3 := Lib.hid (show Below wx2.heap.size wx2 (wx2.alloc (.cells #[.string t.dof, .string t.name, .slice t.at_ t.args.length t.cap] 25)) from (Below.refl _ _).alloc (Nat.le_refl _) _)
            have KP := Lib.hid (KP.out.below HS3.out KP.out.lt)
            have RO := Lib.hid (RO.out.keep HS3.out)
            have HZ3 := Lib.hid (HZ2.out.trans (HS3.out.mono HZ2.out.size))
            refine hK _ _ ⟨HSF.out _ HZ3.out, ?_⟩
            clear hK K
            generalize (wx2.alloc (.cells #[.string t.dof, .string t.name, .slice t.at_ t.args.length t.cap] 25)) = wx3 at KT HS3 HZ3 KP RO ⊢
            refine wpOrd_one ?_
            refine stepAt_of _ rfl rfl (fun K hK => ?_)
            go_simp
            refine Calls.mono (HSEEK.out _ _ _ _ _ (HBW.out.trans (HZ3.out.mono HBW.out.size)) (HVW.out.next HZ3.out) KT.out KP.out RO.out) ?_
            rintro e wz ⟨hsz, vz, rfl⟩
            have HSZ := Lib.hid hsz
            have HPZ := Lib.hid (show P7 w.heap.size wr.heap.size t q wz from by
              have k1 := hsz.blk (HKW.out.below HZ3.out HKW.out.lt) (by decide)
              have k2 := hsz.blk (HQW.out.below HZ3.out HQW.out.lt) (by decide)
              exact ⟨k1.cell 0, k1.cell 1, k1.cell 2, k2.cell 0, k2.cell 1, k2.cell 2, k2.cell 3⟩)
            refine hK _ _ ⟨HPZ.out, ?_⟩
            clear hK K hsz
            refine wpOrd_read _ ?_ rfl (by rfl) (fun W hW => ?_) ?_
            rotate_left
            · unfold P7 at hW
              go_simp
              try with_reducible rfl
            simp only [Act.put, List.setIfInBounds_toArray, List.set_cons_zero, List.set_cons_succ]
            refine wpOrd_read _ ?_ rfl (by rfl) (fun W hW => ?_) ?_
            rotate_left
            · unfold P7 at hW
              go_simp
              try with_reducible rfl
            simp only [Act.put, List.setIfInBounds_toArray, List.set_cons_zero, List.set_cons_succ]
            refine wpOrd_read _ ?_ rfl (by rfl) (fun W hW => ?_) ?_
            rotate_left
            · unfold P7 at hW
              go_simp
              try with_reducible rfl
            simp only [Act.put, List.setIfInBounds_toArray, List.set_cons_zero, List.set_cons_succ]
            iterate 2
              refine wpOrd_one ?_
              refine stepAt_of _ rfl rfl (fun K hK => ?_)
              go_simp
              refine hK _ _ ⟨HPZ.out, ?_⟩
              clear hK K
            refine wpOrd_done ?_
            refine NoPanic.normal ?_
            have HBZ := Lib.hid ((HBW.out.trans (HZ3.out.mono HBW.out.size)).trans (HSZ.out.below (by have := HBW.out.size; have := HZ3.out.size; omega) HZB.out))
            have HKZ := Lib.hid (HSZ.out.blk (HKW.out.below HZ3.out HKW.out.lt) (by decide))
            have HOZ := Lib.hid (HSZ.out.own (row_stays HOW.out fun i hi => HZ3.out.block i (HOW.out.lt i hi).2) (by decide))
            have HVZ := Lib.hid ((HVW.out.next HZ3.out).sm HSZ.out)
            have hzs := HKZ.out.lt
            cases z
            case true =>
              go_wp2_with fail
              exact ⟨⟨k + 1, by go_num, by omega, HBZ.out, HKZ.out, Lib.hid ⟨A', c', by rw [HU1.out (by simp)], by rw [HU1.out (by simp)]; exact HOZ.out⟩, HVZ.out⟩, by simp [intOf]; omega⟩
            case false =>
              go_wp2_with (at_builtin; go_must (refine wpList_append_own_at _ rfl (.tmp 47) (.tmp 49) 41 rfl (w.heap.size + 1) 3 i0 _ 1 8 Tryz.underlying41 hi hz0 hz1 hz2 rfl (by decide) (.slice A' (idleL l t ps k).length c') (idleL l t ps k).length (idleL l t ps k) rfl (HOZ.out.alloc _) ⟨wz.heap.size, 0, none⟩ 1 1 [.int .i64 k] rfl rfl (World.news_of_block (heap_alloc_new wz _)) (by simp [Value.oneCell']) (by have := HUL.out; unfold maxLen; omega) (by have := HUL.out; omega) (by first | omega | (simp; omega)) ?_))
              intro v' w9 hown hgrow _ _
              obtain ⟨A5, c5, rfl, -⟩ := row_slice hown
              have hb9 : Below w.heap.size w w9 := (HBZ.out.alloc HBZ.out.size _).grown hgrow (by simp; omega) (fun i hi => by have := (HOZ.out.lt i hi).1; omega)
              have hk9 : Blk w9 w.heap.size _ _ := (hgrow.block _ (by simp; omega) (fun e => by have := (HOZ.out.lt _ e.symm).1; omega)).trans (HKZ.out.alloc _)
              have HB9 := Lib.hid hb9
              have HK9 := Lib.hid hk9
              have HO9 := Lib.hid hown
              have HV9 := Lib.hid (show VEnv Z l L w9 from ⟨SkAt.grown (HVZ.out.sk.next ((Below.refl _ _).alloc (Nat.le_refl _) (.cells #[.int .i64 k] 3))) (HOZ.out.alloc _) hgrow, fun d hd => ⟨(H.out.next HB9.out).dts.each d hd, H.out.dlen d hd⟩⟩)
              clear hown hgrow hb9 hk9
              go_wp2_with fail
              exact ⟨⟨k + 1, by go_num, by omega, HB9.out, HK9.out, Lib.hid ⟨A5, c5, by rw [HU2.out (by simp)]; simp, by rw [HU2.out (by simp)]; have := HO9.out; simpa using this⟩, HV9.out⟩, by simp [intOf]; omega⟩
    · have hk2 : k = ps.length := by omega
      subst hk2
      go_wp2_with fail
      exact bodyPost_ret (by simp [results, Tryz.results18, go_sem]) rfl ⟨HB.out, .inl ⟨HZERO.out, _, rfl, A', c', rfl, own_wide HOWN.out (by omega)⟩⟩
end Go.Proofs.YtjeggkfgdhepaaaGreatDoor

/- The reference's opaque, parts and IsValue. -/
set_option linter.unusedVariables false
set_option linter.unusedSimpArgs false
namespace Go.Proofs.YtjeggkfgdhepaaaGreatDoor
open Go.RowKit
open Go.Proofs

set_option maxRecDepth 100000 in
set_option maxHeartbeats 2000000 in
theorem opaque_any (t : Ty) (w : World) : Calls Tryz.prog 49 #[t.val] w fun e w' => e = .returned (.bool (opaqueT t)) ∧ Below w.heap.size w w' := by
  have HB0 := Lib.hid ((Below.refl w.heap.size w).alloc (Nat.le_refl _) (.cells #[.string t.dof, .string t.name, .slice t.at_ t.args.length t.cap] 25))
  unfold opaqueT isDo Ty.val
  obtain ⟨b1, h1⟩ : ∃ x, (t.dof.toList == [116, 101, 120, 116]) = x := ⟨_, rfl⟩
  obtain ⟨b2, h2⟩ : ∃ x, (t.dof.toList == [97, 114, 114, 97, 121]) = x := ⟨_, rfl⟩
  obtain ⟨b3, h3⟩ : ∃ x, (t.dof.toList == [102, 110]) = x := ⟨_, rfl⟩
  rw [h1, h2, h3]
  cases b1 <;> cases b2 <;> cases b3
  all_goals
    go_enter Tryz.func49, Tryz.ntmps49
    go_wp2_with fail
    go_ret
    exact ⟨rfl, HB0.out⟩
/-- What the parts of a pattern of a type are. -/
theorem parts_pok {l : List Dt} (hr : Right l) {t : Ty} (ht : okT l t) {p : Pt} (hw : p.wellB = true) (htame : wildD p.dof = false) (h : p.isOf l t = true) : POks l (partsD l t p.dof p.name) p.args ∧ ∀ u ∈ partsD l t p.dof p.name, okT l u := by
  have hp : POk l t p := ⟨hw, h⟩
  have key : ∀ f : Form, FormOk l t f → Head p f → f.types = partsD l t p.dof p.name → POks l (partsD l t p.dof p.name) p.args ∧ ∀ u ∈ partsD l t p.dof p.name, okT l u := fun f hf hh e => by
    rw [← e]
    exact ⟨hf.pat p hh hp, hf.types⟩
  rcases isOf_head hw htame h with k | k | k | k | k | k | k
  · exact key _ (form_int k.2.2 p.num) ⟨k.1, k.2.1, rfl⟩ (by rw [k.1]; unfold partsD isDo; rw [l_int]; rfl)
  · exact key _ (form_bool k.2.2.2 p.num k.2.2.1) ⟨k.1, k.2.1, rfl⟩ (by rw [k.1]; unfold partsD isDo; rw [l_bool]; rfl)
  · exact key _ (form_unit k.2.2.2) ⟨k.1, k.2.1, k.2.2.1⟩ (by rw [k.1]; unfold partsD isDo; rw [l_unit]; rfl)
  · exact key _ (form_nil k.2.2.2) ⟨k.1, k.2.1, k.2.2.1⟩ (by rw [k.1]; unfold partsD isDo; rw [l_nil]; rfl)
  · exact key _ (form_pair ht k.2.2.2) ⟨k.1, k.2.1, k.2.2.1⟩ (by rw [k.1]; unfold partsD isDo; rw [l_pair]; rfl)
  · exact key _ (form_cons ht k.2.2.2) ⟨k.1, k.2.1, k.2.2.1⟩ (by rw [k.1]; unfold partsD isDo; rw [l_cons]; rfl)
  · obtain ⟨k1, k2, k3, c, hc, hcn⟩ := k
    exact key _ (form_con hr k3 hc) ⟨k1, hcn.symm, k2⟩ (by rw [k1, ← hcn, parts_con hr hc]; rfl)
theorem parts_in {B : Nat} {w : World} {A : Option Addr} {l : List Dt} (hd : DtsIn B w A l) {t : Ty} (ht : t.In B w) (d s : ByteArray) : ∀ u ∈ partsD l t d s, u.In B w := by
  have hta : ∀ u ∈ t.args, u.In B w := by
    obtain ⟨td, tn, ta, tc, ts⟩ := t
    exact (Ty.In_mk.1 ht).2.2.2.2.2
  intro u hu
  unfold partsD at hu
  split at hu
  · exact hta u hu
  · split at hu
    · rcases List.mem_append.1 hu with h | h
      · exact hta u (List.mem_of_mem_take h)
      · simp only [List.mem_singleton] at h
        subst h
        exact ht
    · split at hu
      · split at hu
        · rename_i c hc
          simp only [List.mem_singleton] at hu
          subst hu
          obtain ⟨d0, hd0, -, hcd, -⟩ := consOf_mem (List.mem_of_find?_eq_some hc)
          exact ((hd.each d0 hd0).2.2.2.2 c hcd).2
        · cases hu
      · cases hu
/-- The box of a type, and the row of its first Arg. -/
def STP (bt : Nat) (td tn : ByteArray) (b1 o1 n tc : Nat) (t0 : Ty) (W : World) : Prop :=
  W.cell? ⟨bt, 0, none⟩ = some (.string td) ∧ W.cell? ⟨bt, 1, none⟩ = some (.string tn) ∧ W.cell? ⟨bt, 2, none⟩ = some (.slice (some ⟨b1, o1, none⟩) n tc) ∧ bt < W.heap.size ∧ b1 < W.heap.size ∧
  W.cell? ⟨b1, o1, none⟩ = some (.string t0.dof) ∧ W.cell? ⟨b1, o1 + 1, none⟩ = some (.string t0.name) ∧ W.cell? ⟨b1, o1 + 2, none⟩ = some (.slice t0.at_ t0.args.length t0.cap)
def PartsP (pd : List Ty) (w : World) (e : Ending) (w' : World) : Prop := Below w.heap.size w w' ∧ ∃ (A : Option Addr) (c : Nat), e = .returned (.slice A pd.length c) ∧ RowAt w'.heap.size w' 3 A (pd.map Ty.cells)
set_option maxRecDepth 100000 in
set_option maxHeartbeats 8000000 in
theorem rparts_any (A : Option Addr) (l : List Dt) (c : Nat) (t : Ty) (d s : ByteArray) (n : Int) (Ap : Option Addr) (cp : Nat) (ps : List Pt) (w : World) (hd : DtsIn w.heap.size w A l) (ht : t.In w.heap.size w) (hone : (d.toList == [99, 111, 110, 115]) = true → t.args.length = 1) (hs : s.size ≤ 1099511627776) :
    Calls Tryz.prog 51 #[.slice A l.length c, t.val, (Pt.mk d s n Ap cp ps).val] w (PartsP (partsD l t d s) w) := by
  obtain ⟨td, tn, ta, tc, ts⟩ := t
  obtain ⟨-, -, -, -, htrow, htall⟩ := Ty.In_mk.1 ht
  have HD := Lib.hid hd
  have HT := Lib.hid ht
  have HTR := Lib.hid htrow
  have HB0 := Lib.hid (((Below.refl w.heap.size w).alloc (Nat.le_refl _) (.cells #[.string td, .string tn, .slice ta ts.length tc] 25)).alloc (by simp) (.cells #[.string d, .string s, .int .i64 n, .slice Ap ps.length cp] 28))
  have K1 := Lib.hid ((Blk.new w #[.string td, .string tn, .slice ta ts.length tc] 25).alloc (.cells #[.string d, .string s, .int .i64 n, .slice Ap ps.length cp] 28))
  have K2 := Lib.hid (Blk.new' (w.alloc (.cells #[.string td, .string tn, .slice ta ts.length tc] 25)) #[.string d, .string s, .int .i64 n, .slice Ap ps.length cp] 28 (w.heap.size + 1) (by simp))
  have HPT := Lib.hid (show partsD l (.mk td tn ta tc ts) d s = if isDo [112, 97, 105, 114] d then ts else if isDo [99, 111, 110, 115] d then ts.take 1 ++ [.mk td tn ta tc ts] else if isDo [99, 111, 110] d then (match (consOf l tn).find? (fun c => c.name.toList == s.toList && c.has) with | some c => [c.ty] | none => []) else [] from rfl)
  generalize partsD l (.mk td tn ta tc ts) d s = pd at HPT ⊢
  obtain ⟨tp, hp⟩ : ∃ x, (d.toList == [112, 97, 105, 114]) = x := ⟨_, rfl⟩
  obtain ⟨tcs, hcs⟩ : ∃ x, (d.toList == [99, 111, 110, 115]) = x := ⟨_, rfl⟩
  obtain ⟨tcn, hcn⟩ : ∃ x, (d.toList == [99, 111, 110]) = x := ⟨_, rfl⟩
  have HPD := Lib.hid HPT.out
  unfold isDo at HPD
  rw [hp, hcs, hcn] at HPD
  unfold Ty.val Pt.val
  simp only [Ty.dof, Ty.name, Ty.at_, Ty.cap, Ty.args, Pt.dof, Pt.name, Pt.num, Pt.at_, Pt.cap, Pt.args] at hone ⊢
  cases tp
  case true =>
    have hpd := HPD.out
    simp only [if_true] at hpd
    subst hpd
    clear hd ht htrow htall HPD HPT
    go_enter Tryz.func51, Tryz.ntmps51
    go_wp2_with fail
    exact bodyPost_ret (v := .slice ta pd.length tc) (by simp [results, Tryz.results51, go_sem]) rfl ⟨HB0.out, ta, tc, rfl, (HTR.out.keep HB0.out).wider HB0.out.size⟩
  cases tcs
  case true =>
    obtain ⟨t0, rfl⟩ := one_of (hone hcs)
    have hpd := HPD.out
    simp only [Bool.false_eq_true, if_false, if_true, List.take_succ_cons, List.take_zero, List.singleton_append] at hpd
    subst hpd
    obtain ⟨b1, o1, rfl, hb1, hc1⟩ := one_ty htrow
    have HC1 := Lib.hid hc1
    simp only [List.length_cons, List.length_nil, Nat.zero_add] at HB0 K1 K2 ⊢
    have hbox : ∀ W, Below ((w.alloc (.cells #[.string td, .string tn, .slice (some ⟨b1, o1, none⟩) 1 tc] 25)).alloc (.cells #[.string d, .string s, .int .i64 n, .slice Ap ps.length cp] 28)).heap.size ((w.alloc (.cells #[.string td, .string tn, .slice (some ⟨b1, o1, none⟩) 1 tc] 25)).alloc (.cells #[.string d, .string s, .int .i64 n, .slice Ap ps.length cp] 28)) W → STP w.heap.size td tn b1 o1 1 tc t0 W := fun W hW => by
      have k1 := K1.out.below hW K1.out.lt
      have hb := HB0.out.trans (hW.mono HB0.out.size)
      obtain ⟨q0, q1, q2⟩ := HC1.out W hb
      exact ⟨k1.cell 0, k1.cell 1, k1.cell 2, k1.lt, by have := hb.size; omega, q0, q1, q2⟩
    have HBOX := Lib.hid hbox
    clear hd ht htrow htall HPD HPT hc1 hbox
    go_enter Tryz.func51, Tryz.ntmps51
    go_wp2_with fail
    generalize (w.alloc (.cells #[.string td, .string tn, .slice (some ⟨b1, o1, none⟩) 1 tc] 25)).alloc (.cells #[.string d, .string s, .int .i64 n, .slice Ap ps.length cp] 28) = w0 at HB0 K1 K2 HBOX ⊢
    refine region_mix (STP w.heap.size td tn b1 o1 1 tc t0) [(0, true), (1, true), (2, true), (3, true), (4, true), (5, false), (6, false)] 5 (by kernel_rfl) (by kernel_rfl) (HBOX.out _ (Below.refl _ _).drew) ?_
    simp only [pickM, List.filterMap_cons, List.getElem?_cons_zero, List.getElem?_cons_succ, List.filterMap_nil, Option.map_some]
    iterate 5
      refine wpMix_read ?_ (by rfl) (fun W hW => ?_) ?_
      rotate_left
      · unfold STP at hW
        go_simp
        try with_reducible rfl
      simp only [Act.put, List.setIfInBounds_toArray, List.set_cons_zero, List.set_cons_succ]
    have HBG := Lib.hid (((Below.refl w0.heap.size w0).alloc (Nat.le_refl _) (.cells #[.string t0.dof, .string t0.name, .slice t0.at_ t0.args.length t0.cap, .string td, .string tn, .slice (some ⟨b1, o1, none⟩) 1 tc] 25)).drew)
    have HKG := Lib.hid ((Blk.new w0 #[.string t0.dof, .string t0.name, .slice t0.at_ t0.args.length t0.cap, .string td, .string tn, .slice (some ⟨b1, o1, none⟩) 1 tc] 25).drewN 1)
    refine wpMix_step rfl (fun K hK => ?_)
    go_simp
    refine hK _ _ (fun h => absurd h (by decide)) ?_
    clear hK K
    refine wpMix_step rfl (fun K hK => ?_)
    go_simp
    refine hK _ _ (fun h => absurd h (by decide)) ?_
    clear hK K
    refine wpMix_nil ?_
    refine NoPanic.normal ?_
    go_wp2_with fail
    exact bodyPost_ret (v := .slice (some ⟨w0.heap.size, 0, none⟩) 2 2) (by simp [results, Tryz.results51, go_sem]) rfl ⟨HB0.out.trans (HBG.out.mono HB0.out.size), some ⟨w0.heap.size, 0, none⟩, 2, rfl, row_tys (t0 := t0) (t1 := .mk td tn (some ⟨b1, o1, none⟩) tc [t0]) HKG.out HKG.out.lt⟩
  cases tcn
  case false =>
    have hpd := HPD.out
    simp only [Bool.false_eq_true, if_false] at hpd
    subst hpd
    clear hd ht htrow htall HPD HPT
    go_enter Tryz.func51, Tryz.ntmps51
    go_wp2_with fail
    exact bodyPost_ret (v := .slice none 0 0) (by simp [results, Tryz.results51, go_sem]) rfl ⟨HB0.out, none, 0, rfl, fun h => by simp at h⟩
  case true =>
    have hpd := HPD.out
    simp only [Bool.false_eq_true, if_false, if_true] at hpd
    have HPK := Lib.hid hpd
    obtain ⟨nm, A9, c9, hform, hrow9, hx9, hl9⟩ := dtFound_cons hd tn
    have HR9 := Lib.hid hrow9
    have HX9 := Lib.hid hx9
    have HFORM := Lib.hid hform
    have HCD := Lib.hid (fun (W : World) (hW : Below w.heap.size w W) => datatype_any A l c tn W (HD.out.next hW))
    generalize consOf l tn = cs at hform hrow9 hx9 hl9 HR9 HX9 HFORM HPK
    clear hd ht htrow htall HPD HPT hpd hform hrow9 hx9
    go_enter Tryz.func51, Tryz.ntmps51
    go_wp2_with fail
    generalize (w.alloc (.cells #[.string td, .string tn, .slice ta ts.length tc] 25)).alloc (.cells #[.string d, .string s, .int .i64 n, .slice Ap ps.length cp] 28) = w0 at HB0 K1 K2 ⊢
    refine Calls.mono (HCD.out _ HB0.out) ?_
    rintro e w1 ⟨rfl, hb1⟩
    rw [HFORM.out]
    have HB1 := Lib.hid (HB0.out.trans (hb1.mono HB0.out.size))
    have K21 := Lib.hid (K2.out.below hb1 K2.out.lt)
    generalize (dtFound l tn).2 = fnd at *
    clear hb1
    go_wp2_with fail
    have HB2 := Lib.hid (HB1.out.alloc HB1.out.size (.cells #[.string nm, .slice A9 cs.length c9] 111))
    have K22 := Lib.hid (K21.out.alloc (.cells #[.string nm, .slice A9 cs.length c9] 111))
    generalize w1.alloc (.cells #[.string nm, .slice A9 cs.length c9] 111) = w2 at HB2 K22 ⊢
    go_loopw [37] (fun iv wr => ∃ k : Nat, iv = .int .i64 k ∧ k ≤ cs.length ∧ Hid (Below w2.heap.size w2 wr) ∧ Hid (∀ j x, j < k → cs[j]? = some x → (fun c : Cn => c.name.toList == s.toList && c.has) x = false)) (fun iv _ => cs.length - (intOf iv).toNat)
    case atStart => exact ⟨0, rfl, Nat.zero_le _, Below.refl _ _, Lib.hid fun j x hj => absurd hj (Nat.not_lt_zero _)⟩
    case round =>
      obtain ⟨k, rfl, hk, HC, HN⟩ := hrel
      have HBW := Lib.hid (HB2.out.trans (HC.out.mono HB2.out.size))
      by_cases hlt : k < cs.length
      · obtain ⟨x, b5, off5, hq5, hm5, hat5, hb5, z0, z1, z2, z3, z4⟩ := Cn.arg_at HR9.out HBW.out hlt
        have HQ5 := Lib.hid hq5
        rw [hat5]
        have hnamel := (HX9.out x hm5).1.1
        obtain ⟨v0, v1, v2, v3⟩ := (K22.out.below HC.out K22.out.lt).four
        have vl := (K22.out.below HC.out K22.out.lt).lt
        have HBC := Lib.hid (HC.out.alloc HC.out.size (.cells #[.string x.name, .bool x.has, .string x.ty.dof, .string x.ty.name, .slice x.ty.at_ x.ty.args.length x.ty.cap] 117))
        clear hq5
        obtain ⟨tnm, hnm⟩ : ∃ y, (x.name.toList == s.toList) = y := ⟨_, rfl⟩
        obtain ⟨hh, hhs⟩ : ∃ y, x.has = y := ⟨_, rfl⟩
        have HNM := Lib.hid (And.intro hnm hhs)
        rw [hhs] at z1 HBC
        cases tnm
        case false =>
          go_wp2_with fail
          exact ⟨⟨k + 1, by go_num, by omega, HBC.out, Lib.hid (not_before HN.out HQ5.out (by simp [HNM.out.1]))⟩, by simp [intOf]; omega⟩
        cases hh
        case false =>
          go_wp2_with fail
          exact ⟨⟨k + 1, by go_num, by omega, HBC.out, Lib.hid (not_before HN.out HQ5.out (by simp [HNM.out.1, HNM.out.2]))⟩, by simp [intOf]; omega⟩
        have hpd2 := HPK.out
        rw [find_hit HQ5.out (by simp [HNM.out.1, HNM.out.2]) HN.out] at hpd2
        simp only at hpd2
        subst hpd2
        have HBE := Lib.hid (HBC.out.alloc HBC.out.size (.cells #[.string x.ty.dof, .string x.ty.name, .slice x.ty.at_ x.ty.args.length x.ty.cap] 25))
        go_wp2_with fail
        exact bodyPost_ret (v := .slice (some ⟨wr.heap.size + 1, 0, none⟩) 1 1) (by simp [results, Tryz.results51, go_sem]) rfl ⟨HB2.out.trans (HBE.out.mono HB2.out.size), some ⟨wr.heap.size + 1, 0, none⟩, 1, rfl, row_ty1 (Blk.new' _ _ _ _ (by simp)) (by simp)⟩
      · have hk2 : k = cs.length := by omega
        have hn := HN.out
        rw [hk2] at hn
        have hpd2 := HPK.out
        rw [find_miss hn] at hpd2
        simp only at hpd2
        subst hpd2
        clear hn hk2
        go_wp2_with fail
        exact bodyPost_ret (v := .slice none 0 0) (by simp [results, Tryz.results51, go_sem]) rfl ⟨HBW.out, none, 0, rfl, fun h => by simp at h⟩
end Go.Proofs.YtjeggkfgdhepaaaGreatDoor

/- The reference's IsValue. -/
set_option linter.unusedVariables false
set_option linter.unusedSimpArgs false
namespace Go.Proofs.YtjeggkfgdhepaaaGreatDoor
open Go.RowKit
open Go.Proofs

theorem isValL_no {l : List Dt} {ps : List Pt} {ts : List Ty} {k : Nat} {q : Pt} {u : Ty} (hq : ps[k]? = some q) (hu : ts[k]? = some u) (h : q.isVal l u = false) : isValL l ps ts = false := by
  cases hh : isValL l ps ts with
  | false => rfl
  | true =>
    unfold isValL at hh
    rw [List.all_eq_true] at hh
    have : (((ps.map fun q => q.isVal l).zipWith (fun f u => f u) ts))[k]? = some (q.isVal l u) := by
      rw [List.getElem?_zipWith, List.getElem?_map, hq, hu]
      rfl
    have := hh _ (List.mem_of_getElem? this)
    rw [h] at this
    cases this
theorem isValL_yes {l : List Dt} {ps : List Pt} {ts : List Ty} (h : ∀ (j : Nat) (q : Pt) (u : Ty), j < ts.length → ps[j]? = some q → ts[j]? = some u → q.isVal l u = true) : isValL l ps ts = true := by
  unfold isValL
  rw [List.all_eq_true]
  intro b hb
  obtain ⟨k, hk⟩ := List.getElem?_of_mem hb
  rw [List.getElem?_zipWith, List.getElem?_map] at hk
  cases hq : ps[k]? with
  | none => rw [hq] at hk; simp at hk
  | some q =>
    cases hu : ts[k]? with
    | none => rw [hq, hu] at hk; simp at hk
    | some u =>
      rw [hq, hu] at hk
      simp only [Option.map_some, Option.some.injEq] at hk
      rw [← hk]
      exact h k q u (List.getElem?_eq_some_iff.1 hu).1 hq hu
def IsValC (A : Option Addr) (l : List Dt) (c : Nat) (p : Pt) : Prop := ∀ (t : Ty) (w : World), DtsIn w.heap.size w A l → p.In w.heap.size w → p.wellB = true → t.In w.heap.size w → okT l t →
  Calls Tryz.prog 16 #[.slice A l.length c, t.val, p.val] w fun e w' => e = .returned (.bool (p.isVal l t)) ∧ Below w.heap.size w w'
theorem isOf_types {l : List Dt} (hr : Right l) : ∀ d ∈ l, ∀ x ∈ d.cons, x.has = true → x.ty.well (kindB .con) = true := fun d hd x hx hh => (((hr.cons d hd).2 x hx).2 hh).1
/-- A type's box, a pattern's box, and one of its Args. -/
def SIW (bu bp : Nat) (u : Ty) (b2 o2 n c k : Nat) (q : Pt) (W : World) : Prop :=
  W.cell? ⟨bu, 0, none⟩ = some (.string u.dof) ∧ W.cell? ⟨bu, 1, none⟩ = some (.string u.name) ∧ W.cell? ⟨bu, 2, none⟩ = some (.slice u.at_ u.args.length u.cap) ∧ bu < W.heap.size ∧
  W.cell? ⟨bp, 3, none⟩ = some (.slice (some ⟨b2, o2, none⟩) n c) ∧ bp < W.heap.size ∧ b2 < W.heap.size ∧
  W.cell? ⟨b2, o2 + k * 4, none⟩ = some (.string q.dof) ∧ W.cell? ⟨b2, o2 + k * 4 + 1, none⟩ = some (.string q.name) ∧ W.cell? ⟨b2, o2 + k * 4 + 2, none⟩ = some (.int .i64 q.num) ∧ W.cell? ⟨b2, o2 + k * 4 + 3, none⟩ = some (.slice q.at_ q.args.length q.cap)
set_option maxRecDepth 100000 in
set_option maxHeartbeats 8000000 in
theorem isVal_any (A : Option Addr) (l : List Dt) (c : Nat) (hr : Right l) : ∀ p : Pt, IsValC A l c p := by
  refine Pt.induct fun d s n Ap cp ps ih t w hd hp hw ht hok => ?_
  have HMK := Lib.hid (Pt.isVal_mk l d s n Ap cp ps t)
  obtain ⟨hds, hss, -, hplen, -, hprow, hpall⟩ := Pt.In_mk.1 hp
  have HD := Lib.hid hd
  have HPR := Lib.hid hprow
  have HPA := Lib.hid hpall
  have HIH := Lib.hid ih
  have HWA := Lib.hid (show ∀ q ∈ ps, q.wellB = true by rw [Pt.wellB_mk, Bool.and_eq_true, List.all_eq_true] at hw; exact hw.2)
  have HTI := Lib.hid ht
  have HB0 := Lib.hid (((Below.refl w.heap.size w).alloc (Nat.le_refl _) (.cells #[.string t.dof, .string t.name, .slice t.at_ t.args.length t.cap] 25)).alloc (by simp) (.cells #[.string d, .string s, .int .i64 n, .slice Ap ps.length cp] 28))
  have K1 := Lib.hid ((Blk.new w #[.string t.dof, .string t.name, .slice t.at_ t.args.length t.cap] 25).alloc (.cells #[.string d, .string s, .int .i64 n, .slice Ap ps.length cp] 28))
  have K2 := Lib.hid (Blk.new' (w.alloc (.cells #[.string t.dof, .string t.name, .slice t.at_ t.args.length t.cap] 25)) #[.string d, .string s, .int .i64 n, .slice Ap ps.length cp] 28 (w.heap.size + 1) (by simp))
  have HC1 := Lib.hid (fun (W : World) => opaque_any t W)
  have HC2 := Lib.hid (fun (W : World) => rwild_any (.mk d s n Ap cp ps) W)
  have HC3 := Lib.hid (fun (W : World) (hW : Below w.heap.size w W) => isOf_any A l c (isOf_types hr) (.mk d s n Ap cp ps) t W (hd.next hW) (hp.next hW) hw (ht.next hW) hok.1)
  have HPK := Lib.hid (fun (htame : wildD d = false) (h : (Pt.mk d s n Ap cp ps).isOf l t = true) => (show POks l (partsD l t d s) ps ∧ ∀ u ∈ partsD l t d s, okT l u from parts_pok hr hok hw htame h))
  have HPIN := Lib.hid (fun (W : World) (hW : Below w.heap.size w W) => parts_in (hd.next hW) (ht.next hW) d s)
  have HC4 := Lib.hid (fun (htame : wildD d = false) (h : (Pt.mk d s n Ap cp ps).isOf l t = true) (W : World) (hW : Below w.heap.size w W) => rparts_any A l c t d s n Ap cp ps W (hd.next hW) (ht.next hW) (fun hc => by
    rcases isOf_head hw htame h with k | k | k | k | k | k | k
    all_goals try (have hk := k.1; simp only [Pt.dof] at hk; subst hk; (first | rw [l_int] at hc | rw [l_bool] at hc | rw [l_unit] at hc | rw [l_nil] at hc | rw [l_pair] at hc | rw [l_con] at hc); exact absurd hc (by decide))
    obtain ⟨t0, ht0⟩ := list_args hok k.2.2.2
    rw [ht0]
    rfl) hss)
  generalize hop : opaqueT t = op at HMK HC1
  obtain ⟨wl, hwl⟩ : ∃ x, wildD d = x := ⟨_, rfl⟩
  have hwd : wildD (Pt.mk d s n Ap cp ps).dof = wl := hwl
  rw [hwd] at HC2
  rw [hwl] at HMK HC4 HPK
  generalize (Pt.mk d s n Ap cp ps).isVal l t = res at HMK ⊢
  obtain ⟨io, hio⟩ : ∃ x, (Pt.mk d s n Ap cp ps).isOf l t = x := ⟨_, rfl⟩
  rw [hio] at HMK HC3 HC4 HPK
  clear hd hp hw ht hok hprow hpall ih hop hwl hwd hio
  unfold Ty.val Pt.val at *
  simp only [Pt.dof, Pt.name, Pt.num, Pt.at_, Pt.cap, Pt.args] at *
  obtain ⟨ta, hta⟩ : ∃ x, (d.toList == [97, 110, 121]) = x := ⟨_, rfl⟩
  have HR1 := Lib.hid (show (op || wl) = true → res = (op && ta) from fun h => by rw [HMK.out, if_pos h]; unfold isDo; rw [hta])
  have HR2 := Lib.hid (show (op || wl) = false → res = (io && isValL l ps (partsD l t d s)) from fun h => by rw [HMK.out, if_neg (by rw [h]; decide)])
  clear HMK
  cases op
  case true =>
    rw [show res = (true && ta) from HR1.out (by simp)]
    cases ta
    all_goals
      go_enter Tryz.func16, Tryz.ntmps16
      go_wp2_with fail
      generalize (w.alloc (.cells #[.string t.dof, .string t.name, .slice t.at_ t.args.length t.cap] 25)).alloc (.cells #[.string d, .string s, .int .i64 n, .slice Ap ps.length cp] 28) = w0 at HB0 K1 K2 ⊢
      refine Calls.mono (HC1.out _) ?_
      rintro e w1 ⟨rfl, hb1⟩
      have HB1 := Lib.hid (HB0.out.trans (hb1.mono HB0.out.size))
      have K11 := Lib.hid (K1.out.below hb1 K1.out.lt)
      have K21 := Lib.hid (K2.out.below hb1 K2.out.lt)
      obtain ⟨y0, y1, y2⟩ := K11.out.three
      have yl := K11.out.lt
      clear hb1
      go_wp2_with fail
      refine Calls.mono (HC1.out _) ?_
      rintro e w2 ⟨rfl, hb2⟩
      have HB2 := Lib.hid (HB1.out.trans (hb2.mono HB1.out.size))
      have K22 := Lib.hid (K21.out.below hb2 K21.out.lt)
      obtain ⟨z0, z1, z2, z3⟩ := K22.out.four
      have zl := K22.out.lt
      clear hb2 y0 y1 y2 yl
      go_wp2_with fail
      go_ret
      exact ⟨rfl, HB2.out⟩
  cases wl
  case true =>
    rw [show res = (false && ta) from HR1.out (by simp)]
    go_enter Tryz.func16, Tryz.ntmps16
    go_wp2_with fail
    generalize (w.alloc (.cells #[.string t.dof, .string t.name, .slice t.at_ t.args.length t.cap] 25)).alloc (.cells #[.string d, .string s, .int .i64 n, .slice Ap ps.length cp] 28) = w0 at HB0 K1 K2 ⊢
    refine Calls.mono (HC1.out _) ?_
    rintro e w1 ⟨rfl, hb1⟩
    have HB1 := Lib.hid (HB0.out.trans (hb1.mono HB0.out.size))
    have K11 := Lib.hid (K1.out.below hb1 K1.out.lt)
    have K21 := Lib.hid (K2.out.below hb1 K2.out.lt)
    obtain ⟨z0, z1, z2, z3⟩ := K21.out.four
    have zl := K21.out.lt
    clear hb1
    go_wp2_with fail
    refine Calls.mono (HC2.out _) ?_
    rintro e w2 ⟨rfl, hb2⟩
    have HB2 := Lib.hid (HB1.out.trans (hb2.mono HB1.out.size))
    have K12 := Lib.hid (K11.out.below hb2 K11.out.lt)
    obtain ⟨y0, y1, y2⟩ := K12.out.three
    have yl := K12.out.lt
    clear hb2 z0 z1 z2 z3 zl
    go_wp2_with fail
    refine Calls.mono (HC1.out _) ?_
    rintro e w3 ⟨rfl, hb3⟩
    have HB3 := Lib.hid (HB2.out.trans (hb3.mono HB2.out.size))
    clear hb3 y0 y1 y2 yl
    go_wp2_with fail
    go_ret
    exact ⟨rfl, HB3.out⟩
  have hres := HR2.out (by simp)
  have HRES := Lib.hid hres
  clear hres HR1 HR2
  go_enter Tryz.func16, Tryz.ntmps16
  go_wp2_with fail
  generalize (w.alloc (.cells #[.string t.dof, .string t.name, .slice t.at_ t.args.length t.cap] 25)).alloc (.cells #[.string d, .string s, .int .i64 n, .slice Ap ps.length cp] 28) = w0 at HB0 K1 K2 ⊢
  refine Calls.mono (HC1.out _) ?_
  rintro e w1 ⟨rfl, hb1⟩
  have HB1 := Lib.hid (HB0.out.trans (hb1.mono HB0.out.size))
  have K11 := Lib.hid (K1.out.below hb1 K1.out.lt)
  have K21 := Lib.hid (K2.out.below hb1 K2.out.lt)
  obtain ⟨z0, z1, z2, z3⟩ := K21.out.four
  have zl := K21.out.lt
  clear hb1
  go_wp2_with fail
  refine Calls.mono (HC2.out _) ?_
  rintro e w2 ⟨rfl, hb2⟩
  have HB2 := Lib.hid (HB1.out.trans (hb2.mono HB1.out.size))
  have K12 := Lib.hid (K11.out.below hb2 K11.out.lt)
  have K22 := Lib.hid (K21.out.below hb2 K21.out.lt)
  clear z0 z1 z2 z3 zl
  obtain ⟨y0, y1, y2⟩ := K12.out.three
  have yl := K12.out.lt
  obtain ⟨z0, z1, z2, z3⟩ := K22.out.four
  have zl := K22.out.lt
  clear hb2
  go_wp2_with fail
  refine Calls.mono (HC3.out _ HB2.out) ?_
  rintro e w3 ⟨rfl, hb3⟩
  have HB3 := Lib.hid (HB2.out.trans (hb3.mono HB2.out.size))
  have K13 := Lib.hid (K12.out.below hb3 K12.out.lt)
  have K23 := Lib.hid (K22.out.below hb3 K22.out.lt)
  clear hb3 y0 y1 y2 yl z0 z1 z2 z3 zl
  cases io
  case false =>
    go_wp2_with fail
    go_ret
    exact ⟨by rw [HRES.out]; rfl, HB3.out⟩
  obtain ⟨y0, y1, y2⟩ := K13.out.three
  have yl := K13.out.lt
  obtain ⟨z0, z1, z2, z3⟩ := K23.out.four
  have zl := K23.out.lt
  obtain ⟨hpk1, hpk2⟩ := HPK.out (by simp) (by simp)
  have HLEN := Lib.hid hpk1.length
  have HOKU := Lib.hid hpk2
  have HUIN := Lib.hid (HPIN.out)
  have HC5 := Lib.hid (HC4.out (by simp) (by simp))
  unfold PartsP at HC5
  clear hpk1 hpk2 HPK HC4
  generalize partsD l t d s = pd at HLEN HOKU HUIN HC5 HRES HPIN
  have hpl : pd.length ≤ 1099511627776 := by have := HLEN.out; omega
  go_wp2_with fail
  refine Calls.mono (HC5.out _ HB3.out) ?_
  rintro e w4 ⟨hb4, A4, c4, rfl, hrow4⟩
  have HROW := Lib.hid hrow4
  have HB4 := Lib.hid (HB3.out.trans (hb4.mono HB3.out.size))
  have K24 := Lib.hid (K23.out.below hb4 K23.out.lt)
  clear hb4 hrow4 y0 y1 y2 yl z0 z1 z2 z3 zl
  go_wp2_with fail
  go_loopw [32] (fun iv wr => ∃ k : Nat, iv = .int .i64 k ∧ k ≤ pd.length ∧ Hid (Below w4.heap.size w4 wr) ∧ Hid (∀ (j : Nat) (q : Pt) (u : Ty), j < k → ps[j]? = some q → pd[j]? = some u → q.isVal l u = true)) (fun iv _ => pd.length - (intOf iv).toNat)
  case atStart => exact ⟨0, rfl, Nat.zero_le _, Below.refl _ _, Lib.hid fun j q u hj => absurd hj (Nat.not_lt_zero _)⟩
  case round =>
    obtain ⟨k, rfl, hk, HC, HN⟩ := hrel
    have HBW := Lib.hid (HB4.out.trans (HC.out.mono HB4.out.size))
    by_cases hlt : k < pd.length
    · obtain ⟨u, bu, ou, hu, hum, rfl, hbu, u0, u1, u2⟩ := Ty.arg_at HROW.out HC.out hlt
      have HU := Lib.hid hu
      have HUM := Lib.hid hum
      obtain ⟨q, b2, o2, hq, hqm, rfl, hb2, q0, q1, q2, q3⟩ := Pt.arg_at (k := k) HPR.out HBW.out (by have := HLEN.out; omega)
      have HQ := Lib.hid hq
      have HQM := Lib.hid hqm
      have hkl : k < ps.length := by have := HLEN.out; omega
      have K25 := Lib.hid ((K24.out.below HC.out K24.out.lt).alloc (.cells #[.string u.dof, .string u.name, .slice u.at_ u.args.length u.cap] 25))
      have KU := Lib.hid (Blk.new wr #[.string u.dof, .string u.name, .slice u.at_ u.args.length u.cap] 25)
      have HBA := Lib.hid (HC.out.alloc HC.out.size (.cells #[.string u.dof, .string u.name, .slice u.at_ u.args.length u.cap] 25))
      have HBB := Lib.hid (HBW.out.alloc HBW.out.size (.cells #[.string u.dof, .string u.name, .slice u.at_ u.args.length u.cap] 25))
      have hbox : ∀ W, Below (wr.alloc (.cells #[.string u.dof, .string u.name, .slice u.at_ u.args.length u.cap] 25)).heap.size (wr.alloc (.cells #[.string u.dof, .string u.name, .slice u.at_ u.args.length u.cap] 25)) W → SIW wr.heap.size (w.heap.size + 1) u b2 o2 ps.length cp k q W := fun W hW => by
        have k1 := KU.out.below hW KU.out.lt
        have k2 := K25.out.below hW K25.out.lt
        have hb9 : b2 < wr.heap.size := by have := HBW.out.size; omega
        have hbw : Below wr.heap.size wr W := ((Below.refl _ _).alloc (Nat.le_refl _) _).trans (hW.mono (by simp))
        have hc := fun (j : Nat) => hbw.cell (p := ⟨b2, j, none⟩) hb9
        exact ⟨k1.cell 0, k1.cell 1, k1.cell 2, k1.lt, k2.cell 3, k2.lt, by have := hbw.size; omega, (hc _).trans q0, (hc _).trans q1, (hc _).trans q2, (hc _).trans q3⟩
      have HBOX := Lib.hid hbox
      have HCI := Lib.hid (fun (W : World) (hW : Below w.heap.size w W) => HIH.out q hqm u W (HD.out.next hW) ((HPA.out q hqm).next hW) (HWA.out q hqm) (HUIN.out W hW u hum) (HOKU.out u hum))
      generalize hr0 : q.isVal l u = r0 at HCI
      have HR0 := Lib.hid hr0
      unfold Ty.val Pt.val at HCI
      clear hu hum hq hqm q0 q1 q2 q3 hbox hr0
      go_wp2_with fail
      clear u0 u1 u2
      generalize wr.alloc (.cells #[.string u.dof, .string u.name, .slice u.at_ u.args.length u.cap] 25) = w5 at HBOX HBA HBB ⊢
      refine region_mix (SIW wr.heap.size (w.heap.size + 1) u b2 o2 ps.length cp k q) [(0, true), (1, true), (2, true), (3, true), (4, true), (5, true), (6, true), (7, false), (8, false)] 7 (by kernel_rfl) (by kernel_rfl) (HBOX.out _ (Below.refl _ _).drew) ?_
      simp only [pickM, List.filterMap_cons, List.getElem?_cons_zero, List.getElem?_cons_succ, List.filterMap_nil, Option.map_some]
      iterate 7
        refine wpMix_read ?_ (by rfl) (fun W hW => ?_) ?_
        rotate_left
        · unfold SIW at hW
          go_simp
          try with_reducible rfl
        simp only [Act.put, List.setIfInBounds_toArray, List.set_cons_zero, List.set_cons_succ]
      refine wpMix_step rfl (fun K hK => ?_)
      go_simp
      refine Calls.mono (HCI.out _ HBB.out.drew) ?_
      rintro e w6 ⟨rfl, hb6⟩
      have HD6 := Lib.hid ((Below.refl w5.heap.size w5).drew.trans (hb6.mono (Below.refl w5.heap.size w5).drew.size))
      clear hb6
      refine hK _ _ (fun _ => HBOX.out _ HD6.out) ?_
      clear hK K
      refine wpMix_step rfl (fun K hK => ?_)
      go_simp
      refine hK _ _ (fun _ => HBOX.out _ HD6.out) ?_
      clear hK K
      refine wpMix_nil ?_
      refine NoPanic.normal ?_
      cases r0
      case false =>
        have HNO := Lib.hid (show res = false by rw [HRES.out, isValL_no HQ.out HU.out HR0.out]; rfl)
        go_wp2_with fail
        go_ret
        exact ⟨by simp [HNO.out], HBB.out.trans (HD6.out.mono HBB.out.size)⟩
      case true =>
        have HN2 := Lib.hid (show ∀ (j : Nat) (q : Pt) (u : Ty), j < k + 1 → ps[j]? = some q → pd[j]? = some u → q.isVal l u = true from fun j q' u' hj h1 h2 => by
          by_cases hjk : j < k
          · exact HN.out j q' u' hjk h1 h2
          · have : j = k := by omega
            subst this
            have e1 := HQ.out.symm.trans h1
            have e2 := HU.out.symm.trans h2
            cases e1
            cases e2
            exact HR0.out)
        go_wp2_with fail
        exact ⟨⟨k + 1, by go_num, by omega, HBA.out.trans (HD6.out.mono HBA.out.size), HN2.out⟩, by simp [intOf]; omega⟩
    · have hk2 : k = pd.length := by omega
      have hn := HN.out
      rw [hk2] at hn
      have HYES := Lib.hid (show res = true by rw [HRES.out, isValL_yes (fun j q u hj => hn j q u hj)]; rfl)
      clear hn hk2
      go_wp2_with fail
      go_ret
      exact ⟨by simp [HYES.out], HBW.out⟩
end Go.Proofs.YtjeggkfgdhepaaaGreatDoor
