/- The reference's trace: its memory. -/
import Derived.Test.YtnloffjjlhhanaaDoorMost
set_option linter.unusedVariables false
set_option linter.unusedSimpArgs false
namespace Go.Proofs.YtnloffjjlhhanaaDoor
open Go.RowKit
open Go.Proofs

/-- A lifeline, as the reference lays it. -/
def Lf.row (x : Lf) : List Value := [.int .i64 x.life, .int .i64 x.opened, .int .i64 x.ended, .int .i64 x.objs, .int .i64 x.wds, .int .i64 x.pages, .bool x.bounded, .int .i64 x.words, .int .i64 x.fin]
theorem row_len (x : Lf) : x.row.length = 9 := rfl
theorem flat_len : ∀ l : List Lf, (l.flatMap Lf.row).length = l.length * 9
  | [] => rfl
  | x :: l => by rw [List.flatMap_cons, List.length_append, flat_len l, row_len, List.length_cons]; omega
theorem flat_at : ∀ (l : List Lf) (i j : Nat) (x : Lf), l[i]? = some x → j < 9 → (l.flatMap Lf.row)[i * 9 + j]? = x.row[j]?
  | [], _, _, _, h, _ => by simp at h
  | y :: l, 0, j, x, h, hj => by
    simp only [List.getElem?_cons_zero, Option.some.injEq] at h
    subst h
    rw [List.flatMap_cons, List.getElem?_append_left (by rw [row_len]; omega)]
    congr 1
    omega
  | y :: l, i + 1, j, x, h, hj => by
    rw [List.flatMap_cons, List.getElem?_append_right (by rw [row_len]; omega), row_len]
    have e : (i + 1) * 9 + j - 9 = i * 9 + j := by omega
    rw [e]
    exact flat_at l i j x (by simpa using h) hj
theorem flat_set : ∀ (l : List Lf) (i j : Nat) (x y : Lf) (v : Value), l[i]? = some x → j < 9 → y.row = x.row.set j v → (l.flatMap Lf.row).set (i * 9 + j) v = (l.set i y).flatMap Lf.row
  | [], _, _, _, _, _, h, _, _ => by simp at h
  | z :: l, 0, j, x, y, v, h, hj, hy => by
    simp only [List.getElem?_cons_zero, Option.some.injEq] at h
    subst h
    have e : 0 * 9 + j = j := by omega
    rw [List.flatMap_cons, e, List.set_append_left _ _ (by rw [row_len]; exact hj), List.set_cons_zero, List.flatMap_cons, hy]
  | z :: l, i + 1, j, x, y, v, h, hj, hy => by
    rw [List.flatMap_cons, List.set_append_right _ _ (by rw [row_len]; omega), row_len]
    have e : (i + 1) * 9 + j - 9 = i * 9 + j := by omega
    rw [e, flat_set l i j x y v (by simpa using h) hj hy, List.set_cons_succ, List.flatMap_cons]

/-- What events have made. -/
structure Tr where
  st : St
  hole : Int
  room : Int
  left : Int
  step : Int
def Tr.init : Tr := ⟨St.init, 0, 0, 0, 0⟩
def num (i : Nat) : Value := .int .i64 ((i : Int) + 1)
/-- Where a trace lies. -/
structure Loc where
  t : Nat
  Al : Option Addr
  cl : Nat
  Ao : Option Addr
  co : Nat
def Loc.foot (R : Loc) (k : Nat) : Prop := k = R.t ∨ (Value.slice R.Al 0 0).ownBlock = some k ∨ (Value.slice R.Ao 0 0).ownBlock = some k
structure TrAt (B : Nat) (w : World) (R : Loc) (t : Tr) : Prop where
  base : B ≤ R.t
  blk : Blk w R.t #[.slice R.Al t.st.lf.length R.cl, .slice R.Ao t.st.op.length R.co, .int .i64 t.hole, .int .i64 t.room, .int .i64 t.left, .int .i64 t.step] 58
  rowl : w.ownsRow B 31 9 (.slice R.Al t.st.lf.length R.cl) t.st.lf.length (t.st.lf.flatMap Lf.row)
  rowo : w.ownsRow B 3 1 (.slice R.Ao t.st.op.length R.co) t.st.op.length (t.st.op.map num)
  opens : ∀ i ∈ t.st.op, i < t.st.lf.length
  good : ∀ x ∈ t.st.lf, x.bounded = decide (x.words > 0)

section
variable {B : Nat} {w w1 w' : World} {R : Loc} {t : Tr}
theorem TrAt.ne_l (h : TrAt B w R t) {k : Nat} {cs : Array Value} {u : TypeId} (hb : Blk w k cs u) (hu : u ≠ 31) : ¬ (Value.slice R.Al 0 0).ownBlock = some k := fun e => row_ne h.rowl hb hu (own_eq.2 e)
theorem TrAt.ne_o (h : TrAt B w R t) {k : Nat} {cs : Array Value} {u : TypeId} (hb : Blk w k cs u) (hu : u ≠ 3) : ¬ (Value.slice R.Ao 0 0).ownBlock = some k := fun e => row_ne h.rowo hb hu (own_eq.2 e)
/-- The two rows lie apart. -/
theorem rows_apart {B' : Nat} {e e' : TypeId} {s s' n n' : Nat} {v v' : Value} {xs xs' : List Value} (h : w.ownsRow B e s v n xs) (h' : w.ownsRow B' e' s' v' n' xs') (he : e ≠ e') {k : Nat} (hk : v.ownBlock = some k) : v'.ownBlock ≠ some k := by
  rcases h.2 with ⟨rfl, _⟩ | ⟨g, cap, cur, rfl, _, hgg, _⟩
  · simp [Value.ownBlock] at hk
  · simp only [Value.ownBlock, Option.some.injEq] at hk
    subst hk
    exact row_ne h' (k := g) (cs := cur) (t := e) hgg he
theorem TrAt.apart (h : TrAt B w R t) {k : Nat} (hk : (Value.slice R.Al 0 0).ownBlock = some k) : ¬ (Value.slice R.Ao 0 0).ownBlock = some k := fun e => rows_apart h.rowl h.rowo (by decide) (own_eq.2 hk) (own_eq.2 e)
theorem TrAt.fr {S : Nat → Prop} (h : TrAt B w R t) (hf : Fr S w w') (hs : ∀ k, S k → ¬ R.foot k) : TrAt B w' R t := by
  have hne : ∀ k, R.foot k → ¬ S k := fun k hk hs' => hs k hs' hk
  exact ⟨h.base, hf.blk h.blk (hne _ (.inl rfl)), row_stays h.rowl fun k hk => hf.block k (h.rowl.lt k hk).2 (hne _ (.inr (.inl (own_eq.1 hk)))), row_stays h.rowo fun k hk => hf.block k (h.rowo.lt k hk).2 (hne _ (.inr (.inr (own_eq.1 hk)))), h.opens, h.good⟩
theorem TrAt.fr0 (h : TrAt B w R t) (hf : Fr No w w') : TrAt B w' R t := h.fr hf fun _ h => h.elim
theorem TrAt.foot_lt (h : TrAt B w R t) {k : Nat} (hk : R.foot k) : B ≤ k ∧ k < w.heap.size := by
  rcases hk with rfl | hk | hk
  · exact ⟨h.base, h.blk.lt⟩
  · exact h.rowl.lt k (own_eq.2 hk)
  · exact h.rowo.lt k (own_eq.2 hk)
theorem TrAt.open_at (h : TrAt B w R t) {j i : Nat} (hj : t.st.op[j]? = some i) : ∃ g x, R.Ao = some ⟨g, 0, none⟩ ∧ w.cell? ⟨g, j, none⟩ = some (num i) ∧ w.frozen? ⟨g, j, none⟩ = false ∧ t.st.lf[i]? = some x ∧ g < w.heap.size := by
  have hi := h.opens i (List.mem_of_getElem? hj)
  obtain ⟨g, hg, hc, hfz⟩ := row_cell h.rowo j (num i) (by simp [hj])
  exact ⟨g, _, hg, hc, hfz, List.getElem?_eq_getElem hi, World.block_lt_of_cell? w _ hc⟩
theorem row_flat {A : Option Addr} {n c : Nat} {l : List Lf} (h : w.ownsRow B 31 9 (.slice A n c) n (l.flatMap Lf.row)) {i : Nat} {x : Lf} (hx : l[i]? = some x) :
    ∃ g, A = some ⟨g, 0, none⟩ ∧ (∀ j v, j < 9 → x.row[j]? = some v → w.cell? ⟨g, i * 9 + j, none⟩ = some v) ∧ (∀ j, j < 9 → w.frozen? ⟨g, i * 9 + j, none⟩ = false) ∧ g < w.heap.size := by
  have hv : ∀ j, j < 9 → ∃ v, x.row[j]? = some v := fun j hj => ⟨_, List.getElem?_eq_getElem (by rw [row_len]; exact hj)⟩
  obtain ⟨v0, hv0⟩ := hv 0 (by omega)
  obtain ⟨g, hg, hc0, -⟩ := row_cell h (i * 9 + 0) v0 (by rw [flat_at l i 0 x hx (by omega)]; exact hv0)
  refine ⟨g, hg, fun j v hj hjv => ?_, fun j hj => ?_, World.block_lt_of_cell? w _ hc0⟩
  · obtain ⟨g', hg', hc, -⟩ := row_cell h (i * 9 + j) v (by rw [flat_at l i j x hx hj]; exact hjv)
    rw [hg] at hg'
    simp only [Option.some.injEq, Addr.mk.injEq, and_true] at hg'
    subst hg'
    exact hc
  · obtain ⟨v, hjv⟩ := hv j hj
    obtain ⟨g', hg', -, hfz⟩ := row_cell h (i * 9 + j) v (by rw [flat_at l i j x hx hj]; exact hjv)
    rw [hg] at hg'
    simp only [Option.some.injEq, Addr.mk.injEq, and_true] at hg'
    subst hg'
    exact hfz
/-- A field of a lifeline is written. -/
theorem TrAt.setLine (h : TrAt B w R t) {i j g : Nat} {x y : Lf} {v : Value} (hx : t.st.lf[i]? = some x) (hg : R.Al = some ⟨g, 0, none⟩) (hj : j < 9) (hy : y.row = x.row.set j v) (hgd : y.bounded = decide (y.words > 0)) :
    TrAt B (w.setCell ⟨g, i * 9 + j, none⟩ v) R { t with st := { t.st with lf := t.st.lf.set i y } } := by
  have hown : (Value.slice R.Al 0 0).ownBlock = some g := by rw [hg]; rfl
  have hne : R.t ≠ g := fun e => h.ne_l h.blk (by decide) (by rw [e]; exact hown)
  refine ⟨h.base, ?_, ?_, ?_, ?_, ?_⟩
  · simp only [List.length_set]
    exact h.blk.far hne _
  · have hrow := h.rowl
    rw [hg] at hrow
    have hs := (hrow.stored (i * 9 + j) v).1
    rw [flat_set _ i j x y v hx hj hy] at hs
    simp only [List.length_set]
    rw [hg]
    exact hs
  · exact ownsRow_setCell_other h.rowo (fun e => h.apart hown (own_eq.1 e)) _
  · intro k hk
    simp only [List.length_set]
    exact h.opens k hk
  · intro z hz
    rcases List.mem_or_eq_of_mem_set hz with hz | rfl
    · exact h.good z hz
    · exact hgd
/-- A number among the open ones is written. -/
theorem TrAt.setNum (h : TrAt B w R t) {i j g : Nat} (hi : i < t.st.lf.length) (hg : R.Ao = some ⟨g, 0, none⟩) : TrAt B (w.setCell ⟨g, j, none⟩ (num i)) R { t with st := { t.st with op := t.st.op.set j i } } := by
  have hown : (Value.slice R.Ao 0 0).ownBlock = some g := by rw [hg]; rfl
  have hne : R.t ≠ g := fun e => h.ne_o h.blk (by decide) (by rw [e]; exact hown)
  refine ⟨h.base, ?_, ?_, ?_, ?_, h.good⟩
  · simp only [List.length_set]
    exact h.blk.far hne _
  · exact ownsRow_setCell_other h.rowl (fun e => h.apart (own_eq.1 e) hown) _
  · have hrow := h.rowo
    rw [hg] at hrow
    have hs := (hrow.stored j (num i)).1
    simp only [List.length_set]
    rw [List.map_set, hg]
    exact hs
  · intro m hm
    rcases List.mem_or_eq_of_mem_set hm with hm | rfl
    · exact h.opens m hm
    · exact hi
/-- One of the four numbers is written. -/
theorem TrAt.head (h : TrAt B w R t) (j : Nat) (v : Int) (t' : Tr) (hst : t'.st = t.st) (hj : #[Value.slice R.Al t.st.lf.length R.cl, .slice R.Ao t.st.op.length R.co, .int .i64 t'.hole, .int .i64 t'.room, .int .i64 t'.left, .int .i64 t'.step] =
    (#[Value.slice R.Al t.st.lf.length R.cl, .slice R.Ao t.st.op.length R.co, .int .i64 t.hole, .int .i64 t.room, .int .i64 t.left, .int .i64 t.step]).setIfInBounds j (.int .i64 v)) : TrAt B (w.setCell ⟨R.t, j, none⟩ (.int .i64 v)) R t' := by
  refine ⟨h.base, ?_, ?_, ?_, by rw [hst]; exact h.opens, by rw [hst]; exact h.good⟩
  · rw [hst, hj]
    exact h.blk.set j _
  · rw [hst]; exact ownsRow_setCell_other h.rowl (row_ne h.rowl h.blk (by decide)) _
  · rw [hst]; exact ownsRow_setCell_other h.rowo (row_ne h.rowo h.blk (by decide)) _
/-- One open life less. -/
theorem TrAt.pop (h : TrAt B w R t) {n : Nat} (hn : n + 1 = t.st.op.length) : TrAt B (w.setCell ⟨R.t, 1, none⟩ (.slice R.Ao n R.co)) R { t with st := { t.st with op := t.st.op.take n } } := by
  have hl : (t.st.op.take n).length = n := by simp; omega
  refine ⟨h.base, ?_, ?_, ?_, fun m hm => h.opens m (List.mem_of_mem_take hm), h.good⟩
  · have := h.blk.set 1 (.slice R.Ao n R.co)
    simpa [hl] using this
  · exact ownsRow_setCell_other h.rowl (row_ne h.rowl h.blk (by decide)) _
  · have := row_take h.rowo n (by omega) (by omega)
    simp only [hl, List.map_take]
    exact ownsRow_setCell_other this (row_ne this h.blk (by decide)) _
/-- One lifeline more. -/
theorem TrAt.pushLine (h : TrAt B w R t) {n c : Nat} {A : Option Addr} {x : Lf} (hf : Fr (fun j => (Value.slice R.Al 0 0).ownBlock = some j) w w1) (hn : n = t.st.lf.length + 1) (hx : x.bounded = decide (x.words > 0))
    (hrow : w1.ownsRow B 31 9 (.slice A n c) n (t.st.lf.flatMap Lf.row ++ x.row)) :
    TrAt B (w1.setCell ⟨R.t, 0, none⟩ (.slice A n c)) { R with Al := A, cl := c } { t with st := { t.st with lf := t.st.lf ++ [x] } } := by
  have hblk : Blk w1 R.t _ _ := hf.blk h.blk (h.ne_l h.blk (by decide))
  have hrowo := row_stays h.rowo fun j hj => hf.block j (h.rowo.lt j hj).2 (fun e => h.apart e (own_eq.1 hj))
  subst hn
  refine ⟨h.base, ?_, ?_, ?_, ?_, ?_⟩
  · have := hblk.set 0 (.slice A (t.st.lf.length + 1) c)
    simpa using this
  · simp only [List.length_append, List.length_singleton, List.flatMap_append, List.flatMap_singleton]
    exact ownsRow_setCell_other hrow (row_ne hrow hblk (by decide)) _
  · exact ownsRow_setCell_other hrowo (row_ne hrowo hblk (by decide)) _
  · intro k hk
    have := h.opens k hk
    simp only [List.length_append, List.length_singleton]
    omega
  · intro z hz
    rcases List.mem_append.1 hz with hz | hz
    · exact h.good z hz
    · simp at hz; subst hz; exact hx
/-- One open life more. -/
theorem TrAt.pushNum (h : TrAt B w R t) {n c i : Nat} {A : Option Addr} (hf : Fr (fun j => (Value.slice R.Ao 0 0).ownBlock = some j) w w1) (hn : n = t.st.op.length + 1) (hi : i < t.st.lf.length)
    (hrow : w1.ownsRow B 3 1 (.slice A n c) n (t.st.op.map num ++ [num i])) :
    TrAt B (w1.setCell ⟨R.t, 1, none⟩ (.slice A n c)) { R with Ao := A, co := c } { t with st := { t.st with op := t.st.op ++ [i] } } := by
  have hblk : Blk w1 R.t _ _ := hf.blk h.blk (h.ne_o h.blk (by decide))
  have hrowl := row_stays h.rowl fun j hj => hf.block j (h.rowl.lt j hj).2 (fun e => h.apart (own_eq.1 hj) e)
  subst hn
  refine ⟨h.base, ?_, ?_, ?_, ?_, h.good⟩
  · have := hblk.set 1 (.slice A (t.st.op.length + 1) c)
    simpa using this
  · exact ownsRow_setCell_other hrowl (row_ne hrowl hblk (by decide)) _
  · simp only [List.length_append, List.length_singleton, List.map_append, List.map_cons, List.map_nil]
    exact ownsRow_setCell_other hrow (row_ne hrow hblk (by decide)) _
  · intro k hk
    rcases List.mem_append.1 hk with hk | hk
    · exact h.opens k hk
    · simp at hk; subst hk; exact hi
end
end Go.Proofs.YtnloffjjlhhanaaDoor
