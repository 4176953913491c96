/- The program's asked: the closure that keeps a copy of the lives that are open. -/
import Derived.Test.YtnloffjjlhhanaaGraphP
set_option linter.unusedVariables false
set_option linter.unusedSimpArgs false
namespace Go.Proofs.Ytnloffjjlhhanaa
open Go.RowKit
open Go.Proofs

theorem Blk.ne {w : World} {k k' : Nat} {cs cs' : Array Value} {t t' : TypeId} (h : Blk w k cs t) (h' : Blk w k' cs' t') (ht : t ≠ t') : k ≠ k' := by
  rintro rfl
  unfold Blk at h h'
  rw [h] at h'
  simp only [Option.some.injEq, Obj.cells.injEq] at h'
  exact ht h'.2.1
/-- The lives that are open, from the bottom. -/
def snapOf (s : St) (k : Nat) : List Lf := (s.op.take k).map fun i => s.lf.getD i default
theorem snap_len (s : St) {k : Nat} (h : k ≤ s.op.length) : (snapOf s k).length = k := by unfold snapOf; simp; omega
theorem snap_succ {s : St} {k i : Nat} (h : s.op[k]? = some i) : snapOf s (k + 1) = snapOf s k ++ [s.lf.getD i default] := by
  unfold snapOf; rw [List.take_add_one, h]; simp
/-- The state behind a step. -/
def nowOf (st : Int) (tr : List (St × Int)) : St := tr.foldl (fun s x => if x.2 ≤ st then x.1 else s) St.init
theorem nowOf_snoc (st : Int) (tr : List (St × Int)) (x : St × Int) : nowOf st (tr ++ [x]) = if x.2 ≤ st then x.1 else nowOf st tr := by unfold nowOf; rw [List.foldl_append]; rfl
theorem now_fold : ∀ (tr : List (St × Int)) (st : Int) (s : St), tr.Pairwise (fun a b => a.2 ≤ b.2) → tr.foldl (fun s x => if x.2 ≤ st then x.1 else s) s = lastSt s (tr.takeWhile fun y => decide (y.2 ≤ st))
  | [], _, _, _ => rfl
  | x :: tr, st, s, h => by
    rw [List.foldl_cons, List.takeWhile_cons]
    by_cases hx : x.2 ≤ st
    · rw [if_pos hx]
      simp only [hx, decide_true, if_true, lastSt]
      exact now_fold tr st x.1 (List.pairwise_cons.1 h).2
    · rw [if_neg hx]
      simp only [hx, decide_false, Bool.false_eq_true, if_false, lastSt]
      have : ∀ (r : List (St × Int)), (∀ y ∈ r, ¬ y.2 ≤ st) → r.foldl (fun s x => if x.2 ≤ st then x.1 else s) s = s := by
        intro r
        induction r with
        | nil => intro _; rfl
        | cons y r ih => intro hr; rw [List.foldl_cons, if_neg (hr y List.mem_cons_self)]; exact ih fun z hz => hr z (List.mem_cons_of_mem _ hz)
      exact this tr fun y hy => by have := (List.pairwise_cons.1 h).1 y hy; omega
theorem nowOf_play {l : List Ev} {tr : List (St × Int)} (hl : l.length ≤ 2000) (h : playP l = some tr) (st : Int) : nowOf st tr = lastSt St.init (tr.takeWhile fun y => decide (y.2 ≤ st)) := now_fold tr st _ (play_steps hl h).srt

/-- The copy, where it lies: the step (b3), the pointer (b6), the film (fb), its row and its lives. -/
structure SnapAt (B b3 b6 fb : Nat) (st : Int) (w : World) (A : Option Addr) (c : Nat) (bl : List Nat) (xs : List Lf) : Prop where
  lo3 : B ≤ b3
  lo6 : B ≤ b6
  lof : B ≤ fb
  blk3 : Blk w b3 #[.int .i64 st] 3
  blk6 : Blk w b6 #[ptr fb] 47
  blk : Blk w fb #[.slice A xs.length c, .slice none 0 0] 55
  row : w.ownsRow B 56 1 (.slice A xs.length c) xs.length (bl.map ptr)
  len : bl.length = xs.length
  lives : ∀ (i k : Nat) (x : Lf), bl[i]? = some k → xs[i]? = some x → B ≤ k ∧ Blk w k x.cells 58
def SnapJ (b3 b6 fb : Nat) (A : Option Addr) (bl : List Nat) (k : Nat) : Prop := k = b3 ∨ k = b6 ∨ k = fb ∨ (Value.slice A 0 0).ownBlock = some k ∨ k ∈ bl
section
variable {B b3 b6 fb : Nat} {st : Int} {w w' w2 : World} {A A2 : Option Addr} {c c2 : Nat} {bl : List Nat} {xs : List Lf}
theorem SnapAt.fr (h : SnapAt B b3 b6 fb st w A c bl xs) (hk : ∀ k, SnapJ b3 b6 fb A bl k → w'.heap[k]? = w.heap[k]?) : SnapAt B b3 b6 fb st w' A c bl xs :=
  ⟨h.lo3, h.lo6, h.lof, (hk b3 (.inl rfl)).trans h.blk3, (hk b6 (.inr (.inl rfl))).trans h.blk6, (hk fb (.inr (.inr (.inl rfl)))).trans h.blk,
    row_stays h.row fun k hk2 => hk k (.inr (.inr (.inr (.inl (own_eq.1 hk2))))), h.len, fun i k x hi hx => ⟨(h.lives i k x hi hx).1, (hk k (.inr (.inr (.inr (.inr (List.mem_of_getElem? hi)))))).trans (h.lives i k x hi hx).2⟩⟩
theorem SnapAt.lt (h : SnapAt B b3 b6 fb st w A c bl xs) {k : Nat} (hk : SnapJ b3 b6 fb A bl k) : B ≤ k ∧ k < w.heap.size := by
  rcases hk with rfl | rfl | rfl | hk | hk
  · exact ⟨h.lo3, h.blk3.lt⟩
  · exact ⟨h.lo6, h.blk6.lt⟩
  · exact ⟨h.lof, h.blk.lt⟩
  · exact h.row.lt k (own_eq.2 hk)
  · obtain ⟨i, hi, he⟩ := List.mem_iff_getElem.1 hk
    have hk' : bl[i]? = some k := by rw [List.getElem?_eq_getElem hi, he]
    have hx : xs[i]? = some (xs[i]'(by rw [← h.len]; exact hi)) := List.getElem?_eq_getElem _
    exact ⟨(h.lives i k _ hk' hx).1, (h.lives i k _ hk' hx).2.lt⟩
theorem SnapAt.at_ (h : SnapAt B b3 b6 fb st w A c bl xs) {i : Nat} {x : Lf} (hx : xs[i]? = some x) : ∃ g k, A = some ⟨g, 0, none⟩ ∧ w.cell? ⟨g, i, none⟩ = some (.pointer (some ⟨k, 0, none⟩)) ∧ Blk w k x.cells 58 ∧ g < w.heap.size := by
  have hi : i < bl.length := by rw [h.len]; exact (List.getElem?_eq_some_iff.1 hx).1
  have hk : bl[i]? = some (bl[i]'hi) := List.getElem?_eq_getElem _
  obtain ⟨g, hg, hc, -⟩ := row_cell h.row i (ptr (bl[i]'hi)) (by simp [hk])
  exact ⟨g, _, hg, hc, (h.lives i _ x hk hx).2, World.block_lt_of_cell? w _ hc⟩
/-- Empty again. -/
theorem SnapAt.empty (h : SnapAt B b3 b6 fb st w A c bl xs) : SnapAt B b3 b6 fb st (w.setCell ⟨fb, 0, none⟩ (.slice none 0 0)) none 0 [] [] :=
  ⟨h.lo3, h.lo6, h.lof, h.blk3.far (h.blk3.ne h.blk (by decide)) _, h.blk6.far (h.blk6.ne h.blk (by decide)) _, Blk.cast (h.blk.set 0 _) rfl, World.ownsRow_nil _ _ _ _, rfl, fun i k x hi hx => by simp at hi⟩
/-- A life more. -/
theorem SnapAt.push {k : Nat} {x : Lf} (h : SnapAt B b3 b6 fb st w A c bl xs) (hf : Fr (fun j => (Value.slice A 0 0).ownBlock = some j) w w2) (hB : B ≤ k) (hk : Blk w2 k x.cells 58)
    (hown : w2.ownsRow B 56 1 (.slice A2 (xs.length + 1) c2) (xs.length + 1) (bl.map ptr ++ [ptr k])) : SnapAt B b3 b6 fb st (w2.setCell ⟨fb, 0, none⟩ (.slice A2 (xs.length + 1) c2)) A2 c2 (bl ++ [k]) (xs ++ [x]) := by
  have hno : ∀ q cs t, Blk w q cs t → t ≠ 56 → ¬ (Value.slice A 0 0).ownBlock = some q := fun q cs t hb ht e => row_ne h.row hb ht (own_eq.2 e)
  have hb3 := hf.blk h.blk3 (hno _ _ _ h.blk3 (by decide))
  have hb6 := hf.blk h.blk6 (hno _ _ _ h.blk6 (by decide))
  have hbf := hf.blk h.blk (hno _ _ _ h.blk (by decide))
  refine ⟨h.lo3, h.lo6, h.lof, hb3.far (hb3.ne hbf (by decide)) _, hb6.far (hb6.ne hbf (by decide)) _, ?_, ?_, by simp [h.len], ?_⟩
  · have := hbf.set 0 (.slice A2 (xs.length + 1) c2)
    simpa using this
  · simp only [List.length_append, List.length_singleton, List.map_append, List.map_cons, List.map_nil]
    exact ownsRow_setCell_other hown (row_ne hown hbf (by decide)) _
  · intro i q y hi hy
    by_cases hil : i < bl.length
    · rw [List.getElem?_append_left hil] at hi
      rw [List.getElem?_append_left (by rw [← h.len]; exact hil)] at hy
      have hb := (h.lives i q y hi hy).2
      have hb2 := hf.blk hb (hno _ _ _ hb (by decide))
      exact ⟨(h.lives i q y hi hy).1, hb2.far (hb2.ne hbf (by decide)) _⟩
    · have hil2 : i = bl.length := by
        have := (List.getElem?_eq_some_iff.1 hi).1
        simp at this; omega
      subst hil2
      rw [List.getElem?_append_right (Nat.le_refl _), Nat.sub_self] at hi
      rw [h.len, List.getElem?_append_right (Nat.le_refl _), Nat.sub_self] at hy
      simp only [List.getElem?_cons_zero, Option.some.injEq] at hi hy
      subst hi hy
      exact ⟨hB, hk.far (hk.ne hbf (by decide)) _⟩
end

def sumNow (xs : List Lf) (k : Nat) : Int := ((xs.take k).map Lf.now).sum
theorem sumNow_succ {xs : List Lf} {k : Nat} {x : Lf} (h : xs[k]? = some x) : sumNow xs (k + 1) = sumNow xs k + x.now := by
  unfold sumNow; rw [List.take_add_one, h]; simp
theorem sumNow_bd {xs : List Lf} (h : ∀ x ∈ xs, 0 ≤ x.now ∧ x.now ≤ 90000) : ∀ k : Nat, 0 ≤ sumNow xs k ∧ sumNow xs k ≤ k * 90000
  | 0 => by simp [sumNow]
  | k + 1 => by
    have ih := sumNow_bd h k
    cases e : xs[k]? with
    | none =>
      have : sumNow xs (k + 1) = sumNow xs k := by unfold sumNow; rw [List.take_add_one, e]; simp
      rw [this]; omega
    | some x =>
      rw [sumNow_succ e]
      have := h x (List.mem_of_getElem? e)
      omega
set_option maxRecDepth 100000 in
set_option maxHeartbeats 1000000 in
theorem snap_pages {B b3 b6 fb : Nat} {st : Int} {w : World} {A : Option Addr} {c : Nat} {bl : List Nat} {xs : List Lf} (h : SnapAt B b3 b6 fb st w A c bl xs) (hl : xs.length ≤ 4000) (hb : ∀ x ∈ xs, 0 ≤ x.fin ∧ x.fin ≤ 900000) :
    Calls Try.prog 31 #[.pointer (some ⟨fb, 0, none⟩)] w fun e w' => e = .returned (.int .i64 (xs.map Lf.now).sum) ∧ w' = w := by
  have c0 : w.cell? ⟨fb, 0, none⟩ = some (.slice A xs.length c) := h.blk.cell 0
  have hfl := h.blk.lt
  have H := Lib.hid h
  have HB := Lib.hid hb
  clear h hb
  go_enter Try.func31, Try.ntmps31
  go_wp2_with fail
  go_loop [3, 11, 5] (fun sv i _ => ∃ k : Nat, k ≤ xs.length ∧ i = .int .i64 k ∧ sv = .int .i64 (sumNow xs k)) (fun _ i _ => xs.length - (intOf i).toNat)
  case atStart => exact ⟨0, by omega, rfl, by simp [sumNow]⟩
  case round =>
    obtain ⟨k, hk, rfl, rfl⟩ := hrel
    have hp := sumNow_bd (xs := xs) (fun x hx => now_bd (HB.out x hx).1 (HB.out x hx).2) k
    by_cases hlt : k < xs.length
    · have hx : xs[k]? = some (xs[k]'hlt) := List.getElem?_eq_getElem _
      generalize (xs[k]'hlt) = x at hx
      obtain ⟨g, q, hA, hc, hblk, hgl⟩ := H.out.at_ hx
      subst hA
      have hxs := HB.out x (List.mem_of_getElem? hx)
      have hs := Lib.hid (sumNow_succ hx)
      have hnb := now_bd hxs.1 hxs.2
      have l0 : w.cell? ⟨q, 0, none⟩ = some (.int .i64 x.words) := hblk.cell 0
      have l1 : w.cell? ⟨q, 1, none⟩ = some (.int .i64 x.fin) := hblk.cell 1
      clear hx hblk
      go_wp2_with (go_at_call 40; refine (lifeNow q x _ l0 l1 (by omega) (by omega)).mono ?_; rintro e w' ⟨rfl, rfl⟩)
      go_round
      case rel => exact ⟨k + 1, by omega, by go_num, by rw [hs.out]⟩
      case measure => simp [intOf]; omega
    · have hk2 : k = xs.length := by omega
      have HK2 := Lib.hid hk2
      clear hk2
      go_wp2_with fail
      go_ret
      exact ⟨by rw [HK2.out]; unfold sumNow; rw [List.take_length]; rfl, rfl⟩
end Go.Proofs.Ytnloffjjlhhanaa
