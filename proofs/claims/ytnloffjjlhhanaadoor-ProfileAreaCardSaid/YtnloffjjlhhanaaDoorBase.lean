/- Small facts on worlds: whole blocks, frames, rows of the call's own. -/
import Derived.Test.YtnloffjjlhhanaaDoorRows
import Derived.WalkKit
import Derived.Lib.Hide
import Derived.BigQuiet
import Derived.Deep.QuietTactic
import Derived.StillTailTactics
import Derived.WalkSpells
import Derived.WalkSmall
import Derived.Maps.AppendAt
import Derived.Deep.DeepCutAuto
import Derived.Deep.LoopGhost
set_option linter.unusedVariables false
set_option linter.unusedSimpArgs false
namespace Go.Proofs.YtnloffjjlhhanaaDoor
open Go.RowKit
open Go.Proofs

theorem ret_int {k : IntKind} {a b : Int} (h : a = b) : Ending.returned (.int k a) = .returned (.int k b) := by rw [h]
theorem ret_bool {a b : Bool} (h : a = b) : Ending.returned (.bool a) = .returned (.bool b) := by rw [h]

/-- A region that draws its order: reads, and behind them a tail in one order; the world stays spelled by 'drew'. -/
theorem region_tail {P : Program} {id : Nat} {Q : Exit → Act → World → Prop} {a : Act} {w : World} {l : List Oper} (n : Nat) (hm : P.follows .mixedOrders = true) (hB : Region.lexTailB .any l.toArray n = true)
    (h : wpStill P l.toArray w.drew (fun a' => wpList P l.toArray Q (l.drop n) a' w.drew) (l.take n) a) : (Code.region id l.toArray true).wp P Q a w := wp_region_still_tail n hm hB h

/-- A block known whole. -/
def Blk (w : World) (k : Nat) (cs : Array Value) (t : TypeId) : Prop := w.heap[k]? = some (.cells cs t (0, 0))
section
variable {w w' : World} {k : Nat} {cs : Array Value} {t : TypeId}
theorem Blk.cell (h : Blk w k cs t) (j : Nat) : w.cell? ⟨k, j, none⟩ = cs[j]? := by
  unfold Blk at h
  simp [World.cell?, h]
theorem Blk.free (h : Blk w k cs t) (j : Nat) : w.frozen? ⟨k, j, none⟩ = false := by
  unfold Blk at h
  simp [World.frozen?, h]
theorem Blk.cast {cs' : Array Value} (h : Blk w k cs t) (e : cs = cs') : Blk w k cs' t := e ▸ h
theorem Blk.lt (h : Blk w k cs t) : k < w.heap.size := lt_of_block h
theorem Blk.set (h : Blk w k cs t) (j : Nat) (u : Value) : Blk (w.setCell ⟨k, j, none⟩ u) k (cs.setIfInBounds j u) t := by
  unfold Blk at h ⊢
  simp [World.setCell, Array.getElem?_modify, h]
theorem Blk.far (h : Blk w k cs t) {a : Addr} (ha : k ≠ a.block) (u : Value) : Blk (w.setCell a u) k cs t := by
  unfold Blk at h ⊢
  rw [Below.heap_setCell _ _ _ _ ha]; exact h
theorem Blk.alloc (h : Blk w k cs t) (o : Obj) : Blk (w.alloc o) k cs t := by
  unfold Blk at h ⊢
  rw [Below.heap_alloc _ _ _ (lt_of_block h)]; exact h
theorem Blk.new (w : World) (cs : Array Value) (t : TypeId) : Blk (w.alloc (.cells cs t)) w.heap.size cs t := heap_alloc_new w _
theorem Blk.new' (w : World) (cs : Array Value) (t : TypeId) (k : Nat) (hk : k = w.heap.size) : Blk (w.alloc (.cells cs t)) k cs t := hk ▸ Blk.new w cs t
theorem cell_one_at (w : World) (x : Value) (t : TypeId) (b : Nat) (hb : b = w.heap.size) : ∀ j u, [x][j]? = some u → (w.alloc (.cells #[x] t)).cell? ((⟨b, 0, none⟩ : Addr).add j) = some u := hb ▸ cell_one_new w x t
theorem Blk.drewN (h : Blk w k cs t) (n : Nat) : Blk (w.drewN n) k cs t := h
end

/-- The frame: only blocks of S, and new ones, may have turned. -/
structure Fr (S : Nat → Prop) (w w' : World) : Prop where
  os : w'.os = w.os
  tape : w'.tape = w.tape
  output : w'.output = w.output
  size : w.heap.size ≤ w'.heap.size
  block : ∀ k, k < w.heap.size → ¬ S k → w'.heap[k]? = w.heap[k]?
def No (_ : Nat) : Prop := False
section
variable {S S' : Nat → Prop} {w w1 w2 : World}
theorem Fr.refl (S : Nat → Prop) (w : World) : Fr S w w := ⟨rfl, rfl, rfl, Nat.le_refl _, fun _ _ _ => rfl⟩
theorem Fr.trans (h : Fr S w w1) (k : Fr S w1 w2) : Fr S w w2 :=
  ⟨k.os.trans h.os, k.tape.trans h.tape, k.output.trans h.output, Nat.le_trans h.size k.size, fun i hi hs => (k.block i (Nat.lt_of_lt_of_le hi h.size) hs).trans (h.block i hi hs)⟩
/-- The second step may also turn what the first one has made. -/
theorem Fr.then (h : Fr S w w1) (k : Fr S' w1 w2) (hs : ∀ i, i < w.heap.size → S' i → S i) : Fr S w w2 :=
  ⟨k.os.trans h.os, k.tape.trans h.tape, k.output.trans h.output, Nat.le_trans h.size k.size, fun i hi hn => (k.block i (Nat.lt_of_lt_of_le hi h.size) (fun e => hn (hs i hi e))).trans (h.block i hi hn)⟩
theorem Fr.wider (h : Fr S w w1) (hs : ∀ i, i < w.heap.size → S i → S' i) : Fr S' w w1 :=
  ⟨h.os, h.tape, h.output, h.size, fun i hi hn => h.block i hi (fun e => hn (hs i hi e))⟩
theorem Fr.then0 (h : Fr No w w1) (k : Fr S' w1 w2) (hs : ∀ i, i < w.heap.size → S' i → S i) : Fr S w w2 := (h.wider fun _ _ e => e.elim).then k hs
theorem Fr.alloc (h : Fr S w w1) (o : Obj) : Fr S w (w1.alloc o) :=
  ⟨h.os, h.tape, h.output, by simp; have := h.size; omega, fun i hi hn => by rw [Below.heap_alloc _ _ _ (Nat.lt_of_lt_of_le hi h.size)]; exact h.block i hi hn⟩
theorem Fr.drewN (h : Fr S w w1) (n : Nat) : Fr S w (w1.drewN n) := ⟨h.os, h.tape, h.output, h.size, h.block⟩
theorem Fr.drew (h : Fr S w w1) : Fr S w w1.drew := ⟨h.os, h.tape, h.output, h.size, h.block⟩
theorem Fr.setCell (h : Fr S w w1) {a : Addr} (ha : S a.block ∨ w.heap.size ≤ a.block) (u : Value) : Fr S w (w1.setCell a u) :=
  ⟨h.os, h.tape, h.output, by simp [World.setCell]; exact h.size, fun i hi hn => by
    rw [Below.heap_setCell _ _ _ _ (by rintro rfl; rcases ha with ha | ha; exact hn ha; omega)]; exact h.block i hi hn⟩
theorem Fr.setCells {b : Nat} (hb : S b) : ∀ (vs : List Value) (o : Nat) {w1 : World}, Fr S w w1 → Fr S w (w1.setCells b o vs)
  | [], _, _, h => h
  | v :: vs, o, _, h => Fr.setCells hb vs (o + 1) (Fr.setCell (a := ⟨b, o, none⟩) h (.inl hb) v)
theorem Fr.put {k : Nat} (h : Fr (fun j => j = k) w w1) (j : Nat) (u : Value) : Fr (fun j => j = k) w (w1.setCell ⟨k, j, none⟩ u) := h.setCell (.inl rfl) u
theorem Fr.grown {row : Option Nat} (h : Fr S w w1) (hg : w1.grownBy w2 row) (hr : ∀ k, row = some k → S k ∨ w.heap.size ≤ k) : Fr S w w2 :=
  ⟨hg.os.trans h.os, hg.tape.trans h.tape, hg.output.trans h.output, Nat.le_trans h.size hg.size, fun i hi hn => by
    rw [hg.block i (Nat.lt_of_lt_of_le hi h.size) (fun e => by rcases hr i e.symm with h1 | h1; exact hn h1; omega)]; exact h.block i hi hn⟩
theorem Fr.cell (h : Fr S w w1) {k j : Nat} (hk : k < w.heap.size) (hs : ¬ S k) : w1.cell? ⟨k, j, none⟩ = w.cell? ⟨k, j, none⟩ := World.cell?_of_block (h.block k hk hs)
theorem Fr.blk (h : Fr S w w1) {k : Nat} {cs : Array Value} {t : TypeId} (hb : Blk w k cs t) (hs : ¬ S k) : Blk w1 k cs t := (h.block k hb.lt hs).trans hb
theorem Fr.below {B : Nat} (h : Fr S w w1) (hB : B ≤ w.heap.size) (hs : ∀ i, S i → B ≤ i) : Below B w w1 :=
  ⟨h.os, h.tape, h.output, h.size, fun k hk => h.block k (by omega) (fun e => by have := hs k e; omega)⟩
theorem Fr.quiet (n : Nat) : Fr S w (w.drewN n) := (Fr.refl S w).drewN n
end
section
variable {w w1 : World} {B : Nat} {e : TypeId} {size n : Nat} {v : Value} {xs : List Value}
/-- A row of the call's own, while its block stays as it is. -/
theorem row_stays (h : w.ownsRow B e size v n xs) (hk : ∀ k, v.ownBlock = some k → w1.heap[k]? = w.heap[k]?) : w1.ownsRow B e size v n xs := by
  refine ⟨h.1, ?_⟩
  rcases h.2 with hn | ⟨g, cap, cur, rfl, hb, hgg, rest⟩
  · exact .inl hn
  · exact .inr ⟨g, cap, cur, rfl, hb, by rw [hk g rfl]; exact hgg, rest⟩
theorem row_drewN (h : w.ownsRow B e size v n xs) (q : Nat) : (w.drewN q).ownsRow B e size v n xs := h
theorem row_slice (h : w.ownsRow B e size v n xs) : ∃ A cap, v = .slice A n cap ∧ (0 < n → ∃ g, A = some ⟨g, 0, none⟩) := by
  rcases h.2 with ⟨rfl, hn⟩ | ⟨g, cap, cur, rfl, _⟩
  · exact ⟨none, 0, by rw [hn], fun h => by omega⟩
  · exact ⟨_, _, rfl, fun _ => ⟨g, rfl⟩⟩
theorem row_cell {A : Option Addr} {cap : Nat} (h : w.ownsRow B e size (.slice A n cap) n xs) (j : Nat) (u : Value) (hu : xs[j]? = some u) : ∃ g, A = some ⟨g, 0, none⟩ ∧ w.cell? ⟨g, j, none⟩ = some u ∧ w.frozen? ⟨g, j, none⟩ = false := by
  have hj : j < n * size := by rw [← h.1]; exact (List.getElem?_eq_some_iff.1 hu).1
  have hn : 0 < n := by rcases Nat.eq_zero_or_pos n with h0 | h0; · rw [h0] at hj; omega
                        · exact h0
  obtain ⟨A', cap', hv, hA⟩ := row_slice h
  simp only [Value.slice.injEq] at hv
  obtain ⟨rfl, -, rfl⟩ := hv
  obtain ⟨g, rfl⟩ := hA hn
  exact ⟨g, rfl, by rw [h.cellAt j hj, hu], h.frozenAt j⟩
end
/-- A row's block is none of another element type. -/
theorem row_ne {w : World} {B : Nat} {e : TypeId} {size n : Nat} {v : Value} {xs : List Value} (h : w.ownsRow B e size v n xs) {k : Nat} {cs : Array Value} {t : TypeId} (hb : Blk w k cs t) (ht : t ≠ e) : v.ownBlock ≠ some k := by
  intro hk
  rcases h.2 with ⟨rfl, _⟩ | ⟨g, cap, cur, rfl, _, hgg, _⟩
  · simp [Value.ownBlock] at hk
  · simp [Value.ownBlock] at hk
    subst hk
    unfold Blk at hb
    rw [hgg] at hb
    simp only [Option.some.injEq, Obj.cells.injEq] at hb
    exact ht hb.2.1.symm
theorem own_eq {A : Option Addr} {n c k : Nat} : (Value.slice A n c).ownBlock = some k ↔ (Value.slice A 0 0).ownBlock = some k := by cases A <;> simp [Value.ownBlock]
theorem own_is {A : Option Addr} {n c : Nat} : (Value.slice A n c).ownBlock = (Value.slice A 0 0).ownBlock := by cases A <;> simp [Value.ownBlock]
end Go.Proofs.YtnloffjjlhhanaaDoor
