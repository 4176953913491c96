/- The events of a law's argument, opened. -/
import Derived.Test.YtnloffjjlhhanaaDoorMost
import Derived.ProofKit
import Derived.OpenShut
import Derived.ShutString
import Derived.ChangeOld
import Derived.Deep.Slices
import Derived.Deep.Fields
import Derived.ChangeSame
set_option linter.unusedVariables false
set_option linter.unusedSimpArgs false
namespace Go.Proofs.YtnloffjjlhhanaaDoor
open Go.RowKit Go.ChangeShapes Go.WideShapes Go.Deep
open Go.Proofs

theorem own : ownKnob Tryd.prog.godebug = none := by kernel_rfl
theorem laidOut : laidOutB Tryd.prog = true := by kernel_rfl
section
variable {H : Type} {enc : TypeId × Value → H} {P : Program} {w : World} {base : Nat} {spare : Nat → Bool} {held : Bool}
theorem open_slice_fields {t e : TypeId} {fs : Array Field} {fuel : Nat} {cs : List Value} {x : DataW H × List MemPlace} (ht : P.underlying t = some (.slice e)) (he : P.underlying e = some (.struct fs))
    (hone : oneCellFields P fs = true) (hC : P.cellsOf e = fs.size) (h : DataW.trod enc P w base spare held fuel t cs = some x) :
    (cs = [.slice none 0 0] ∧ x = (.nil, [])) ∨
    ∃ (a : Addr) (len cap m : Nat) (D : Nat → DataW H) (Pl : Nat → List MemPlace), cs = [.slice (some a) len cap] ∧ base ≤ a.block ∧ len ≤ cap ∧ cap ≤ maxLen ∧ m = (if spare a.block then cap else len) ∧
      x = (.slice ((List.range len).map D) ((List.range (m - len)).map fun j => D (len + j)), MemPlace.row a (m * fs.size) ++ (List.range m).flatMap Pl) ∧
      ∀ i, i < m → ∃ (ys : List (DataW H × List MemPlace)) (n : Nat), D i = .agg (ys.map (·.1)) ∧ Pl i = ys.flatMap (·.2) ∧ ys.length = fs.size ∧
        ∀ (j : Nat) (f : Field), fs[j]? = some f → ∃ (v : Value) (y : DataW H × List MemPlace), w.cell? (a.add (i * fs.size + j)) = some v ∧ ys[j]? = some y ∧ DataW.trod enc P w base spare held n f.type [v] = some y := by
  rcases open_slice ht h with h0 | ⟨a, len, cap, m, n, D, Pl, hcs, hb, hl, hm, hmm, hx, hi⟩
  · exact .inl h0
  · refine .inr ⟨a, len, cap, m, D, Pl, hcs, hb, hl, hm, hmm, by rw [hC] at hx; exact hx, fun i him => ?_⟩
    obtain ⟨cs', hc, ht'⟩ := hi i him
    rw [hC] at hc
    obtain ⟨ys, n', hn', hy, hlen, hyl, hf⟩ := DataW.trod_struct he ht'
    obtain ⟨_, hcl, hat⟩ := World.cells?_some hc
    simp only [Prod.mk.injEq] at hy
    refine ⟨ys, n', hy.1, hy.2, hyl, fun j f hj => ?_⟩
    obtain ⟨ho, hk⟩ := hone_of hone j f hj
    have hjl : j < fs.size := (Array.getElem?_eq_some_iff.1 hj).1
    have hcell := hat j hjl
    have hv : cs'[j]? = some (cs'[j]'(by omega)) := List.getElem?_eq_getElem (by omega)
    have h1 := hf j f hj
    rw [ho, hk] at h1
    have hone' : (cs'.drop j).take 1 = [cs'[j]'(by omega)] := by
      rw [List.drop_eq_getElem_cons (by omega)]
      rfl
    rw [hone'] at h1
    have hys : ys[j]? = some (ys[j]'(by omega)) := List.getElem?_eq_getElem (by omega)
    refine ⟨_, _, ?_, hys, h1.trans hys⟩
    rw [← Go.Deep.add_add, hcell, hv]
end
theorem list_of {α : Type} (n : Nat) (Q : Nat → α → Prop) (h : ∀ i, i < n → ∃ x, Q i x) : ∃ l : List α, l.length = n ∧ ∀ i x, l[i]? = some x → Q i x := by
  induction n with
  | zero => exact ⟨[], rfl, fun i x hx => by simp at hx⟩
  | succ n ih =>
    obtain ⟨l, hl, hq⟩ := ih (fun i hi => h i (by omega))
    obtain ⟨x, hx⟩ := h n (by omega)
    refine ⟨l ++ [x], by simp [hl], fun i y hy => ?_⟩
    rcases Nat.lt_or_ge i l.length with hi | hi
    · rw [List.getElem?_append_left hi] at hy; exact hq i y hy
    · rw [List.getElem?_append_right hi] at hy
      have hi0 : i - l.length = 0 := by have := (List.getElem?_eq_some_iff.1 hy).1; simp at this; omega
      rw [hi0] at hy
      simp only [List.getElem?_cons_zero, Option.some.injEq] at hy
      subst hy
      have : i = n := by omega
      subst this
      exact hx
theorem cells_ev : Tryd.prog.cellsOf 52 = 4 := by kernel_rfl
/-- The events that an argument reads as. -/
theorem open_evs {H : Type} {enc : TypeId × Value → H} {W : World} {A : Option Addr} {n cap fuel : Nat} {x : DataW H × List MemPlace}
    (h : DataW.trod enc Tryd.prog W 0 (fun _ => true) true fuel 22 [.slice A n cap] = some x) : ∃ l : List Ev, n = l.length ∧ l.length ≤ cap ∧ n ≤ 9223372036854775807 ∧ Evs W.heap.size W A l := by
  rcases open_slice_fields Tryd.underlying22 Tryd.underlying52 (by kernel_rfl) cells_ev h with ⟨hcs, -⟩ | ⟨a, len, cap', m, D, Pl, hcs, -, hl, hm, hmm, -, hi⟩
  · simp only [List.cons.injEq, Value.slice.injEq, and_true] at hcs
    obtain ⟨rfl, rfl, rfl⟩ := hcs
    exact ⟨[], rfl, by simp, by omega, fun i e he => by simp at he⟩
  · simp only [List.cons.injEq, Value.slice.injEq, and_true] at hcs
    obtain ⟨rfl, rfl, rfl⟩ := hcs
    simp only [if_true] at hmm
    subst hmm
    have hq : ∀ i, i < n → ∃ e : Ev, ∃ b off, some a = some (⟨b, off, none⟩ : Addr) ∧ b < W.heap.size ∧ b < W.heap.size ∧
        W.cell? ⟨b, off + i * 4, none⟩ = some (.int .i64 e.step) ∧ W.cell? ⟨b, off + i * 4 + 1, none⟩ = some (.int .i64 e.life) ∧ W.cell? ⟨b, off + i * 4 + 2, none⟩ = some (.int .i64 e.words) ∧ W.cell? ⟨b, off + i * 4 + 3, none⟩ = some (.string e.act) := by
      intro i hin
      obtain ⟨ys, k, -, -, -, hf⟩ := hi i (by omega)
      obtain ⟨v0, y0, c0, -, t0⟩ := hf 0 _ rfl
      obtain ⟨v1, y1, c1, -, t1⟩ := hf 1 _ rfl
      obtain ⟨v2, y2, c2, -, t2⟩ := hf 2 _ rfl
      obtain ⟨v3, y3, c3, -, t3⟩ := hf 3 _ rfl
      obtain ⟨s0, e0, -, -⟩ := DataW.trod_int Tryd.underlying3 t0
      obtain ⟨s1, e1, -, -⟩ := DataW.trod_int Tryd.underlying3 t1
      obtain ⟨s2, e2, -, -⟩ := DataW.trod_int Tryd.underlying3 t2
      obtain ⟨s3, e3, -, -⟩ := DataW.trod_string Tryd.underlying9 t3
      simp only [List.cons.injEq, and_true] at e0 e1 e2 e3
      subst e0 e1 e2 e3
      obtain ⟨b, off, spot⟩ := a
      have hsp : spot = none := by
        obtain ⟨ys', k', -, -, -, hf'⟩ := hi 0 (by omega)
        obtain ⟨v, y, c, -, -⟩ := hf' 0 _ rfl
        have := World.cell?_spot c
        simpa [Addr.add] using this
      subst hsp
      have had : ∀ k, (⟨b, off, none⟩ : Addr).add k = ⟨b, off + k, none⟩ := fun k => by unfold Addr.add; split <;> simp_all
      rw [had] at c0 c1 c2 c3
      have hb := World.block_lt_of_cell? W _ c0
      exact ⟨⟨s0, s1, s2, s3⟩, b, off, rfl, hb, hb, c0, c1, c2, c3⟩
    obtain ⟨l, hll, hQ⟩ := list_of n _ hq
    subst hll
    exact ⟨l, rfl, hl, by unfold maxLen at hm; omega, fun i e he => hQ i e he⟩
end Go.Proofs.YtnloffjjlhhanaaDoor
