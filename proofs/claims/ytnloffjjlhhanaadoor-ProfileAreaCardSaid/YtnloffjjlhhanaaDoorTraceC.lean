/- The reference's lives that are open, and its pages. -/
import Derived.Test.YtnloffjjlhhanaaDoorTraceB
set_option linter.unusedVariables false
set_option linter.unusedSimpArgs false
namespace Go.Proofs.YtnloffjjlhhanaaDoor
open Go.RowKit
open Go.Proofs

def Tr.livesTo (t : Tr) (k : Nat) : List Nat := (keptN (fun p : Nat × Nat => t.hole == (p.2 : Int) + 1) t.st.op.zipIdx k).map (·.1)
def Tr.lives (t : Tr) : List Nat := t.livesTo t.st.op.length
theorem livesTo_succ (t : Tr) (k i : Nat) (h : t.st.op[k]? = some i) : t.livesTo (k + 1) = t.livesTo k ++ (if (t.hole == (k : Int) + 1) = true then [] else [i]) := by
  unfold Tr.livesTo
  rw [keptN_succ _ _ _ _ (zip_at h)]
  cases hb : (t.hole == (k : Int) + 1) <;> simp [hb]
theorem livesTo_len (t : Tr) (k : Nat) : (t.livesTo k).length ≤ k := by
  unfold Tr.livesTo
  rw [List.length_map]
  exact keptN_len _ _ _
theorem lives_sub (t : Tr) : ∀ i ∈ t.lives, i ∈ t.st.op := by
  intro i hi
  unfold Tr.lives Tr.livesTo keptN at hi
  simp only [List.mem_map, List.mem_filter] at hi
  obtain ⟨p, ⟨hp, -⟩, rfl⟩ := hi
  have := List.mem_of_mem_take hp
  obtain ⟨j, hj, he⟩ := List.mem_iff_getElem.1 this
  rw [← he, List.getElem_zipIdx]
  exact List.getElem_mem _

/-- How many pages are in use. -/
def Tr.pagesTo (t : Tr) (n : Nat) : Int := ((t.lives.take n).map fun i => (t.st.lf.getD i default).now).sum
def Tr.pages (t : Tr) : Int := (t.lives.map fun i => (t.st.lf.getD i default).now).sum
theorem trPagesTo_succ (t : Tr) (n i : Nat) (h : t.lives[n]? = some i) : t.pagesTo (n + 1) = t.pagesTo n + (t.st.lf.getD i default).now := by
  unfold Tr.pagesTo; rw [List.take_add_one, h]; simp
theorem trPagesTo_bd (t : Tr) (hs : ∀ i ∈ t.st.op, 0 ≤ (t.st.lf.getD i default).now ∧ (t.st.lf.getD i default).now ≤ 90000) (n : Nat) : 0 ≤ t.pagesTo n ∧ t.pagesTo n ≤ n * 90000 := by
  induction n with
  | zero => simp [Tr.pagesTo]
  | succ n ih =>
    cases e : t.lives[n]? with
    | none =>
      have : t.pagesTo (n + 1) = t.pagesTo n := by unfold Tr.pagesTo; rw [List.take_add_one, e]; simp
      rw [this]; omega
    | some i =>
      rw [trPagesTo_succ _ _ _ e]
      have := hs i (lives_sub t i (List.mem_of_getElem? e))
      omega
theorem trPages_bd {m : Nat} {t : Tr} (h : Bd m t.st) (hm : m ≤ 4000) : 0 ≤ t.pages ∧ t.pages ≤ 360000000 := by
  have h1 := trPagesTo_bd t (h.nows hm) t.lives.length
  have h2 : t.pagesTo t.lives.length = t.pages := by unfold Tr.pagesTo Tr.pages; rw [List.take_length]
  have h3 := livesTo_len t t.st.op.length
  have := h.op
  rw [h2] at h1
  unfold Tr.lives at h1
  omega

end Go.Proofs.YtnloffjjlhhanaaDoor
