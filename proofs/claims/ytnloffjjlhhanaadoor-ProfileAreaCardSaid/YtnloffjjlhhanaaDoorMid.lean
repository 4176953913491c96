/- A region that draws its order: reads first, then one or two operations that make memory, then a tail in one order; S holds of the world till the tail begins. -/
import Derived.Test.YtnloffjjlhhanaaDoorTraceC
import Derived.Deep.RegionHeld3
import Derived.Deep.AppendLies
set_option linter.unusedVariables false
set_option linter.unusedSimpArgs false
namespace Go.Proofs.YtnloffjjlhhanaaDoor
open Go.RowKit
open Go.Proofs

section
variable {P : Program} {ops : Array Oper} {Q : Exit → Act → World → Prop} {md : Region.Mode} {S : World → Prop}

/-- Whatever order is picked from here on, and S holds behind every operation whose number is less than m. -/
def wpAnyM (P : Program) (md : Region.Mode) (ops : Array Oper) (Q : Exit → Act → World → Prop) (S : World → Prop) (m : Nat) : Nat → Array Bool → Act → World → Prop
  | 0, listed, a, w => Region.ready md ops listed = [] ∧ Q .normal a w
  | fuel + 1, listed, a, w =>
    (Region.ready md ops listed = [] → Q .normal a w) ∧
    ∀ i ∈ Region.ready md ops listed, wpOp P ops Q i (fun a' w' => (i < m → S w') ∧ wpAnyM P md ops Q S m fuel (listed.setIfInBounds i true) a' w') a w

theorem wpAny_of_M {m : Nat} : ∀ (fuel : Nat) (listed : Array Bool) (a : Act) (w : World), wpAnyM P md ops Q S m fuel listed a w → wpAny P md ops Q fuel listed a w
  | 0, _, _, _, h => h
  | fuel + 1, _, _, _, h => ⟨h.1, fun i hi => wpOp_mono (fun a' w' h' => wpAny_of_M fuel _ a' w' h'.2) (h.2 i hi)⟩

theorem wpAnyM_first {m i : Nat} {oi : Oper} {v : Value} (hi : ops[i]? = some oi) (hsel : ∀ (j : Nat) (o : Oper) cs b, ops[j]? = some o → o.op ≠ .select cs b)
    (hQ : ∀ c a w, Q (.panic c) (a.put oi.dst v) w → Q (.panic c) a w) (hm : ∀ j, m ≤ j → j < ops.size → Region.waitsFor md ops j i = true) :
    ∀ (fuel : Nat) (listed : Array Bool) (a : Act) (w : World),
      (∀ j oj, ops[j]? = some oj → j ≠ i → listed.getD j true = false → (∀ e ∈ oj.after, Region.binds md e = true → e.on ≠ i) → oi.apart ops oj = true) →
      i ∈ Region.ready md ops listed → YieldsIf P ops S oi v a → S w →
      wpAnyM P md ops Q S m fuel (listed.setIfInBounds i true) (a.put oi.dst v) w → wpAnyM P md ops Q S m (fuel + 1) listed a w := by
  intro fuel
  induction fuel with
  | zero =>
    intro listed a w _ hr hy hS H
    refine ⟨fun h => (by rw [h] at hr; cases hr), fun j hj => ?_⟩
    by_cases hji : j = i
    · subst hji; exact hy.wpOp hi hS ⟨fun _ => hS, H⟩
    · have := ready_mono hj hji
      rw [H.1] at this
      cases this
  | succ fuel ih =>
    intro listed a w hfree hr hy hS H
    refine ⟨fun h => (by rw [h] at hr; cases hr), fun j hj => ?_⟩
    by_cases hji : j = i
    · subst hji; exact hy.wpOp hi hS ⟨fun _ => hS, H⟩
    · have h1 := H.2 j (ready_mono hj hji)
      obtain ⟨hjun, oj, hoj, hall⟩ := mem_ready.1 hj
      have hnot : ∀ e ∈ oj.after, Region.binds md e = true → e.on ≠ i := fun e he hb heq => by
        have h1 := hall e he hb
        have h0 := (mem_ready.1 hr).1
        rw [heq, getD_both h0] at h1
        cases h1
      have hjm : j < m := by
        rcases Nat.lt_or_ge j m with h | h
        · exact h
        · obtain ⟨oj', hoj', e, he, hb, hon⟩ := Region.waitsFor_spec (hm j h (Array.getElem?_eq_some_iff.1 hoj).1)
          have : oj' = oj := Option.some.inj (hoj'.symm.trans hoj)
          subst this
          exact absurd hon (hnot e he hb)
      have h2 := wpOp_putIf hoj (hfree j oj hoj hji hjun hnot) (fun cs b => hsel i oi cs b hi) (fun cs b => hsel j oj cs b hoj) hQ hy h1
      have hfree' : ∀ k ok, ops[k]? = some ok → k ≠ i → (listed.setIfInBounds j true).getD k true = false →
          (∀ e ∈ ok.after, Region.binds md e = true → e.on ≠ i) → oi.apart ops ok = true := fun k ok hk hki hun hno => by
        refine hfree k ok hk hki ?_ hno
        by_cases hjk : j = k
        · subst hjk; exact hjun
        · rw [getD_set_ne true hjk] at hun; exact hun
      refine wpOp_mono (fun a' w' h3 => ⟨h3.2.1, ih (listed.setIfInBounds j true) a' w' hfree' (ready_mono hr (Ne.symm hji)) h3.1 (h3.2.1 hjm) ?_⟩) h2
      rw [Array.setIfInBounds_comm _ _ hji]
      exact h3.2.2

/-- The reads in index order: one value in every world of S. -/
def wpHeld (P : Program) (ops : Array Oper) (S : World → Prop) (R : Act → Prop) : List Oper → Act → Prop
  | [], a => R a
  | o :: rest, a => ∃ v, YieldsIf P ops S o v a ∧ wpHeld P ops S R rest (a.put o.dst v)
/-- The operations behind them, in index order; S behind those whose number is less than m. -/
def wpKeep (P : Program) (ops : Array Oper) (Q : Exit → Act → World → Prop) (S : World → Prop) (m : Nat) : List Oper → Nat → Act → World → Prop
  | [], _, a, w => Q .normal a w
  | o :: rest, k, a, w => (fun K : Act → World → Prop => if Region.wanted o (yielded ops a.tmps) then o.wp P a w K Q ∨ (o.asks P a w ∧ LetsOut Q) else K (a.put o.dst undef) w) fun a' w' => (k < m → S w') ∧ wpKeep P ops Q S m rest (k + 1) a' w'

theorem wpAnyM_of_seq {m : Nat} : ∀ (l : List Oper) (k : Nat) (listed : Array Bool) (a : Act) (w : World), (∀ j, l[j]? = ops[k + j]?) →
    Region.seqB md ops l.length k listed = true → wpKeep P ops Q S m l k a w → wpAnyM P md ops Q S m l.length listed a w
  | [], _, _, _, _, _, hB, h => ⟨by simpa [Region.seqB] using hB, h⟩
  | o :: l, k, listed, a, w, hl, hB, h => by
    have h0 : ops[k]? = some o := by simpa using (hl 0).symm
    simp only [List.length_cons, Region.seqB, Bool.and_eq_true, decide_eq_true_eq] at hB
    refine ⟨fun h1 => (by rw [hB.1] at h1; cases h1), fun i hi => ?_⟩
    rw [hB.1] at hi
    have hik : i = k := by simpa using hi
    subst hik
    have hw : wpOp P ops Q i (fun a' w' => (i < m → S w') ∧ wpKeep P ops Q S m l (i + 1) a' w') a w := by unfold wpOp; simp only [h0]; exact h
    exact wpOp_mono (fun a' w' h' => ⟨h'.1, wpAnyM_of_seq l (i + 1) _ a' w' (fun j => by have := hl (j + 1); simpa [Nat.add_assoc, Nat.add_comm 1 j] using this) hB.2 h'.2⟩) hw

theorem wpAnyM_lex {m n g : Nat} {w : World} (hS : S w) (hs : Region.noSelect ops = true) (hQ : ∀ c a d v w, Q (.panic c) (Act.put a d v) w → Q (.panic c) a w)
    (hm : ∀ i, i < n → ∀ j, m ≤ j → j < ops.size → Region.waitsFor md ops j i = true) (tl : List Oper) (hg : tl.length = g) (htl : ∀ j, tl[j]? = ops[n + j]?) :
    ∀ (l : List Oper) (k : Nat) (listed : Array Bool) (a : Act), (∀ j, j < l.length → l[j]? = ops[k + j]?) → k + l.length = n →
    Region.lexHead md ops g l.length k listed = true → wpHeld P ops S (fun a' => wpKeep P ops Q S m tl n a' w) l a → wpAnyM P md ops Q S m (l.length + g) listed a w
  | [], k, listed, a, _, hk, hB, h => by
    have : k = n := by simpa using hk
    subst this
    subst hg
    rw [show ([] : List Oper).length + tl.length = tl.length by simp]
    exact wpAnyM_of_seq tl k listed a w htl (by simpa [Region.lexHead] using hB) h
  | o :: l, k, listed, a, hl, hk, hB, h => by
    have h0 : ops[k]? = some o := by simpa using (hl 0 (by simp)).symm
    simp only [List.length_cons, Region.lexHead, Bool.and_eq_true] at hB
    obtain ⟨⟨hr, hf⟩, hB'⟩ := hB
    obtain ⟨v, hy, hK⟩ := h
    have hkn : k < n := by simp only [List.length_cons] at hk; omega
    rw [show (o :: l).length + g = (l.length + g) + 1 by simp only [List.length_cons]; omega]
    exact wpAnyM_first h0 (Region.noSelect_spec hs) (fun c a w => hQ c a _ _ w) (hm k hkn) (l.length + g) listed a w (Region.free_spec h0 hf) (by simpa using hr) hy hS
      (wpAnyM_lex hS hs hQ hm tl hg htl l (k + 1) _ _ (fun j hj => by have := hl (j + 1) (by simp; omega); simpa [Nat.add_assoc, Nat.add_comm 1 j] using this) (by simp only [List.length_cons] at hk; omega) hB' hK)

def Region.midB (md : Region.Mode) (ops : Array Oper) (n m : Nat) : Bool :=
  Region.noSelect ops && Region.lexHead md ops (ops.size - n) n 0 (Array.replicate ops.size false) && decide (n ≤ ops.size) &&
  (List.range n).all fun i => (List.range ops.size).all fun j => decide (j < m) || Region.waitsFor md ops j i

theorem region_mid {id : Nat} {a : Act} {w : World} {l : List Oper} (S : World → Prop) (n m : Nat) (hmix : P.follows .mixedOrders = true) (hB : Region.midB .any l.toArray n m = true) (hS : S w.drew)
    (h : wpHeld P l.toArray S (fun a' => wpKeep P l.toArray (NoPanic Q) S m (l.drop n) n a' w.drew) (l.take n) a) : (Code.region id l.toArray true).wp P Q a w := by
  refine wp_region_noPanic ?_
  simp only [Region.midB, Bool.and_eq_true, decide_eq_true_eq] at hB
  obtain ⟨⟨⟨hsel, hlex⟩, hn⟩, hmm⟩ := hB
  have hn' : n ≤ l.length := by simpa using hn
  have htl : (l.take n).length = n := by simp; omega
  have hdl : (l.drop n).length = l.toArray.size - n := by simp
  have H := wpAnyM_lex (md := .any) (Q := NoPanic Q) (m := m) (n := n) (g := l.toArray.size - n) (w := w.drew) hS hsel (fun _ _ _ _ _ h => h) (fun i hi j hj hjs => by
    have h1 := List.all_eq_true.1 (List.all_eq_true.1 hmm i (List.mem_range.2 hi)) j (List.mem_range.2 hjs)
    simp only [Bool.or_eq_true, decide_eq_true_eq] at h1
    rcases h1 with h1 | h1
    · omega
    · exact h1) (l.drop n) hdl (fun j => by simp [List.getElem?_drop]) (l.take n) 0 (Array.replicate l.toArray.size false) a (fun j hj => by
      have hj' : j < n := by rw [htl] at hj; exact hj
      simp [hj']) (by simpa using htl) (by rw [htl]; exact hlex) h
  rw [htl, show n + (l.toArray.size - n) = l.toArray.size by omega] at H
  exact wp_region_any hmix (wpAny_of_M _ _ _ _ H)

theorem wpHeld_nil {R : Act → Prop} {a : Act} (h : R a) : wpHeld P ops S R [] a := h
theorem wpHeld_want {R : Act → Prop} {a : Act} {o : Oper} {rest : List Oper} (v : Value) (hw : Region.wanted o (yielded ops a.tmps) = true) (h : ∀ w, S w → (execOp a.eval o).run P w = .ok (.value v) w) (h2 : wpHeld P ops S R rest (a.put o.dst v)) :
    wpHeld P ops S R (o :: rest) a := ⟨v, .inl ⟨hw, h⟩, h2⟩
theorem wpKeep_step {m k : Nat} {a : Act} {w : World} {o : Oper} {rest : List Oper} (hg : o.guard = none)
    (h : ∀ K : Act → World → Prop, (∀ a w, S w → wpKeep P ops Q S m rest (k + 1) a w → K a w) → o.wp P a w K Q) : wpKeep P ops Q S m (o :: rest) k a w := by
  have h1 := h _ (fun a w hS hK => (⟨fun _ => hS, hK⟩ : (k < m → S w) ∧ wpKeep P ops Q S m rest (k + 1) a w))
  unfold wpKeep
  simp only [Region.wanted, hg, if_true]
  exact .inl h1
theorem wpKeep_rest {m : Nat} : ∀ (l : List Oper) (k : Nat) (a : Act) (w : World), m ≤ k → wpList P ops Q l a w → wpKeep P ops Q S m l k a w
  | [], _, _, _, _, h => h
  | o :: l, k, a, w, hk, h => by
    unfold wpList at h
    unfold wpKeep
    have hmono : ∀ a' w', wpList P ops Q l a' w' → (k < m → S w') ∧ wpKeep P ops Q S m l (k + 1) a' w' := fun a' w' h' => ⟨fun hh => by omega, wpKeep_rest l (k + 1) a' w' (by omega) h'⟩
    by_cases hw : Region.wanted o (yielded ops a.tmps) = true
    · simp only [hw, if_true] at h ⊢
      exact h.imp (Oper.wp_mono hmono) id
    · simp only [hw] at h ⊢
      exact hmono _ _ h
end
end Go.Proofs.YtnloffjjlhhanaaDoor
