/- A region that draws its order: the reads, wherever they stand, are taken first; what is left goes in one order. S holds behind each operation whose number is less than m. -/
import Derived.Test.YtnloffjjlhhanaaDoorMid
set_option linter.unusedVariables false
set_option linter.unusedSimpArgs false
namespace Go.Proofs.YtnloffjjlhhanaaDoor
open Go.RowKit
open Go.Proofs

section
variable {P : Program} {ops : Array Oper} {Q : Exit → Act → World → Prop} {md : Region.Mode} {S : World → Prop}

/-- Operation j waits for i, through others too. -/
def Region.waitsT (md : Region.Mode) (ops : Array Oper) : Nat → Nat → Nat → Bool
  | 0, _, _ => false
  | n + 1, j, i => match ops[j]? with
    | none => false
    | some oj => oj.after.any fun e => Region.binds md e && (e.on == i || Region.waitsT md ops n e.on i)
/-- What is listed has what it waits for listed. -/
def Closed (md : Region.Mode) (ops : Array Oper) (listed : Array Bool) : Prop := ∀ j oj, ops[j]? = some oj → listed.getD j true = true → ∀ e ∈ oj.after, Region.binds md e = true → listed.getD e.on false = true
theorem waitsT_spec {listed : Array Bool} (hc : Closed md ops listed) {i : Nat} : ∀ (n j : Nat) (oj : Oper), ops[j]? = some oj → Region.waitsT md ops n j i = true → (∀ e ∈ oj.after, Region.binds md e = true → listed.getD e.on false = true) → listed.getD i false = true
  | 0, _, _, _, h, _ => by simp [Region.waitsT] at h
  | n + 1, j, oj, hj, h, hd => by
    simp only [Region.waitsT, hj] at h
    obtain ⟨e, he, hb⟩ := Array.any_eq_true'.1 h
    simp only [Bool.and_eq_true, Bool.or_eq_true, beq_iff_eq] at hb
    have hl := hd e he hb.1
    rcases hb.2 with h2 | h2
    · rw [← h2]; exact hl
    · cases ho : ops[e.on]? with
      | none =>
        cases n with
        | zero => simp [Region.waitsT] at h2
        | succ n => simp [Region.waitsT, ho] at h2
      | some o2 =>
        refine waitsT_spec hc n e.on o2 ho h2 (hc e.on o2 ho ?_)
        unfold Array.getD at hl ⊢
        split at hl
        · rename_i hlt; simp only [hlt, dif_pos]; exact hl
        · cases hl
theorem closed_set {listed : Array Bool} {j : Nat} (hc : Closed md ops listed) (hj : j ∈ Region.ready md ops listed) : Closed md ops (listed.setIfInBounds j true) := by
  obtain ⟨hju, oj, hoj, hd⟩ := mem_ready.1 hj
  have hlt : j < listed.size := by
    unfold Array.getD at hju
    split at hju
    · assumption
    · cases hju
  have hup : ∀ k, listed.getD k false = true → (listed.setIfInBounds j true).getD k false = true := fun k hk => by
    by_cases hjk : j = k
    · subst hjk; simp [Array.getD, hlt]
    · rw [getD_set_ne false hjk]; exact hk
  intro k ok hok hk e he hb
  by_cases hjk : j = k
  · subst hjk
    rw [hoj] at hok
    simp only [Option.some.injEq] at hok
    subst hok
    exact hup _ (hd e he hb)
  · rw [getD_set_ne true hjk] at hk
    exact hup _ (hc k ok hok hk e he hb)
theorem wpAnyM_firstT {m i : Nat} {oi : Oper} {v : Value} (hi : ops[i]? = some oi) (hsel : ∀ (j : Nat) (o : Oper) cs b, ops[j]? = some o → o.op ≠ .select cs b)
    (hQ : ∀ c a w, Q (.panic c) (a.put oi.dst v) w → Q (.panic c) a w) (hm : ∀ j, m ≤ j → j < ops.size → Region.waitsT md ops ops.size j i = true) :
    ∀ (fuel : Nat) (listed : Array Bool) (a : Act) (w : World), Closed md ops listed →
      (∀ j oj, ops[j]? = some oj → j ≠ i → listed.getD j true = false → (∀ e ∈ oj.after, Region.binds md e = true → e.on ≠ i) → oi.apart ops oj = true) →
      i ∈ Region.ready md ops listed → YieldsIf P ops S oi v a → S w →
      wpAnyM P md ops Q S m fuel (listed.setIfInBounds i true) (a.put oi.dst v) w → wpAnyM P md ops Q S m (fuel + 1) listed a w := by
  intro fuel
  induction fuel with
  | zero =>
    intro listed a w _ _ hr hy hS H
    refine ⟨fun h => (by rw [h] at hr; cases hr), fun j hj => ?_⟩
    by_cases hji : j = i
    · subst hji; exact hy.wpOp hi hS ⟨fun _ => hS, H⟩
    · have := ready_mono hj hji
      rw [H.1] at this
      cases this
  | succ fuel ih =>
    intro listed a w hc hfree hr hy hS H
    refine ⟨fun h => (by rw [h] at hr; cases hr), fun j hj => ?_⟩
    by_cases hji : j = i
    · subst hji; exact hy.wpOp hi hS ⟨fun _ => hS, H⟩
    · have h1 := H.2 j (ready_mono hj hji)
      obtain ⟨hjun, oj, hoj, hall⟩ := mem_ready.1 hj
      have hnot : ∀ e ∈ oj.after, Region.binds md e = true → e.on ≠ i := fun e he hb heq => by
        have h1 := hall e he hb
        have h0 := (mem_ready.1 hr).1
        rw [heq, getD_both h0] at h1
        cases h1
      have hjm : j < m := by
        rcases Nat.lt_or_ge j m with h | h
        · exact h
        · have h2 := waitsT_spec hc _ j oj hoj (hm j h (Array.getElem?_eq_some_iff.1 hoj).1) hall
          have h0 := (mem_ready.1 hr).1
          rw [getD_both h0] at h2
          cases h2
      have h2 := wpOp_putIf hoj (hfree j oj hoj hji hjun hnot) (fun cs b => hsel i oi cs b hi) (fun cs b => hsel j oj cs b hoj) hQ hy h1
      have hfree' : ∀ k ok, ops[k]? = some ok → k ≠ i → (listed.setIfInBounds j true).getD k true = false →
          (∀ e ∈ ok.after, Region.binds md e = true → e.on ≠ i) → oi.apart ops ok = true := fun k ok hk hki hun hno => by
        refine hfree k ok hk hki ?_ hno
        by_cases hjk : j = k
        · subst hjk; exact hjun
        · rw [getD_set_ne true hjk] at hun; exact hun
      refine wpOp_mono (fun a' w' h3 => ⟨h3.2.1, ih (listed.setIfInBounds j true) a' w' (closed_set hc hj) hfree' (ready_mono hr (Ne.symm hji)) h3.1 (h3.2.1 hjm) ?_⟩) h2
      rw [Array.setIfInBounds_comm _ _ hji]
      exact h3.2.2
def Region.seqL (md : Region.Mode) (ops : Array Oper) : List Nat → Array Bool → Bool
  | [], listed => (Region.ready md ops listed).isEmpty
  | k :: ks, listed => decide (Region.ready md ops listed = [k]) && Region.seqL md ops ks (listed.setIfInBounds k true)
def Region.headL (md : Region.Mode) (ops : Array Oper) (tl : List Nat) : List Nat → Array Bool → Bool
  | [], listed => Region.seqL md ops tl listed
  | k :: ks, listed => (Region.ready md ops listed).contains k && Region.free md ops listed k && Region.headL md ops tl ks (listed.setIfInBounds k true)
def picks (l : List Oper) (ks : List Nat) : List Oper := ks.filterMap fun k => l[k]?
def picksN (l : List Oper) (ks : List Nat) : List (Nat × Oper) := ks.filterMap fun k => (l[k]?).map fun o => (k, o)
/-- The operations that are left, in their order. -/
def wpKeepL (P : Program) (ops : Array Oper) (Q : Exit → Act → World → Prop) (S : World → Prop) (m : Nat) : List (Nat × Oper) → Act → World → Prop
  | [], a, w => Q .normal a w
  | (k, o) :: rest, a, w => (fun K : Act → World → Prop => if Region.wanted o (yielded ops a.tmps) then o.wp P a w K Q ∨ (o.asks P a w ∧ LetsOut Q) else K (a.put o.dst undef) w) fun a' w' => (k < m → S w') ∧ wpKeepL P ops Q S m rest a' w'
theorem wpAnyM_of_seqL {m : Nat} {l : List Oper} (hl : ops = l.toArray) : ∀ (ks : List Nat) (listed : Array Bool) (a : Act) (w : World), Region.seqL md ops ks listed = true → wpKeepL P ops Q S m (picksN l ks) a w → wpAnyM P md ops Q S m ks.length listed a w
  | [], listed, a, w, hB, h => ⟨by simpa [Region.seqL] using hB, h⟩
  | k :: ks, listed, a, w, hB, h => by
    simp only [Region.seqL, Bool.and_eq_true, decide_eq_true_eq] at hB
    obtain ⟨-, o, ho, -⟩ := mem_ready.1 (show k ∈ Region.ready md ops listed by rw [hB.1]; simp)
    have hlo : l[k]? = some o := by rw [hl] at ho; simpa using ho
    refine ⟨fun h1 => (by rw [hB.1] at h1; cases h1), fun i hi => ?_⟩
    rw [hB.1] at hi
    have hik : i = k := by simpa using hi
    subst hik
    have hp : picksN l (i :: ks) = (i, o) :: picksN l ks := by unfold picksN; rw [List.filterMap_cons, hlo]; rfl
    rw [hp] at h
    have hw : wpOp P ops Q i (fun a' w' => (i < m → S w') ∧ wpKeepL P ops Q S m (picksN l ks) a' w') a w := by unfold wpOp; simp only [ho]; exact h
    exact wpOp_mono (fun a' w' h' => ⟨h'.1, wpAnyM_of_seqL hl ks _ a' w' hB.2 h'.2⟩) hw
theorem wpAnyM_head {m : Nat} {w : World} {l : List Oper} (hl : ops = l.toArray) (hS : S w) (hs : Region.noSelect ops = true) (hQ : ∀ c a d v w, Q (.panic c) (Act.put a d v) w → Q (.panic c) a w) (tl : List Nat) :
    ∀ (ks : List Nat) (listed : Array Bool) (a : Act), Closed md ops listed → (∀ i ∈ ks, ∀ j, m ≤ j → j < ops.size → Region.waitsT md ops ops.size j i = true) → Region.headL md ops tl ks listed = true →
    wpHeld P ops S (fun a' => wpKeepL P ops Q S m (picksN l tl) a' w) (picks l ks) a → wpAnyM P md ops Q S m (ks.length + tl.length) listed a w
  | [], listed, a, hc, hm, hB, h => by
    rw [show ([] : List Nat).length + tl.length = tl.length by simp]
    exact wpAnyM_of_seqL hl tl listed a w (by simpa [Region.headL] using hB) h
  | k :: ks, listed, a, hc, hm, hB, h => by
    simp only [Region.headL, Bool.and_eq_true] at hB
    obtain ⟨⟨hr, hf⟩, hB'⟩ := hB
    have hr' : k ∈ Region.ready md ops listed := by simpa using hr
    obtain ⟨-, o, ho, -⟩ := mem_ready.1 hr'
    have hlo : l[k]? = some o := by rw [hl] at ho; simpa using ho
    have hp : picks l (k :: ks) = o :: picks l ks := by unfold picks; rw [List.filterMap_cons, hlo]
    rw [hp] at h
    obtain ⟨v, hy, hK⟩ := h
    rw [show (k :: ks).length + tl.length = (ks.length + tl.length) + 1 by simp only [List.length_cons]; omega]
    exact wpAnyM_firstT ho (Region.noSelect_spec hs) (fun c a w => hQ c a _ _ w) (hm k List.mem_cons_self) (ks.length + tl.length) listed a w hc (Region.free_spec ho hf) hr' hy hS
      (wpAnyM_head hl hS hs hQ tl ks _ _ (closed_set hc hr') (fun i hi => hm i (List.mem_cons_of_mem _ hi)) hB' hK)
def Region.readsB (md : Region.Mode) (ops : Array Oper) (ks tl : List Nat) (m : Nat) : Bool :=
  Region.noSelect ops && Region.headL md ops tl ks (Array.replicate ops.size false) && decide (ks.length + tl.length = ops.size) &&
  ks.all fun i => (List.range ops.size).all fun j => decide (j < m) || Region.waitsT md ops ops.size j i

theorem region_reads {id : Nat} {a : Act} {w : World} {l : List Oper} (S : World → Prop) (ks tl : List Nat) (m : Nat) (hmix : P.follows .mixedOrders = true) (hB : Region.readsB .any l.toArray ks tl m = true) (hS : S w.drew)
    (h : wpHeld P l.toArray S (fun a' => wpKeepL P l.toArray (NoPanic Q) S m (picksN l tl) a' w.drew) (picks l ks) a) : (Code.region id l.toArray true).wp P Q a w := by
  refine wp_region_noPanic ?_
  simp only [Region.readsB, Bool.and_eq_true, decide_eq_true_eq] at hB
  obtain ⟨⟨⟨hsel, hhead⟩, hlen⟩, hmm⟩ := hB
  have hc : Closed .any l.toArray (Array.replicate l.toArray.size false) := fun j oj hj hlj => by
    have hjl := (Array.getElem?_eq_some_iff.1 hj).1
    have h0 : (Array.replicate l.toArray.size false).getD j true = false := by
      unfold Array.getD
      rw [dif_pos (by simpa using hjl)]
      simp
    rw [h0] at hlj
    cases hlj
  have H := wpAnyM_head (md := .any) (Q := NoPanic Q) (m := m) (w := w.drew) rfl hS hsel (fun _ _ _ _ _ h => h) tl ks (Array.replicate l.toArray.size false) a hc (fun i hi j hj hjs => by
    have h1 := List.all_eq_true.1 (List.all_eq_true.1 hmm i hi) j (List.mem_range.2 hjs)
    simp only [Bool.or_eq_true, decide_eq_true_eq] at h1
    rcases h1 with h1 | h1
    · omega
    · exact h1) hhead h
  rw [hlen] at H
  exact wp_region_any hmix (wpAny_of_M _ _ _ _ H)
theorem wpKeepL_nil {m : Nat} {a : Act} {w : World} (h : Q .normal a w) : wpKeepL P ops Q S m [] a w := h
theorem wpKeepL_step {m k : Nat} {a : Act} {w : World} {o : Oper} {rest : List (Nat × Oper)} (hg : o.guard = none)
    (h : ∀ K : Act → World → Prop, (∀ a w, (k < m → S w) → wpKeepL P ops Q S m rest a w → K a w) → o.wp P a w K Q) : wpKeepL P ops Q S m ((k, o) :: rest) a w := by
  have h1 := h _ (fun a w hS hK => (⟨hS, hK⟩ : (k < m → S w) ∧ wpKeepL P ops Q S m rest a w))
  unfold wpKeepL
  simp only [Region.wanted, hg, if_true]
  exact .inl h1
end
end Go.Proofs.YtnloffjjlhhanaaDoor
