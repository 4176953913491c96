/- A region that draws its order: operations that only yield are taken as soon as they are ready; the others go in one order. -/
import Derived.Test.YtnloffjjlhhanaaDoorReads
set_option linter.unusedVariables false
set_option linter.unusedSimpArgs false
namespace Go.Proofs.YtnloffjjlhhanaaDoor
open Go.RowKit
open Go.Proofs

section
variable {P : Program} {ops : Array Oper} {Q : Exit → Act → World → Prop} {md : Region.Mode} {S : World → Prop}

def Region.mixL (md : Region.Mode) (ops : Array Oper) (m : Nat) : List (Nat × Bool) → Array Bool → Bool
  | [], listed => (Region.ready md ops listed).isEmpty
  | (k, b) :: ks, listed =>
    (if b then (Region.ready md ops listed).contains k && Region.free md ops listed k && ((List.range ops.size).all fun j => decide (j < m) || Region.waitsT md ops ops.size j k)
    else decide (Region.ready md ops listed = [k]) && (decide (k < m) || ks.all fun p => !p.2)) && Region.mixL md ops m ks (listed.setIfInBounds k true)
def pickM (l : List Oper) (ks : List (Nat × Bool)) : List (Nat × Bool × Oper) := ks.filterMap fun k => (l[k.1]?).map fun o => (k.1, k.2, o)
def wpMix (P : Program) (ops : Array Oper) (Q : Exit → Act → World → Prop) (S : World → Prop) (m : Nat) : List (Nat × Bool × Oper) → Act → World → Prop
  | [], a, w => Q .normal a w
  | (k, b, o) :: rest, a, w => match b with
    | true => ∃ v, YieldsIf P ops S o v a ∧ wpMix P ops Q S m rest (a.put o.dst v) w
    | false => (fun K : Act → World → Prop => if Region.wanted o (yielded ops a.tmps) then o.wp P a w K Q ∨ (o.asks P a w ∧ LetsOut Q) else K (a.put o.dst undef) w) fun a' w' => (k < m → S w') ∧ wpMix P ops Q S m rest a' w'
theorem wpAnyM_mix {m : Nat} {l : List Oper} (hl : ops = l.toArray) (hs : Region.noSelect ops = true) (hQ : ∀ c a d v w, Q (.panic c) (Act.put a d v) w → Q (.panic c) a w) :
    ∀ (ks : List (Nat × Bool)) (listed : Array Bool) (a : Act) (w : World), Closed md ops listed → ((ks.all fun p => !p.2) = false → S w) → Region.mixL md ops m ks listed = true → wpMix P ops Q S m (pickM l ks) a w → wpAnyM P md ops Q S m ks.length listed a w
  | [], listed, a, w, hc, hS, hB, h => ⟨by simpa [Region.mixL] using hB, h⟩
  | (k, true) :: ks, listed, a, w, hc, hS, hB, h => by
    simp only [Region.mixL, if_true, Bool.and_eq_true] at hB
    obtain ⟨⟨⟨hr, hf⟩, hm⟩, hB'⟩ := hB
    have hr' : k ∈ Region.ready md ops listed := by simpa using hr
    obtain ⟨-, o, ho, -⟩ := mem_ready.1 hr'
    have hlo : l[k]? = some o := by rw [hl] at ho; simpa using ho
    have hp : pickM l ((k, true) :: ks) = (k, true, o) :: pickM l ks := by unfold pickM; rw [List.filterMap_cons, hlo]; rfl
    rw [hp] at h
    obtain ⟨v, hy, hK⟩ := h
    have hSw : S w := hS (by simp)
    refine wpAnyM_firstT ho (Region.noSelect_spec hs) (fun c a w => hQ c a _ _ w) (fun j hj hjs => ?_) ks.length listed a w hc (Region.free_spec ho hf) hr' hy hSw
      (wpAnyM_mix hl hs hQ ks _ _ w (closed_set hc hr') (fun _ => hSw) hB' hK)
    have h1 := List.all_eq_true.1 hm j (List.mem_range.2 hjs)
    simp only [Bool.or_eq_true, decide_eq_true_eq] at h1
    rcases h1 with h1 | h1
    · omega
    · exact h1
  | (k, false) :: ks, listed, a, w, hc, hS, hB, h => by
    simp only [Region.mixL, Bool.false_eq_true, if_false, Bool.and_eq_true, decide_eq_true_eq] at hB
    obtain ⟨⟨hr, hm⟩, hB'⟩ := hB
    have hr' : k ∈ Region.ready md ops listed := by rw [hr]; simp
    obtain ⟨-, o, ho, -⟩ := mem_ready.1 hr'
    have hlo : l[k]? = some o := by rw [hl] at ho; simpa using ho
    have hp : pickM l ((k, false) :: ks) = (k, false, o) :: pickM l ks := by unfold pickM; rw [List.filterMap_cons, hlo]; rfl
    rw [hp] at h
    refine ⟨fun h1 => (by rw [hr] at h1; cases h1), fun i hi => ?_⟩
    rw [hr] at hi
    have hik : i = k := by simpa using hi
    subst hik
    have hw : wpOp P ops Q i (fun a' w' => (i < m → S w') ∧ wpMix P ops Q S m (pickM l ks) a' w') a w := by unfold wpOp; simp only [ho]; exact h
    refine wpOp_mono (fun a' w' h' => ⟨h'.1, wpAnyM_mix hl hs hQ ks _ a' w' (closed_set hc hr') (fun hh => ?_) hB' h'.2⟩) hw
    simp only [Bool.or_eq_true, decide_eq_true_eq] at hm
    rcases hm with hm | hm
    · exact h'.1 hm
    · rw [hm] at hh; cases hh
theorem region_mix {id : Nat} {a : Act} {w : World} {l : List Oper} (S : World → Prop) (ks : List (Nat × Bool)) (m : Nat) (hmix : P.follows .mixedOrders = true)
    (hB : (Region.noSelect l.toArray && Region.mixL .any l.toArray m ks (Array.replicate l.toArray.size false) && decide (ks.length = l.toArray.size)) = true) (hS : S w.drew)
    (h : wpMix P l.toArray (NoPanic Q) S m (pickM l ks) a w.drew) : (Code.region id l.toArray true).wp P Q a w := by
  refine wp_region_noPanic ?_
  simp only [Bool.and_eq_true, decide_eq_true_eq] at hB
  obtain ⟨⟨hsel, hhead⟩, hlen⟩ := hB
  have hc : Closed .any l.toArray (Array.replicate l.toArray.size false) := fun j oj hj hlj => by
    have hjl := (Array.getElem?_eq_some_iff.1 hj).1
    have h0 : (Array.replicate l.toArray.size false).getD j true = false := by
      unfold Array.getD
      rw [dif_pos (by simpa using hjl)]
      simp
    rw [h0] at hlj
    cases hlj
  have H := wpAnyM_mix (md := .any) (Q := NoPanic Q) (m := m) (S := S) rfl hsel (fun _ _ _ _ _ h => h) ks (Array.replicate l.toArray.size false) a w.drew hc (fun _ => hS) hhead h
  rw [hlen] at H
  exact wp_region_any hmix (wpAny_of_M _ _ _ _ H)
theorem wpMix_nil {m : Nat} {a : Act} {w : World} (h : Q .normal a w) : wpMix P ops Q S m [] a w := h
theorem wpMix_read {m k : Nat} {a : Act} {w : World} {o : Oper} {rest : List (Nat × Bool × Oper)} (v : Value) (hw : Region.wanted o (yielded ops a.tmps) = true) (h : ∀ w, S w → (execOp a.eval o).run P w = .ok (.value v) w)
    (h2 : wpMix P ops Q S m rest (a.put o.dst v) w) : wpMix P ops Q S m ((k, true, o) :: rest) a w := ⟨v, .inl ⟨hw, h⟩, h2⟩
theorem wpMix_step {m k : Nat} {a : Act} {w : World} {o : Oper} {rest : List (Nat × Bool × Oper)} (hg : o.guard = none)
    (h : ∀ K : Act → World → Prop, (∀ a w, (k < m → S w) → wpMix P ops Q S m rest a w → K a w) → o.wp P a w K Q) : wpMix P ops Q S m ((k, false, o) :: rest) a w := by
  have h1 := h _ (fun a w hS hK => (⟨hS, hK⟩ : (k < m → S w) ∧ wpMix P ops Q S m rest a w))
  unfold wpMix
  simp only [Region.wanted, hg, if_true]
  exact .inl h1
end
end Go.Proofs.YtnloffjjlhhanaaDoor
