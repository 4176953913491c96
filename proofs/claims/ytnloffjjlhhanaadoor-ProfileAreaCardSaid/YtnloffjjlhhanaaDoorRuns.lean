/- The run of a film over events, in plain Lean, and its bounds. -/
import Derived.Test.YtnloffjjlhhanaaDoorNextC
set_option linter.unusedVariables false
set_option linter.unusedSimpArgs false
namespace Go.Proofs.YtnloffjjlhhanaaDoor
open Go.RowKit
open Go.Proofs

def stepsFrom : Int → List Ev → Bool
  | _, [] => true
  | p, e :: r => decide (p ≤ e.step) && decide (0 ≤ e.step) && decide (e.step ≤ 20000) && stepsFrom e.step r
def runs : Nat → St → List Ev → Option (List (St × Int))
  | 0, _, _ => none
  | _ + 1, _, [] => some []
  | k + 1, s, e :: r =>
    if s.lf.length = 0 ∧ ¬ (isOpen e = true ∧ e.words = 0) then none else
    match s.next (e :: r) with
    | none => none
    | some (s', n) => (runs k s' ((e :: r).drop n)).map fun t => (s', ((e :: r).getD (n - 1) default).step) :: t
def St.init : St := ⟨[], []⟩
def playP (l : List Ev) : Option (List (St × Int)) := if stepsFrom 0 l then runs (l.length + 1) St.init l else none
def finalOf : List (St × Int) → St
  | [] => St.init
  | [x] => x.1
  | _ :: y :: r => finalOf (y :: r)
theorem finalOf_snoc (t : List (St × Int)) (x : St × Int) : finalOf (t ++ [x]) = x.1 := by
  induction t with
  | nil => rfl
  | cons a t ih => cases t with
    | nil => rfl
    | cons b t => simpa [finalOf] using ih

structure Bd (m : Nat) (s : St) : Prop where
  lf : s.lf.length ≤ m
  op : s.op.length ≤ m
  lives : ∀ x ∈ s.lf, 0 ≤ x.words ∧ x.words ≤ 31 ∧ 0 ≤ x.fin ∧ x.fin ≤ 64 * m ∧ 0 ≤ x.objs ∧ x.objs ≤ m ∧ 0 ≤ x.wds ∧ x.wds ≤ 32 * m ∧ 0 ≤ x.pages ∧ x.pages ≤ 2 * m
  opens : ∀ i ∈ s.op, i < s.lf.length
theorem Bd.mono {m n : Nat} {s : St} (h : Bd m s) (hmn : m ≤ n) : Bd n s :=
  ⟨Nat.le_trans h.lf hmn, Nat.le_trans h.op hmn, fun x hx => by have := h.lives x hx; omega, h.opens⟩
theorem Bd.small {m : Nat} {s : St} (h : Bd m s) (hm : m ≤ 4000) : ∀ x ∈ s.lf, x.small := fun x hx => by
  have := h.lives x hx
  unfold Lf.small
  omega
theorem Bd.init : Bd 0 St.init := ⟨by simp [St.init], by simp [St.init], fun x hx => by simp [St.init] at hx, fun x hx => by simp [St.init] at hx⟩
theorem getD_mem {lf : List Lf} {i : Nat} (h : i < lf.length) : lf.getD i default ∈ lf := by
  rw [List.getD_eq_getElem?_getD, List.getElem?_eq_getElem h]
  exact List.getElem_mem h
theorem newLf_bd (e : Ev) (m : Nat) (h0 : 0 ≤ e.words) (h1 : e.words ≤ 31) : 0 ≤ (newLf e).words ∧ (newLf e).words ≤ 31 ∧ 0 ≤ (newLf e).fin ∧ (newLf e).fin ≤ 64 * m ∧ 0 ≤ (newLf e).objs ∧ (newLf e).objs ≤ m ∧ 0 ≤ (newLf e).wds ∧ (newLf e).wds ≤ 32 * m ∧ 0 ≤ (newLf e).pages ∧ (newLf e).pages ≤ 2 * m := by
  simp only [newLf]
  omega
theorem canBegin_words {s : St} {e : Ev} (h : canBegin s e = true) : 0 ≤ e.words ∧ e.words ≤ 31 := by
  have : ((isOpen e = true ∧ (e.life == (s.lf.length : Int) + 1) = true) ∧ 0 ≤ e.words) ∧ e.words ≤ 31 := by simpa [canBegin] using h
  exact ⟨this.1.2, this.2⟩
theorem put_bd (x : Lf) (n : Int) (m : Nat) (h : 0 ≤ x.words ∧ x.words ≤ 31 ∧ 0 ≤ x.fin ∧ x.fin ≤ 64 * m ∧ 0 ≤ x.objs ∧ x.objs ≤ m ∧ 0 ≤ x.wds ∧ x.wds ≤ 32 * m ∧ 0 ≤ x.pages ∧ x.pages ≤ 2 * m) (h0 : 2 ≤ n) (h1 : n ≤ 32) :
    0 ≤ (x.put n).words ∧ (x.put n).words ≤ 31 ∧ 0 ≤ (x.put n).fin ∧ (x.put n).fin ≤ 64 * (m + 1 : Nat) ∧ 0 ≤ (x.put n).objs ∧ (x.put n).objs ≤ (m + 1 : Nat) ∧ 0 ≤ (x.put n).wds ∧ (x.put n).wds ≤ 32 * (m + 1 : Nat) ∧ 0 ≤ (x.put n).pages ∧ (x.put n).pages ≤ 2 * (m + 1 : Nat) := by
  simp only [Lf.put]
  split <;> split <;> omega
theorem setFins_bd (m : Nat) : ∀ (l : List Ev) (r : List Nat) (lf : List Lf) (s : St) (st : Int), (∀ i ∈ r, i < lf.length) → okLefts s st l r = true → (∀ i ∈ r, (s.lf.getD i default).fin ≤ 64 * m) →
    (∀ x ∈ lf, 0 ≤ x.words ∧ x.words ≤ 31 ∧ 0 ≤ x.fin ∧ x.fin ≤ 64 * m ∧ 0 ≤ x.objs ∧ x.objs ≤ m ∧ 0 ≤ x.wds ∧ x.wds ≤ 32 * m ∧ 0 ≤ x.pages ∧ x.pages ≤ 2 * m) →
    ∀ x ∈ setFins lf l r, 0 ≤ x.words ∧ x.words ≤ 31 ∧ 0 ≤ x.fin ∧ x.fin ≤ 64 * m ∧ 0 ≤ x.objs ∧ x.objs ≤ m ∧ 0 ≤ x.wds ∧ x.wds ≤ 32 * m ∧ 0 ≤ x.pages ∧ x.pages ≤ 2 * m := by
  intro l
  induction l with
  | nil => intro r lf s st _ _ _ h; cases r <;> exact h
  | cons e l ih =>
    intro r lf s st hr hok hf h
    cases r with
    | nil => exact h
    | cons i r =>
      simp only [okLefts, Bool.and_eq_true] at hok
      have hy := hok.1
      unfold okLeft at hy
      simp only [Bool.and_eq_true, decide_eq_true_eq] at hy
      have hfi := hf i (by simp)
      refine ih r _ s st (fun j hj => by rw [List.length_set]; exact hr j (by simp [hj])) hok.2 (fun j hj => hf j (by simp [hj])) ?_
      intro x hx
      rcases List.mem_or_eq_of_mem_set hx with hx | rfl
      · exact h x hx
      · have := h _ (getD_mem (hr i (by simp)))
        refine ⟨this.1, this.2.1, hy.1.2, ?_, this.2.2.2.2⟩
        simp only
        omega
theorem next_bd {m : Nat} {s s' : St} {e : Ev} {r : List Ev} {n : Nat} (h : Bd m s) (hn : s.next (e :: r) = some (s', n)) : Bd (m + n) s' ∧ 1 ≤ n ∧ n ≤ r.length + 1 := by
  have h0 := h
  unfold St.next at hn
  simp only at hn
  split at hn
  · split at hn
    · rename_i hcb
      simp only [Option.some.injEq, Prod.mk.injEq] at hn
      obtain ⟨rfl, rfl⟩ := hn
      have hw := canBegin_words hcb
      refine ⟨⟨by simp; exact h.lf, by simp; exact h.op, fun x hx => ?_, fun i hi => ?_⟩, by omega, by omega⟩
      · rcases List.mem_append.1 hx with hx | hx
        · have := h.lives x hx; omega
        · simp at hx; subst hx; exact newLf_bd e _ hw.1 hw.2
      · simp only [List.length_append, List.length_singleton]
        rcases List.mem_append.1 hi with hi | hi
        · have := h.opens i hi; omega
        · simp at hi; omega
    · cases hn
  split at hn
  · split at hn
    · rename_i hcc
      simp only [Option.some.injEq, Prod.mk.injEq] at hn
      obtain ⟨rfl, rfl⟩ := hn
      have hgt : 1 < s.op.length := by
        have : (1 < s.op.length ∧ ((s.lf.getD s.last default).life == e.life) = true) ∧ (e.words == 0) = true := by simpa [canClose] using hcc
        exact this.1.1
      have hlast : s.last < s.lf.length := by
        refine h.opens _ ?_
        unfold St.last
        rw [List.getD_eq_getElem?_getD, List.getElem?_eq_getElem (by omega)]
        exact List.getElem_mem _
      refine ⟨⟨by simp [St.close]; have := h.lf; omega, by simp [St.close]; have := h.op; omega, fun x hx => ?_, fun i hi => ?_⟩, by omega, by omega⟩
      · rcases List.mem_or_eq_of_mem_set hx with hx | rfl
        · have := h.lives x hx; omega
        · have := h.lives _ (getD_mem hlast)
          simp only
          omega
      · simp only [St.close, List.length_set]
        exact h.opens i (List.mem_of_mem_take hi)
    · cases hn
  split at hn
  · unfold St.store at hn
    split at hn
    · cases hn
    split at hn
    · rename_i hw
      split at hn
      · cases hn
      · rename_i i hi
        split at hn
        · cases hn
        · rename_i x hx
          split at hn
          · simp only [Option.map_some, Option.some.injEq, Prod.mk.injEq] at hn
            obtain ⟨rfl, rfl⟩ := hn
            refine ⟨⟨by simp; have := h.lf; omega, by have := h.op; simp; omega, fun y hy => ?_, fun j hj => by simp; exact h.opens j hj⟩, by omega, by omega⟩
            rcases List.mem_or_eq_of_mem_set hy with hy | rfl
            · have := h.lives y hy; omega
            · exact put_bd x e.words m (h.lives x (List.mem_of_getElem? hx)) hw.1 hw.2
          · cases hn
    · cases hn
  split at hn
  · unfold St.reset at hn
    split at hn
    · cases hn
    rename_i hneg
    split at hn
    · split at hn
      · cases hn
      · rename_i e2 r2
        split at hn
        · rename_i hcb
          simp only [Option.map_some, Option.some.injEq, Prod.mk.injEq] at hn
          obtain ⟨rfl, rfl⟩ := hn
          have hw := canBegin_words hcb.2.2
          obtain ⟨j, hj⟩ : ∃ j : Nat, s.at e.life = j := ⟨(s.at e.life).toNat, by omega⟩
          have hjl : j < s.op.length := by
            have hp := fidx_at _ j hj
            rw [List.getElem?_map] at hp
            cases hi : s.op[j]? with
            | none => rw [hi] at hp; cases hp
            | some i => exact (List.getElem?_eq_some_iff.1 hi).1
          have hil : s.op.getD (s.at e.life).toNat 0 < s.lf.length := by
            refine h.opens _ ?_
            rw [hj, Int.toNat_natCast, List.getD_eq_getElem?_getD, List.getElem?_eq_getElem hjl]
            exact List.getElem_mem _
          refine ⟨⟨by simp; have := h.lf; omega, by simp; have := h.op; omega, fun x hx => ?_, fun i hi => ?_⟩, by omega, by simp⟩
          · rcases List.mem_or_eq_of_mem_set hx with hx | rfl
            · rcases List.mem_append.1 hx with hx | hx
              · have := h.lives x hx; omega
              · simp at hx; subst hx; exact newLf_bd e2 _ hw.1 hw.2
            · have := h.lives _ (getD_mem hil)
              simp only
              omega
          · simp only [List.length_set, List.length_append, List.length_singleton]
            rcases List.mem_or_eq_of_mem_set hi with hi | rfl
            · have := h.opens i hi; omega
            · omega
        · cases hn
    · cases hn
  split at hn
  · split at hn
    · rename_i hcc
      simp only [Option.some.injEq, Prod.mk.injEq] at hn
      obtain ⟨rfl, rfl⟩ := hn
      have hc : (((e.life == 0) = true ∧ (e.words == 0) = true) ∧ s.inf.length ≤ r.length) ∧ okLefts s e.step r s.inf = true := by simpa [canCollect] using hcc
      have hinf : ∀ i ∈ s.inf, i < s.lf.length := fun i hi => h.opens i (List.mem_filter.1 hi).1
      have hb := setFins_bd m r s.inf s.lf s e.step hinf hc.2 (fun i hi => (h.lives _ (getD_mem (hinf i hi))).2.2.2.1) h.lives
      refine ⟨⟨by simp only [setFins_len]; have := h.lf; omega, by have := h.op; simp; omega, fun x hx => by have := hb x hx; omega, fun i hi => by simp only [setFins_len]; exact h.opens i hi⟩, by omega, by omega⟩
    · cases hn
  · cases hn
end Go.Proofs.YtnloffjjlhhanaaDoor
