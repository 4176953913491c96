/- Each beginning of right events that ends nowhere within is right. -/
import Derived.Test.YtnloffjjlhhanaaDoorPlay
set_option linter.unusedVariables false
set_option linter.unusedSimpArgs false
namespace Go.Proofs.YtnloffjjlhhanaaDoor
open Go.RowKit
open Go.Proofs

theorem stepsFrom_take : ∀ (l : List Ev) (p : Int) (n : Nat), stepsFrom p l = true → stepsFrom p (l.take n) = true := by
  intro l
  induction l with
  | nil => intro p n h; simpa using h
  | cons e r ih =>
    intro p n h
    cases n with
    | zero => rfl
    | succ n =>
      simp only [stepsFrom, Bool.and_eq_true] at h
      simp only [List.take_succ_cons, stepsFrom, Bool.and_eq_true]
      exact ⟨h.1, ih e.step n h.2⟩
theorem okLefts_take (s : St) (st : Int) : ∀ (r : List Nat) (l : List Ev) (n : Nat), r.length ≤ n → okLefts s st (l.take n) r = okLefts s st l r := by
  intro r
  induction r with
  | nil => intro l n _; cases l.take n <;> cases l <;> rfl
  | cons i r ih =>
    intro l n h
    obtain ⟨n, rfl⟩ : ∃ m, n = m + 1 := ⟨n - 1, by simp at h; omega⟩
    cases l with
    | nil => rfl
    | cons e l => simp only [List.take_succ_cons, okLefts]; rw [ih l n (by simpa using h)]
theorem setFins_take' : ∀ (r : List Nat) (l : List Ev) (lf : List Lf) (n : Nat), r.length ≤ n → setFins lf (l.take n) r = setFins lf l r := by
  intro r
  induction r with
  | nil => intro l lf n _; cases l.take n <;> cases l <;> rfl
  | cons i r ih =>
    intro l lf n h
    obtain ⟨n, rfl⟩ : ∃ m, n = m + 1 := ⟨n - 1, by simp at h; omega⟩
    cases l with
    | nil => rfl
    | cons e l => simp only [List.take_succ_cons, setFins]; exact ih l _ n (by simpa using h)
theorem okLefts_left (s : St) (st : Int) : ∀ (r : List Nat) (l : List Ev) (i : Nat) (e : Ev), okLefts s st l r = true → i < r.length → l[i]? = some e → isLeft e = true := by
  intro r
  induction r with
  | nil => intro l i e _ h; simp at h
  | cons k r ih =>
    intro l i e h hi he
    cases l with
    | nil => simp at he
    | cons a l =>
      simp only [okLefts, Bool.and_eq_true] at h
      cases i with
      | zero =>
        simp at he
        subst he
        have := h.1
        unfold okLeft at this
        simp only [Bool.and_eq_true] at this
        exact this.1.1.1.1
      | succ i => exact ih l i e h.2 (by simpa using hi) (by simpa using he)
/-- What next does hangs on the events that it takes. -/
theorem next_take {s s' : St} {e : Ev} {r : List Ev} {q : Nat} (h : s.next (e :: r) = some (s', q)) (n : Nat) (hn : q ≤ n + 1) : s.next (e :: r.take n) = some (s', q) := by
  unfold St.next at h ⊢
  simp only at h ⊢
  split at h
  · rename_i h0; rw [if_pos h0]; exact h
  · rename_i h0
    rw [if_neg h0]
    split at h
    · rename_i h1; rw [if_pos h1]; exact h
    · rename_i h1
      rw [if_neg h1]
      split at h
      · rename_i h2; rw [if_pos h2]; exact h
      · rename_i h2
        rw [if_neg h2]
        split at h
        · rename_i h3
          rw [if_pos h3]
          cases hr : s.reset e r with
          | none => rw [hr] at h; cases h
          | some t =>
            rw [hr] at h
            simp only [Option.map_some, Option.some.injEq, Prod.mk.injEq] at h
            obtain ⟨rfl, rfl⟩ := h
            have e1 : s.reset e (r.take n) = s.reset e r := by
              obtain ⟨n, rfl⟩ : ∃ m, n = m + 1 := ⟨n - 1, by omega⟩
              cases r with
              | nil => rfl
              | cons a r => rfl
            rw [e1, hr]; rfl
        · rename_i h3
          rw [if_neg h3]
          split at h
          · rename_i h4
            rw [if_pos h4]
            split at h
            · rename_i hc
              simp only [Option.some.injEq, Prod.mk.injEq] at h
              obtain ⟨rfl, rfl⟩ := h
              have hlen : s.inf.length ≤ n := by omega
              have hc' : (((e.life == 0) = true ∧ (e.words == 0) = true) ∧ s.inf.length ≤ r.length) ∧ okLefts s e.step r s.inf = true := by simpa [canCollect] using hc
              have e1 : canCollect s e (r.take n) = true := by
                unfold canCollect
                rw [okLefts_take s e.step s.inf r n hlen]
                simp only [List.length_take, Bool.and_eq_true, decide_eq_true_eq]
                exact ⟨⟨hc'.1.1, by omega⟩, hc'.2⟩
              rw [if_pos e1, setFins_take' s.inf r s.lf n hlen]
            · cases h
          · cases h
def withinP (l : List Ev) (n : Nat) : Bool := match l[n]? with
  | none => false
  | some e => isLeft e || (match n with | 0 => false | k + 1 => match l[k]? with | none => false | some p => isReset p)
theorem next_within {s s' : St} {e : Ev} {r : List Ev} {q n : Nat} (h : s.next (e :: r) = some (s', q)) (h0 : 0 < n) (hn : n < q) (hl : n ≤ r.length) : withinP (e :: r) n = true := by
  obtain ⟨n, rfl⟩ : ∃ m, n = m + 1 := ⟨n - 1, by omega⟩
  have hx : r[n]? = some (r[n]'(by omega)) := List.getElem?_eq_getElem _
  unfold withinP
  simp only [List.getElem?_cons_succ]
  rw [hx]
  simp only
  unfold St.next at h
  simp only at h
  split at h
  · split at h
    · simp only [Option.some.injEq, Prod.mk.injEq] at h; omega
    · cases h
  split at h
  · split at h
    · simp only [Option.some.injEq, Prod.mk.injEq] at h; omega
    · cases h
  split at h
  · cases hs : s.store e with
    | none => rw [hs] at h; cases h
    | some t => rw [hs] at h; simp only [Option.map_some, Option.some.injEq, Prod.mk.injEq] at h; omega
  split at h
  · rename_i h3
    cases hs : s.reset e r with
    | none => rw [hs] at h; cases h
    | some t =>
      rw [hs] at h
      simp only [Option.map_some, Option.some.injEq, Prod.mk.injEq] at h
      have hn0 : n = 0 := by omega
      subst hn0
      simp [h3]
  split at h
  · split at h
    · rename_i hc
      simp only [Option.some.injEq, Prod.mk.injEq] at h
      have hc' : (((e.life == 0) = true ∧ (e.words == 0) = true) ∧ s.inf.length ≤ r.length) ∧ okLefts s e.step r s.inf = true := by simpa [canCollect] using hc
      have := okLefts_left s e.step s.inf r n _ hc'.2 (by omega) hx
      simp [this]
    · cases h
  · cases h
theorem within_drop (l : List Ev) (q n : Nat) (hn : q < n) : withinP (l.drop q) (n - q) = withinP l n := by
  obtain ⟨k, rfl⟩ : ∃ k, n = q + k + 1 := ⟨n - q - 1, by omega⟩
  have e1 : q + k + 1 - q = k + 1 := by omega
  rw [e1]
  simp only [withinP, List.getElem?_drop]
  rfl
theorem runs_take : ∀ (m : Nat) (k : Nat) (s : St) (l : List Ev) (tr : List (St × Int)), Bd m s → runs k s l = some tr → ∀ n, n ≤ l.length → withinP l n = false → ∃ k' tr', runs k' s (l.take n) = some tr' := by
  intro m k
  induction k generalizing m with
  | zero => intro s l tr _ h; cases h
  | succ k ih =>
    intro s l tr hb h n hn hw
    cases n with
    | zero => exact ⟨1, [], by simp [runs]⟩
    | succ n =>
      cases l with
      | nil => simp at hn
      | cons e r =>
        simp only [runs] at h
        split at h
        · cases h
        rename_i h0
        cases hx : s.next (e :: r) with
        | none => rw [hx] at h; cases h
        | some x =>
          obtain ⟨s', q⟩ := x
          rw [hx] at h
          simp only at h
          cases hr : runs k s' ((e :: r).drop q) with
          | none => rw [hr] at h; cases h
          | some t =>
            have hbd := next_bd hb hx
            simp only [List.length_cons] at hn
            by_cases hnq : n + 1 < q
            · rw [next_within hx (by omega) hnq (by omega)] at hw
              cases hw
            · have hnx := next_take hx n (by omega)
              have hrest : ∃ k' tr', runs k' s' (((e :: r).drop q).take (n + 1 - q)) = some tr' := by
                by_cases hz : n + 1 = q
                · exact ⟨1, [], by rw [hz, Nat.sub_self]; simp [runs]⟩
                · refine ih (m + q) s' _ t hbd.1 hr (n + 1 - q) (by simp; omega) ?_
                  rw [within_drop _ _ _ (by omega)]
                  exact hw
              obtain ⟨k', tr', hk⟩ := hrest
              refine ⟨k' + 1, (s', ((e :: r.take n).getD (q - 1) default).step) :: tr', ?_⟩
              simp only [List.take_succ_cons, runs]
              rw [if_neg h0, hnx]
              simp only
              have e2 : (e :: r.take n).drop q = ((e :: r).drop q).take (n + 1 - q) := by
                rw [← List.take_succ_cons, List.drop_take]
              rw [e2, hk]
              rfl
/-- A run that comes to its end with some fuel comes to it with enough. -/
theorem runs_some : ∀ (k : Nat) (m : Nat) (s : St) (l : List Ev) (tr : List (St × Int)), Bd m s → runs k s l = some tr → runs (l.length + 1) s l = some tr := by
  intro k
  induction k with
  | zero => intro m s l tr _ h; cases h
  | succ k ih =>
    intro m s l tr hb h
    cases l with
    | nil => simpa [runs] using h
    | cons e r =>
      simp only [runs] at h ⊢
      split at h
      · cases h
      rename_i h0
      rw [if_neg h0]
      cases hx : s.next (e :: r) with
      | none => rw [hx] at h; cases h
      | some x =>
        obtain ⟨s', q⟩ := x
        rw [hx] at h
        simp only at h ⊢
        cases hr : runs k s' ((e :: r).drop q) with
        | none => rw [hr] at h; cases h
        | some t =>
          have hbd := next_bd hb hx
          have h2 := ih _ s' _ t hbd.1 hr
          have hd : ((e :: r).drop q).length ≤ r.length := by simp; omega
          rw [hr] at h
          rw [← h]
          have h3 := runs_more (m + q) s' ((e :: r).drop q) (((e :: r).drop q).length + 1) (r.length + 1) (by omega) (by omega) hbd.1
          simp only [List.length_cons]
          rw [← h3, h2]
theorem playP_take (l : List Ev) (n : Nat) (h : (playP l).isSome = true) (hn : n ≤ l.length) (hw : withinP l n = false) : (playP (l.take n)).isSome = true := by
  unfold playP at h
  split at h
  · rename_i hs
    cases hr : runs (l.length + 1) St.init l with
    | none => rw [hr] at h; cases h
    | some tr =>
      obtain ⟨k', tr', hk⟩ := runs_take 0 _ _ _ _ Bd.init hr n hn hw
      have := runs_some k' 0 St.init _ tr' Bd.init hk
      unfold playP
      rw [if_pos (stepsFrom_take l 0 n hs), this]
      rfl
  · cases h
end Go.Proofs.YtnloffjjlhhanaaDoor
