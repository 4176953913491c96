/- The plain law: a group of events, as next and as adds take it. -/
import Derived.Test.YtnloffjjlhhanaaPureB
set_option linter.unusedVariables false
set_option linter.unusedSimpArgs false
namespace Go.Proofs.Ytnloffjjlhhanaa
open Go.RowKit
open Go.Proofs

theorem nodup_of {l : List Nat} (h : ∀ (i j a : Nat), l[i]? = some a → l[j]? = some a → i = j) : l.Nodup := by
  refine List.pairwise_iff_getElem.2 fun i j hi hj hij e => ?_
  have := h i j l[i] (List.getElem?_eq_getElem hi) (by rw [e]; exact List.getElem?_eq_getElem hj)
  omega
theorem nodup_set {l : List Nat} (h : l.Nodup) (j L : Nat) (hL : L ∉ l) : (l.set j L).Nodup := by
  refine nodup_of fun a b x ha hb => ?_
  have hne : ∀ c, l[c]? = some x → x ≠ L := fun c hc e => hL (e ▸ List.mem_of_getElem? hc)
  by_cases h1 : j = a
  · subst h1
    by_cases h2 : j = b
    · exact h2
    · rw [List.getElem?_set_ne h2] at hb
      have hlt : j < l.length := by
        have := (List.getElem?_eq_some_iff.1 ha).1
        simpa using this
      rw [List.getElem?_set_self hlt] at ha
      simp only [Option.some.injEq] at ha
      exact absurd ha.symm (hne b hb)
  · rw [List.getElem?_set_ne h1] at ha
    by_cases h2 : j = b
    · subst h2
      have hlt : j < l.length := by
        have := (List.getElem?_eq_some_iff.1 hb).1
        simpa using this
      rw [List.getElem?_set_self hlt] at hb
      simp only [Option.some.injEq] at hb
      exact absurd hb.symm (hne a ha)
    · rw [List.getElem?_set_ne h2] at hb
      exact nodup_at h ha hb
theorem Inv.set {s : St} (h : Inv s) {i : Nat} {y : Lf} (hy : y.life = (s.lf.getD i default).life) : Inv { s with lf := s.lf.set i y } := by
  refine ⟨fun k hk => ?_, h.nodup, fun hk => h.some (by simpa using hk)⟩
  simp only [List.length_set] at hk
  by_cases hki : i = k
  · subst hki
    simp only [getD_set_self hk]
    rw [hy]; exact h.life _ hk
  · simp only [getD_set_ne hki]
    exact h.life k hk
theorem Inv.new {s : St} (h : Inv s) {e : Ev} (he : e.life = (s.lf.length : Int) + 1) {op' : List Nat} (hn : op'.Nodup) (hop : 0 < op'.length) : Inv ⟨s.lf ++ [newLf e], op'⟩ := by
  refine ⟨fun k hk => ?_, hn, fun _ => hop⟩
  simp only [List.length_append, List.length_singleton] at hk
  rw [List.getD_eq_getElem?_getD]
  by_cases hkl : k < s.lf.length
  · simp only [List.getElem?_append_left hkl]
    rw [← List.getD_eq_getElem?_getD]; exact h.life k hkl
  · have : k = s.lf.length := by omega
    subst this
    simp only [List.getElem?_append_right (Nat.le_refl _), Nat.sub_self, List.getElem?_cons_zero, Option.getD_some]
    exact he
theorem canBegin_life {s : St} {e : Ev} (h : canBegin s e = true) : isOpen e = true ∧ e.life = (s.lf.length : Int) + 1 := by
  unfold canBegin at h
  simp only [Bool.and_eq_true, beq_iff_eq] at h
  exact ⟨h.1.1.1, h.1.1.2⟩
theorem next_inv {m : Nat} {s s' : St} {e : Ev} {r : List Ev} {n : Nat} (hi : Inv s) (hb : Bd m s) (hn : s.next (e :: r) = some (s', n)) : Inv s' := by
  have hL : s.lf.length ∉ s.op := fun hh => by have := hb.opens _ hh; omega
  unfold St.next at hn
  simp only at hn
  split at hn
  · split at hn
    · rename_i hc
      simp only [Option.some.injEq, Prod.mk.injEq] at hn
      obtain ⟨rfl, -⟩ := hn
      refine hi.new (canBegin_life hc).2 ?_ (by simp)
      rw [List.nodup_append]
      exact ⟨hi.nodup, by simp, fun a ha b hb' => by simp at hb'; subst hb'; intro hh; subst hh; exact hL ha⟩
    · cases hn
  split at hn
  · split at hn
    · rename_i hc
      simp only [Option.some.injEq, Prod.mk.injEq] at hn
      obtain ⟨rfl, -⟩ := hn
      have h1 := hi.set (i := s.last) (y := { s.lf.getD s.last default with ended := e.step }) rfl
      have h2 : 1 < s.op.length := by
        unfold canClose at hc
        simp only [Bool.and_eq_true, decide_eq_true_eq] at hc
        exact hc.1.1
      exact ⟨h1.life, hi.nodup.sublist (List.take_sublist _ _), fun _ => by simp [St.close]; omega⟩
    · cases hn
  split at hn
  · cases hs : s.store e with
    | none => rw [hs] at hn; cases hn
    | some t =>
      rw [hs] at hn
      simp only [Option.map_some, Option.some.injEq, Prod.mk.injEq] at hn
      obtain ⟨rfl, -⟩ := hn
      unfold St.store at hs
      split at hs
      · cases hs
      split at hs
      · split at hs
        · cases hs
        split at hs
        · cases hs
        split at hs
        · rename_i x hx _
          simp only [Option.some.injEq] at hs
          subst hs
          refine hi.set ?_
          rw [List.getD_eq_getElem?_getD, hx]; rfl
        · cases hs
      · cases hs
  split at hn
  · cases hs : s.reset e r with
    | none => rw [hs] at hn; cases hn
    | some t =>
      rw [hs] at hn
      simp only [Option.map_some, Option.some.injEq, Prod.mk.injEq] at hn
      obtain ⟨rfl, -⟩ := hn
      unfold St.reset at hs
      split at hs
      · cases hs
      rename_i hat
      obtain ⟨j, i, hj, hoi, hnn, hil, hjl, hgd⟩ := at_some hi hb hat
      split at hs
      · split at hs
        · cases hs
        split at hs
        · rename_i e2 _ hc
          simp only [Option.some.injEq] at hs
          subst hs
          have h1 := hi.new (canBegin_life hc.2.2).2 (op' := s.op.set (s.at e.life).toNat s.lf.length) (nodup_set hi.nodup _ _ hL) (by simp; omega)
          refine h1.set ?_
          rw [hgd]
          simp only
          rw [List.getD_eq_getElem?_getD, List.getD_eq_getElem?_getD, List.getElem?_append_left hil]
        · cases hs
      · cases hs
  split at hn
  · split at hn
    · simp only [Option.some.injEq, Prod.mk.injEq] at hn
      obtain ⟨rfl, -⟩ := hn
      exact ⟨fun k hk => by simp only at hk ⊢; rw [setFins_len] at hk; rw [setFins_life]; exact hi.life k hk, hi.nodup, fun hk => hi.some (by simpa [setFins_len] using hk)⟩
    · cases hn
  · cases hn

/-- The reset of the reference: its first event. -/
theorem add_reset_pure {m : Nat} {s : St} {e : Ev} {room st : Int} (hi : Inv s) (hb : Bd m s) (h0 : st ≤ e.step) (h1 : e.step ≤ 20000) (hk : isReset e = true) :
    (Tr.of s room st).add e = if s.at e.life < 0 then none else if e.words = 0 then
      some ⟨⟨s.lf.set (s.op.getD (s.at e.life).toNat 0) { s.lf.getD (s.op.getD (s.at e.life).toNat 0) default with ended := e.step }, s.op⟩, s.at e.life + 1, (s.lf.getD (s.op.getD (s.at e.life).toNat 0) default).words, 0, e.step⟩ else none := by
  obtain ⟨k1, k2, k3, k4, k5⟩ := reset_only hk
  unfold Tr.add
  rw [if_neg (by rw [calm h0 h1]; simp), k1, k4, k5]
  simp only [Bool.false_eq_true, if_false]
  rw [place_of hi hb, k3, k2, hk]
  simp only [Bool.false_eq_true, if_false, if_true]
  by_cases hat : s.at e.life < 0
  · rw [if_pos hat, if_pos hat]
  · rw [if_neg hat, if_neg hat]
    by_cases hw : e.words = 0
    · rw [if_pos hw, if_pos (by simpa using hw)]
      rfl
    · rw [if_neg hw, if_neg (by simpa using hw)]
/-- The reset of the reference: what comes behind. -/
theorem add_reset2_pure {lf : List Lf} {op : List Nat} {j : Nat} {room st : Int} {e : Ev} (hlf : 0 < lf.length) (hst : st ≤ 20000) :
    (⟨⟨lf, op⟩, (j : Int) + 1, room, 0, st⟩ : Tr).add e = if e.words = room ∧ e.step = st ∧ canBegin ⟨lf, op⟩ e = true then some (Tr.of ⟨lf ++ [newLf e], op.set j lf.length⟩ room e.step) else none := by
  have hpos : decide (0 < (⟨⟨lf, op⟩, (j : Int) + 1, room, 0, st⟩ : Tr).hole) = true := decide_eq_true (by show 0 < (j : Int) + 1; omega)
  by_cases hs : e.step = st
  · cases ho : isOpen e
    · have h1 : (⟨⟨lf, op⟩, (j : Int) + 1, room, 0, st⟩ : Tr).early e = true := by
        unfold Tr.early
        rw [hpos, ho]
        simp
      unfold Tr.add canBegin
      rw [if_pos (by rw [h1]; rfl), ho]
      simp
    · have h1 : (⟨⟨lf, op⟩, (j : Int) + 1, room, 0, st⟩ : Tr).early e = false := by
        unfold Tr.early
        have d1 : decide (e.step < (⟨⟨lf, op⟩, (j : Int) + 1, room, 0, st⟩ : Tr).step) = false := decide_eq_false (by show ¬ e.step < st; omega)
        have d2 : decide (20000 < e.step) = false := decide_eq_false (by omega)
        have d3 : decide (0 < (⟨⟨lf, op⟩, (j : Int) + 1, room, 0, st⟩ : Tr).left) = false := decide_eq_false (by show ¬ (0 : Int) < 0; omega)
        rw [d1, d2, d3, ho]
        simp
      have h2 : (⟨⟨lf, op⟩, (j : Int) + 1, room, 0, st⟩ : Tr).late e = false := by
        unfold Tr.late
        have : (e.step != (⟨⟨lf, op⟩, (j : Int) + 1, room, 0, st⟩ : Tr).step) = false := by show (e.step != st) = false; rw [hs]; simp
        rw [this, Bool.and_false]
      unfold Tr.add
      rw [if_neg (by rw [h1, h2]; simp), ho]
      simp only [if_true]
      have hmo : (⟨⟨lf, op⟩, (j : Int) + 1, room, 0, st⟩ : Tr).mayOpen e = (canBegin ⟨lf, op⟩ e && decide (e.words = room)) := by
        unfold Tr.mayOpen canBegin
        rw [hpos, ho]
        have d2 : ((⟨⟨lf, op⟩, (j : Int) + 1, room, 0, st⟩ : Tr).st.lf.length == 0 && e.words != 0) = false := by
          have : ((⟨⟨lf, op⟩, (j : Int) + 1, room, 0, st⟩ : Tr).st.lf.length == 0) = false := by
            show (lf.length == 0) = false
            simp only [beq_eq_false_iff_ne, ne_eq]; omega
          rw [this]; rfl
        rw [d2]
        simp only [Bool.true_and, Bool.not_false, Bool.and_true]
        congr 1
        show (!(e.words != room)) = _
        by_cases hw : e.words = room <;> simp [hw]
      rw [hmo]
      have hop : ({ (⟨⟨lf, op⟩, (j : Int) + 1, room, 0, st⟩ : Tr) with step := e.step } : Tr).opened e = Tr.of ⟨lf ++ [newLf e], op.set j lf.length⟩ room e.step := by
        unfold Tr.opened
        rw [if_pos (show (0 : Int) < (j : Int) + 1 by omega)]
        simp only
        rw [show ((j : Int) + 1 - 1).toNat = j by omega]
        rfl
      rw [hop]
      by_cases hw : e.words = room
      · cases hc : canBegin ⟨lf, op⟩ e <;> simp [hw, hs]
      · simp [hw]
  · rw [if_neg (fun h => hs h.2.1)]
    have h2 : (⟨⟨lf, op⟩, (j : Int) + 1, room, 0, st⟩ : Tr).late e = true := by
      unfold Tr.late
      have : (e.step != (⟨⟨lf, op⟩, (j : Int) + 1, room, 0, st⟩ : Tr).step) = true := by show (e.step != st) = true; simpa using hs
      rw [this, hpos]; simp
    unfold Tr.add
    rw [if_pos (by rw [h2]; simp)]
theorem add_collect_pure {s : St} {e : Ev} {room st : Int} (h0 : st ≤ e.step) (h1 : e.step ≤ 20000) (hk : isCollect e = true) :
    (Tr.of s room st).add e = if e.life = 0 ∧ e.words = 0 ∧ 0 < s.op.length then some ⟨s, 0, room, (s.inf.length : Nat), e.step⟩ else none := by
  obtain ⟨k1, k2, k3, k4, k5⟩ := collect_only hk
  unfold Tr.add
  rw [if_neg (by rw [calm h0 h1]; simp), k1, hk]
  simp only [Bool.false_eq_true, if_false, if_true]
  by_cases hc : e.life = 0 ∧ e.words = 0 ∧ 0 < s.op.length
  · rw [if_pos hc, if_pos (by simp only [Bool.and_eq_true, beq_iff_eq, decide_eq_true_eq]; exact ⟨⟨hc.1, hc.2.1⟩, hc.2.2⟩)]
    rfl
  · rw [if_neg hc, if_neg (by simp only [Bool.and_eq_true, beq_iff_eq, decide_eq_true_eq]; intro h; exact hc ⟨h.1.1, h.1.2, h.2⟩)]
end Go.Proofs.Ytnloffjjlhhanaa
