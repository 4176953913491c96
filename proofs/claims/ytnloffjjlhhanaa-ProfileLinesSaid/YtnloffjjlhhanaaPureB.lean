/- The plain law: groups of events. -/
import Derived.Test.YtnloffjjlhhanaaPure
set_option linter.unusedVariables false
set_option linter.unusedSimpArgs false
namespace Go.Proofs.Ytnloffjjlhhanaa
open Go.RowKit
open Go.Proofs

theorem adds_cons {t t' : Tr} {e : Ev} (r : List Ev) (h : t.add e = some t') : t.adds (e :: r) = t'.adds r := by
  simp only [Tr.adds, h, Option.bind_some]
theorem adds_cons_inv {t t' : Tr} {e : Ev} {r : List Ev} (h : t.adds (e :: r) = some t') : ∃ u, t.add e = some u ∧ u.adds r = some t' := by
  simp only [Tr.adds] at h
  cases h1 : t.add e with
  | none => rw [h1] at h; cases h
  | some u => rw [h1] at h; exact ⟨u, rfl, h⟩
theorem adds_steps : ∀ (l : List Ev) (t t' : Tr), 0 ≤ t.step → t.adds l = some t' → stepsFrom t.step l = true
  | [], _, _, _, _ => rfl
  | e :: r, t, t', h0, h => by
    obtain ⟨u, h1, h2⟩ := adds_cons_inv h
    have hs := add_step h1
    have := adds_steps r u t' (by omega) h2
    rw [hs.2.2] at this
    simp only [stepsFrom, this, Bool.and_true, Bool.and_eq_true, decide_eq_true_eq]
    omega

/-! Pages. -/
theorem sum_le {f g : Nat → Int} : ∀ (l : List Nat), (∀ i ∈ l, f i ≤ g i) → (l.map f).sum ≤ (l.map g).sum
  | [], _ => by simp
  | a :: l, h => by
    simp only [List.map_cons, List.sum_cons]
    have := sum_le l fun i hi => h i (List.mem_cons_of_mem _ hi)
    have := h a List.mem_cons_self
    omega
theorem livesTo_calm {t : Tr} (h : t.hole = 0) : ∀ k, k ≤ t.st.op.length → t.livesTo k = t.st.op.take k
  | 0, _ => rfl
  | k + 1, hk => by
    have ho : t.st.op[k]? = some (t.st.op[k]'(by omega)) := List.getElem?_eq_getElem _
    rw [livesTo_succ t k _ ho, livesTo_calm h k (by omega), List.take_add_one, ho]
    have : (t.hole == (k : Int) + 1) = false := by rw [h]; simp only [beq_eq_false_iff_ne, ne_eq]; omega
    rw [this]
    rfl
theorem lives_calm {t : Tr} (h : t.hole = 0) : t.lives = t.st.op := by
  unfold Tr.lives
  rw [livesTo_calm h _ (Nat.le_refl _), List.take_length]
theorem pages_calm {t : Tr} (h : t.hole = 0) : t.pages = t.st.pages := by
  unfold Tr.pages St.pages
  rw [lives_calm h]
theorem livesTo_sum (t : Tr) (f : Nat → Int) (h : ∀ i ∈ t.st.op, 0 ≤ f i) : ∀ k, k ≤ t.st.op.length → ((t.livesTo k).map f).sum ≤ ((t.st.op.take k).map f).sum
  | 0, _ => by simp [Tr.livesTo, keptN]
  | k + 1, hk => by
    have ho : t.st.op[k]? = some (t.st.op[k]'(by omega)) := List.getElem?_eq_getElem _
    have h1 := livesTo_sum t f h k (by omega)
    have h2 := h _ (List.getElem_mem (l := t.st.op) (n := k) (by omega))
    rw [livesTo_succ t k _ ho, List.take_add_one, ho]
    split
    · simp only [List.append_nil, List.map_append, List.sum_append, Option.toList_some, List.map_cons, List.map_nil, List.sum_cons, List.sum_nil]; omega
    · simp only [List.map_append, List.sum_append, Option.toList_some, List.map_cons, List.map_nil, List.sum_cons, List.sum_nil]; omega
theorem pages_hole {m : Nat} {t : Tr} (h : Bd m t.st) (hm : m ≤ 4000) : t.pages ≤ t.st.pages := by
  unfold Tr.pages St.pages Tr.lives
  have := livesTo_sum t (fun i => (t.st.lf.getD i default).now) (fun i hi => (h.nows hm i hi).1) _ (Nat.le_refl _)
  rw [List.take_length] at this
  exact this
theorem pages_le {s s' : St} (ho : s'.op = s.op) (h : ∀ i ∈ s.op, (s'.lf.getD i default).now ≤ (s.lf.getD i default).now) : s'.pages ≤ s.pages := by
  unfold St.pages
  rw [ho]
  exact sum_le _ h
theorem getD_set_self {lf : List Lf} {i : Nat} {y : Lf} (h : i < lf.length) : (lf.set i y).getD i default = y := by
  rw [List.getD_eq_getElem?_getD, List.getElem?_set_self h]; rfl
theorem getD_set_ne {lf : List Lf} {i j : Nat} {y : Lf} (h : i ≠ j) : (lf.set i y).getD j default = lf.getD j default := by
  rw [List.getD_eq_getElem?_getD, List.getElem?_set_ne h, List.getD_eq_getElem?_getD]
theorem pages_set_le {lf : List Lf} {op : List Nat} {i : Nat} {y : Lf} (h : y.now ≤ (lf.getD i default).now) : St.pages ⟨lf.set i y, op⟩ ≤ St.pages ⟨lf, op⟩ := by
  refine pages_le rfl fun k _ => ?_
  by_cases hk : i = k
  · subst hk
    by_cases hl : i < lf.length
    · simp only [getD_set_self hl]; exact h
    · simp only [List.set_eq_of_length_le (Nat.le_of_not_lt hl)]; exact Int.le_refl _
  · simp only [getD_set_ne hk]; exact Int.le_refl _

/-! What collect leaves. -/
theorem okLefts_same {lf lf' : List Lf} {op op' : List Nat} (st : Int) : ∀ (l : List Ev) (r : List Nat), (∀ i ∈ r, lf.getD i default = lf'.getD i default) → okLefts ⟨lf, op⟩ st l r = okLefts ⟨lf', op'⟩ st l r := by
  intro l r
  induction r generalizing l with
  | nil => intro _; cases l <;> rfl
  | cons i r ih =>
    intro h
    cases l with
    | nil => rfl
    | cons e l =>
      simp only [okLefts]
      rw [h i List.mem_cons_self, ih l fun k hk => h k (List.mem_cons_of_mem _ hk)]
/-- One left. -/
theorem add_left_pure {lf : List Lf} {op pre r : List Nat} {i : Nat} {room st : Int} {e : Ev} (hinf : St.inf ⟨lf, op⟩ = pre ++ i :: r) (hst : st ≤ 20000) (hlife : (lf.getD i default).life = (i : Int) + 1) :
    (⟨⟨lf, op⟩, 0, room, ((i :: r).length : Nat), st⟩ : Tr).add e = if okLeft st e (lf.getD i default) = true then some ⟨⟨lf.set i { lf.getD i default with fin := e.words }, op⟩, 0, room, (r.length : Nat), st⟩ else none := by
  have hdue : (⟨⟨lf, op⟩, 0, room, ((i :: r).length : Nat), st⟩ : Tr).due = i := by
    unfold Tr.due
    simp only [hinf]
    rw [show (pre ++ i :: r).length - (((i :: r).length : Nat) : Int).toNat = pre.length by rw [Int.toNat_natCast]; simp only [List.length_append]; omega]
    rw [List.getD_eq_getElem?_getD, List.getElem?_append_right (Nat.le_refl _)]
    simp
  have hpos : decide ((0 : Int) < ((i :: r).length : Nat)) = true := by simp
  by_cases hs : e.step = st
  · cases hl : isLeft e
    · have h1 : (⟨⟨lf, op⟩, 0, room, ((i :: r).length : Nat), st⟩ : Tr).early e = true := by
        unfold Tr.early
        simp only [hpos, hl]
        simp
      unfold Tr.add okLeft
      rw [if_pos (by rw [h1]; rfl), hl]
      simp
    · obtain ⟨k1, k2, k3, k4, k5⟩ := left_only hl
      have h1 : (⟨⟨lf, op⟩, 0, room, ((i :: r).length : Nat), st⟩ : Tr).early e = false := by
        unfold Tr.early
        have d1 : decide (e.step < (⟨⟨lf, op⟩, 0, room, ((i :: r).length : Nat), st⟩ : Tr).step) = false := decide_eq_false (by show ¬ e.step < st; omega)
        have d2 : decide (20000 < e.step) = false := decide_eq_false (by omega)
        have d4 : decide (0 < (⟨⟨lf, op⟩, 0, room, ((i :: r).length : Nat), st⟩ : Tr).hole) = false := decide_eq_false (by show ¬ (0 : Int) < 0; omega)
        rw [d1, d2, d4, hl]
        simp
      have h2 : (⟨⟨lf, op⟩, 0, room, ((i :: r).length : Nat), st⟩ : Tr).late e = false := by
        unfold Tr.late
        have : (e.step != (⟨⟨lf, op⟩, 0, room, ((i :: r).length : Nat), st⟩ : Tr).step) = false := by show (e.step != st) = false; rw [hs]; simp
        rw [this, Bool.and_false]
      unfold Tr.add
      rw [if_neg (by rw [h1, h2]; simp), k1, k5, hl, hdue]
      simp only [Bool.false_eq_true, if_false, if_true]
      unfold okLeft Tr.life
      rw [hl, hpos, hlife]
      have hs' : (e.step == st) = true := by simpa using hs
      rw [hs']
      have hcomm : ((i : Int) + 1 == e.life) = (e.life == (i : Int) + 1) := by
        rw [Bool.eq_iff_iff]; simp only [beq_iff_eq]; constructor <;> exact Eq.symm
      rw [hcomm]
      simp only [Bool.true_and]
      split
      · congr 2
        simp
      · rfl
  · have h0 : okLeft st e (lf.getD i default) = false := by
      unfold okLeft
      have : (e.step == st) = false := by simpa using hs
      rw [this]; simp
    rw [h0]
    simp only [Bool.false_eq_true, if_false]
    have h2 : (⟨⟨lf, op⟩, 0, room, ((i :: r).length : Nat), st⟩ : Tr).late e = true := by
      unfold Tr.late
      have : (e.step != (⟨⟨lf, op⟩, 0, room, ((i :: r).length : Nat), st⟩ : Tr).step) = true := by show (e.step != st) = true; simpa using hs
      rw [this, hpos]; rfl
    unfold Tr.add
    rw [if_pos (by rw [h2]; simp)]
theorem okLeft_fin {st : Int} {e : Ev} {x : Lf} (h : okLeft st e x = true) : e.step = st ∧ 0 ≤ e.words ∧ e.words ≤ x.fin := by
  unfold okLeft at h
  simp only [Bool.and_eq_true, decide_eq_true_eq, beq_iff_eq] at h
  exact ⟨h.1.1.1.2, h.1.2, h.2⟩
theorem lefts_ok : ∀ (r : List Nat) (l : List Ev) (lf : List Lf) (op pre : List Nat) (room st : Int), St.inf ⟨lf, op⟩ = pre ++ r → r.Nodup → (∀ i ∈ r, (lf.getD i default).life = (i : Int) + 1) → st ≤ 20000 →
    okLefts ⟨lf, op⟩ st l r = true →
    (⟨⟨lf, op⟩, 0, room, (r.length : Nat), st⟩ : Tr).adds (l.take r.length) = some ⟨⟨setFins lf l r, op⟩, 0, room, 0, st⟩ ∧ (∀ x ∈ l.take r.length, x.step = st) ∧
    ∀ k, k ≤ r.length → ∃ tk, (⟨⟨lf, op⟩, 0, room, (r.length : Nat), st⟩ : Tr).adds (l.take k) = some tk ∧ tk.pages ≤ St.pages ⟨lf, op⟩
  | [], l, lf, op, pre, room, st, hinf, hnd, hlife, hst, hok => by
    refine ⟨?_, fun x hx => by simp at hx, fun k hk => ?_⟩
    · cases l <;> rfl
    · obtain rfl : k = 0 := by simpa using hk
      exact ⟨_, rfl, Int.le_of_eq (pages_calm rfl)⟩
  | i :: r, [], lf, op, pre, room, st, hinf, hnd, hlife, hst, hok => by simp [okLefts] at hok
  | i :: r, e :: l, lf, op, pre, room, st, hinf, hnd, hlife, hst, hok => by
    simp only [okLefts, Bool.and_eq_true] at hok
    have hadd := add_left_pure (room := room) (e := e) hinf hst (hlife i List.mem_cons_self)
    rw [if_pos hok.1] at hadd
    have hne : ∀ k ∈ r, i ≠ k := fun k hk => (List.pairwise_cons.1 hnd).1 k hk
    have hinf2 : St.inf ⟨lf.set i { lf.getD i default with fin := e.words }, op⟩ = (pre ++ [i]) ++ r := by
      have := inf_set (s := ⟨lf, op⟩) (i := i) (y := { lf.getD i default with fin := e.words }) rfl
      rw [List.append_assoc]
      exact this.trans hinf
    have hlife2 : ∀ k ∈ r, ((lf.set i { lf.getD i default with fin := e.words }).getD k default).life = (k : Int) + 1 := fun k hk => by
      rw [getD_set_ne (hne k hk)]; exact hlife k (List.mem_cons_of_mem _ hk)
    have hok2 : okLefts ⟨lf.set i { lf.getD i default with fin := e.words }, op⟩ st l r = true := by
      rw [okLefts_same (lf' := lf) (op' := op) st l r fun k hk => getD_set_ne (hne k hk)]; exact hok.2
    obtain ⟨h1, h2, h3⟩ := lefts_ok r l _ op (pre ++ [i]) room st hinf2 (List.pairwise_cons.1 hnd).2 hlife2 hst hok2
    have hfin := okLeft_fin hok.1
    have hpg : St.pages ⟨lf.set i { lf.getD i default with fin := e.words }, op⟩ ≤ St.pages ⟨lf, op⟩ := pages_set_le (by unfold Lf.now; simp only; split <;> omega)
    refine ⟨?_, ?_, ?_⟩
    · rw [List.length_cons, List.take_succ_cons]
      rw [show ((i :: r).length) = r.length + 1 from rfl] at hadd
      rw [adds_cons _ hadd]
      exact h1
    · intro x hx
      rw [List.length_cons, List.take_succ_cons] at hx
      rcases List.mem_cons.1 hx with rfl | hx
      · exact hfin.1
      · exact h2 x hx
    · intro k hk
      cases k with
      | zero => exact ⟨_, rfl, Int.le_of_eq (pages_calm rfl)⟩
      | succ k =>
        obtain ⟨tk, ha, hp⟩ := h3 k (by simpa using hk)
        exact ⟨tk, by rw [List.take_succ_cons, adds_cons _ hadd]; exact ha, Int.le_trans hp hpg⟩
theorem lefts_conv : ∀ (r : List Nat) (l : List Ev) (lf : List Lf) (op pre : List Nat) (room st : Int) (t' : Tr), St.inf ⟨lf, op⟩ = pre ++ r → r.Nodup → (∀ i ∈ r, (lf.getD i default).life = (i : Int) + 1) → st ≤ 20000 →
    (⟨⟨lf, op⟩, 0, room, (r.length : Nat), st⟩ : Tr).adds l = some t' → t'.left = 0 → okLefts ⟨lf, op⟩ st l r = true ∧ r.length ≤ l.length
  | [], l, lf, op, pre, room, st, t', hinf, hnd, hlife, hst, ha, hl => by refine ⟨?_, by simp⟩; cases l <;> rfl
  | i :: r, [], lf, op, pre, room, st, t', hinf, hnd, hlife, hst, ha, hl => by
    simp only [Tr.adds, Option.some.injEq] at ha
    subst ha
    simp at hl
    omega
  | i :: r, e :: l, lf, op, pre, room, st, t', hinf, hnd, hlife, hst, ha, hl => by
    have hadd := add_left_pure (room := room) (e := e) hinf hst (hlife i List.mem_cons_self)
    obtain ⟨u, h1, h2⟩ := adds_cons_inv ha
    rw [h1] at hadd
    cases hok : okLeft st e (lf.getD i default)
    · rw [hok] at hadd; simp at hadd
    · rw [hok] at hadd
      simp only [if_true, Option.some.injEq] at hadd
      subst hadd
      have hne : ∀ k ∈ r, i ≠ k := fun k hk => (List.pairwise_cons.1 hnd).1 k hk
      have hinf2 : St.inf ⟨lf.set i { lf.getD i default with fin := e.words }, op⟩ = (pre ++ [i]) ++ r := by
        have := inf_set (s := ⟨lf, op⟩) (i := i) (y := { lf.getD i default with fin := e.words }) rfl
        rw [List.append_assoc]
        exact this.trans hinf
      have hlife2 : ∀ k ∈ r, ((lf.set i { lf.getD i default with fin := e.words }).getD k default).life = (k : Int) + 1 := fun k hk => by
        rw [getD_set_ne (hne k hk)]; exact hlife k (List.mem_cons_of_mem _ hk)
      obtain ⟨g1, g2⟩ := lefts_conv r l _ op (pre ++ [i]) room st t' hinf2 (List.pairwise_cons.1 hnd).2 hlife2 hst h2 hl
      refine ⟨?_, by simpa using g2⟩
      simp only [okLefts, hok, Bool.true_and]
      rw [okLefts_same (lf' := lf) (op' := op) st l r fun k hk => getD_set_ne (hne k hk)] at g1
      exact g1
theorem setFins_life : ∀ (r : List Nat) (l : List Ev) (lf : List Lf) (k : Nat), ((setFins lf l r).getD k default).life = (lf.getD k default).life
  | [], l, lf, k => by cases l <;> rfl
  | i :: r, [], lf, k => rfl
  | i :: r, e :: l, lf, k => by
    simp only [setFins]
    rw [setFins_life r l]
    by_cases hk : i = k
    · subst hk
      by_cases hl : i < lf.length
      · rw [getD_set_self hl]
      · rw [List.set_eq_of_length_le (by omega)]
    · rw [getD_set_ne hk]
end Go.Proofs.Ytnloffjjlhhanaa
