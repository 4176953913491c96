/- The plain law: what the program's play and the reference's adds make of events is alike. -/
import Derived.Test.YtnloffjjlhhanaaDoorGone
import Derived.Test.YtnloffjjlhhanaaDoorBeginsP
set_option linter.unusedVariables false
set_option linter.unusedSimpArgs false
namespace Go.Proofs.YtnloffjjlhhanaaDoor
open Go.RowKit
open Go.Proofs

theorem open_only {e : Ev} (h : isOpen e = true) : isClose e = false ∧ isStore e = false ∧ isReset e = false ∧ isCollect e = false ∧ isLeft e = false := by
  have h1 : e.act.toList = [111, 112, 101, 110] := by simpa [isOpen] using h
  simp [isClose, isStore, isReset, isCollect, isLeft, h1]
theorem close_only {e : Ev} (h : isClose e = true) : isOpen e = false ∧ isStore e = false ∧ isReset e = false ∧ isCollect e = false ∧ isLeft e = false := by
  have h1 : e.act.toList = [99, 108, 111, 115, 101] := by simpa [isClose] using h
  simp [isOpen, isStore, isReset, isCollect, isLeft, h1]
theorem store_only {e : Ev} (h : isStore e = true) : isOpen e = false ∧ isClose e = false ∧ isReset e = false ∧ isCollect e = false ∧ isLeft e = false := by
  have h1 : e.act.toList = [115, 116, 111, 114, 101] := by simpa [isStore] using h
  simp [isOpen, isClose, isReset, isCollect, isLeft, h1]
theorem reset_only {e : Ev} (h : isReset e = true) : isOpen e = false ∧ isClose e = false ∧ isStore e = false ∧ isCollect e = false ∧ isLeft e = false := by
  have h1 : e.act.toList = [114, 101, 115, 101, 116] := by simpa [isReset] using h
  simp [isOpen, isClose, isStore, isCollect, isLeft, h1]
theorem collect_only {e : Ev} (h : isCollect e = true) : isOpen e = false ∧ isClose e = false ∧ isStore e = false ∧ isReset e = false ∧ isLeft e = false := by
  have h1 : e.act.toList = [99, 111, 108, 108, 101, 99, 116] := by simpa [isCollect] using h
  simp [isOpen, isClose, isStore, isReset, isLeft, h1]
theorem left_only {e : Ev} (h : isLeft e = true) : isOpen e = false ∧ isClose e = false ∧ isStore e = false ∧ isReset e = false ∧ isCollect e = false := by
  have h1 : e.act.toList = [108, 101, 102, 116] := by simpa [isLeft] using h
  simp [isOpen, isClose, isStore, isReset, isCollect, h1]

/-- What holds between groups of events, besides the bounds. -/
structure Inv (s : St) : Prop where
  life : ∀ i, i < s.lf.length → (s.lf.getD i default).life = (i : Int) + 1
  nodup : s.op.Nodup
  some : 0 < s.lf.length → 0 < s.op.length
theorem Inv.init : Inv St.init := ⟨fun i h => by simp [St.init] at h, by simp [St.init], fun h => by simp [St.init] at h⟩
def Tr.of (s : St) (room st : Int) : Tr := ⟨s, 0, room, 0, st⟩
theorem place_of {m : Nat} {s : St} (hi : Inv s) (hb : Bd m s) (room st n : Int) : (Tr.of s room st).place n = s.at n := by
  unfold Tr.place St.at
  congr 1
  refine List.ext_getElem? fun j => ?_
  rw [List.getElem?_map, List.getElem?_map]
  show Option.map _ ((s.op.zipIdx)[j]?) = _
  cases ho : s.op[j]? with
  | none =>
    rw [List.getElem?_zipIdx, ho]; rfl
  | some i =>
    have hl := hb.opens i (List.mem_of_getElem? ho)
    rw [zip_at ho]
    simp only [Option.map_some, Option.some.injEq]
    rw [hi.life i hl]
    have : ((Tr.of s room st).hole != (j : Int) + 1) = true := by
      simp only [Tr.of, bne_iff_ne, ne_eq]
      omega
    rw [this, Bool.and_true]
theorem at_some {m : Nat} {s : St} (hi : Inv s) (hb : Bd m s) {n : Int} (h : ¬ s.at n < 0) : ∃ j i : Nat, s.at n = j ∧ s.op[j]? = some i ∧ n = (i : Int) + 1 ∧ i < s.lf.length ∧ j < s.op.length ∧ s.op.getD (s.at n).toNat 0 = i := by
  obtain ⟨j, hj⟩ : ∃ j : Nat, s.at n = j := ⟨(s.at n).toNat, by omega⟩
  have h2 := place_of hi hb 0 0 n
  rw [hj] at h2
  obtain ⟨i, ho, hn, -⟩ := place_at h2
  have ho' : s.op[j]? = some i := ho
  exact ⟨j, i, hj, ho', hn, hb.opens i (List.mem_of_getElem? ho'), (List.getElem?_eq_some_iff.1 ho').1, by rw [hj, Int.toNat_natCast, List.getD_eq_getElem?_getD, ho']; rfl⟩
theorem calm {s : St} {room st : Int} {e : Ev} (h0 : st ≤ e.step) (h1 : e.step ≤ 20000) : ((Tr.of s room st).early e || (Tr.of s room st).late e) = false := by
  unfold Tr.early Tr.late
  have d1 : decide (e.step < (Tr.of s room st).step) = false := decide_eq_false (by show ¬ e.step < st; omega)
  have d2 : decide (20000 < e.step) = false := by simpa using h1
  have d3 : decide (0 < (Tr.of s room st).left) = false := decide_eq_false (by show ¬ (0 : Int) < 0; omega)
  have d4 : decide (0 < (Tr.of s room st).hole) = false := decide_eq_false (by show ¬ (0 : Int) < 0; omega)
  rw [d1, d2, d3, d4]
  rfl

theorem fidx_mem_none (l : List Bool) (h : fidx l = -1) : ∀ x ∈ l, x = false := by
  induction l with
  | nil => intro x hx; cases hx
  | cons a r ih =>
    cases a with
    | true => simp [fidx] at h
    | false =>
      have hlo := fidx_lo r
      rw [fidx] at h
      have h2 : fidx r = -1 := by split at h <;> omega
      intro x hx
      rcases List.mem_cons.1 hx with rfl | hx
      · rfl
      · exact ih h2 x hx
theorem nodup_at {l : List Nat} (h : l.Nodup) {i j a : Nat} (hi : l[i]? = some a) (hj : l[j]? = some a) : i = j := by
  have h2 := List.pairwise_iff_getElem.1 h
  obtain ⟨li, ei⟩ := List.getElem?_eq_some_iff.1 hi
  obtain ⟨lj, ej⟩ := List.getElem?_eq_some_iff.1 hj
  rcases Nat.lt_trichotomy i j with hh | hh | hh
  · exact absurd (ei.trans ej.symm) (h2 i j li lj hh)
  · exact hh
  · exact absurd (ej.trans ei.symm) (h2 j i lj li hh)
/-- The events that next takes alone. -/
theorem next_one {m : Nat} {s : St} {e : Ev} {r : List Ev} {room st : Int} (hi : Inv s) (hb : Bd m s) (h0 : st ≤ e.step) (h1 : e.step ≤ 20000) (hf : s.lf.length = 0 → isOpen e = true ∧ e.words = 0)
    (hk : isReset e = false) (hk2 : isCollect e = false) : s.next (e :: r) = ((Tr.of s room st).add e).map (fun t => (t.st, 1)) ∧ ∀ t, (Tr.of s room st).add e = some t → t = Tr.of t.st room e.step := by
  unfold Tr.add St.next
  rw [if_neg (by rw [calm h0 h1]; simp)]
  simp only
  rw [place_of hi hb]
  rw [hk, hk2]
  simp only [Bool.false_eq_true, if_false]
  cases ho : isOpen e
  · simp only [Bool.false_eq_true, if_false]
    have hlf : 0 < s.lf.length := by
      rcases Nat.eq_zero_or_pos s.lf.length with hz | hz
      · have := (hf hz).1; rw [ho] at this; cases this
      · exact hz
    have hop := hi.some hlf
    cases hl : isLeft e
    · simp only [Bool.false_eq_true, if_false]
      cases hc : isClose e
      · simp only [Bool.false_eq_true, if_false]
        cases hs : isStore e
        · simp
        · simp only [if_true]
          unfold St.store
          by_cases hat : s.at e.life < 0
          · rw [if_pos hat, if_pos hat]; simp
          · obtain ⟨j, i, hj, hoi, hn, hil, hjl, hgd⟩ := at_some hi hb hat
            have hxx : s.lf[i]? = some (s.lf.getD i default) := getD_some hil
            rw [if_neg hat, if_neg hat]
            have e1 : (Tr.of s room st).st.op.getD (s.at e.life).toNat 0 = i := hgd
            have e2 : s.op[(s.at e.life).toNat]? = some i := by rw [hj, Int.toNat_natCast]; exact hoi
            rw [e1, e2]
            simp only
            rw [hxx]
            simp only
            have e3 : (Tr.of s room st).life i = s.lf.getD i default := rfl
            rw [e3]
            by_cases hw : 2 ≤ e.words ∧ e.words ≤ 32
            · rw [if_pos hw]
              cases hm : (s.lf.getD i default).may e.words
              · simp
              · simp only [hw.1, hw.2, decide_true, Bool.and_self, if_true, Option.map_some]
                exact ⟨rfl, fun t ht => by simp only [Option.some.injEq] at ht; subst ht; rfl⟩
            · rw [if_neg hw]
              have : (decide (2 ≤ e.words) && decide (e.words ≤ 32)) = false := by
                simp only [Bool.and_eq_false_iff, decide_eq_false_iff_not]; omega
              rw [this]
              simp
      · have hco := (close_only hc).2.1
        simp only [if_true, hco, Bool.false_eq_true, if_false]
        by_cases hat : s.at e.life < 0
        · rw [if_pos hat]
          have : canClose s e = false := by
            unfold canClose
            cases hx : ((s.lf.getD s.last default).life == e.life)
            · simp
            · exfalso
              have hlast : s.op[s.op.length - 1]? = some s.last := by
                unfold St.last; rw [List.getD_eq_getElem?_getD, List.getElem?_eq_getElem (by omega)]; rfl
              have h2 : (s.op.map fun i => (s.lf.getD i default).life == e.life)[s.op.length - 1]? = some true := by rw [List.getElem?_map, hlast]; simp only [Option.map_some, hx]
              have h3 := fidx_lo (s.op.map fun i => (s.lf.getD i default).life == e.life)
              have h4 : fidx (s.op.map fun i => (s.lf.getD i default).life == e.life) = -1 := by unfold St.at at hat; omega
              have := fidx_mem_none _ h4 true (List.mem_of_getElem? h2)
              cases this
          rw [this]; simp
        · obtain ⟨j, i, hj, hoi, hn, hil, hjl, hgd⟩ := at_some hi hb hat
          rw [if_neg hat]
          have e1 : (Tr.of s room st).st.op.getD (s.at e.life).toNat 0 = i := hgd
          rw [e1, hj]
          unfold canClose
          have e5 : (Tr.of s room st).st.op.length = s.op.length := rfl
          have e6 : (Tr.of s room st).life i = s.lf.getD i default := rfl
          rw [e5, e6]
          have hlast : s.op[s.op.length - 1]? = some s.last := by
            unfold St.last; rw [List.getD_eq_getElem?_getD, List.getElem?_eq_getElem (by omega)]; rfl
          have hll := hi.life s.last (hb.opens _ (List.mem_of_getElem? hlast))
          by_cases hjj : j = s.op.length - 1
          · subst hjj
            have : i = s.last := by rw [hoi] at hlast; simpa using hlast
            subst this
            have d1 : decide (((s.op.length - 1 : Nat) : Int) = (s.op.length : Int) - 1) = true := by simp; omega
            rw [d1]
            have d2 : ((s.lf.getD s.last default).life == e.life) = true := by rw [hll, hn]; simp
            rw [d2]
            cases hw : (e.words == 0) <;> by_cases h1l : 1 < s.op.length
            · simp [h1l]
            · simp [h1l]
            · simp only [h1l, decide_true, Bool.and_self, if_true, Option.map_some]
              exact ⟨rfl, fun t ht => by simp only [Option.some.injEq] at ht; subst ht; rfl⟩
            · simp [h1l]
          · have d1 : decide ((j : Int) = (s.op.length : Int) - 1) = false := by simp; omega
            rw [d1]
            have d2 : ((s.lf.getD s.last default).life == e.life) = false := by
              rw [hll, hn]
              simp only [beq_eq_false_iff_ne, ne_eq]
              intro hh
              have hsl : s.last = i := by omega
              rw [← hsl] at hoi
              exact hjj (nodup_at hi.nodup hoi hlast)
            rw [d2]
            simp
    · have hlo := left_only hl
      simp only [if_true, hlo, Bool.false_eq_true, if_false]
      have : decide (0 < (Tr.of s room st).left) = false := by simp [Tr.of]
      rw [this]
      simp
  · simp only [if_true]
    have hmo : (Tr.of s room st).mayOpen e = canBegin s e := by
      unfold Tr.mayOpen canBegin
      rw [ho]
      have d1 : (decide (0 < (Tr.of s room st).hole) && e.words != (Tr.of s room st).room) = false := by simp [Tr.of]
      rw [d1]
      have d2 : ((Tr.of s room st).st.lf.length == 0 && e.words != 0) = false := by
        rcases Nat.eq_zero_or_pos s.lf.length with hz | hz
        · rw [(hf hz).2]; simp
        · have : ((Tr.of s room st).st.lf.length == 0) = false := by
            show (s.lf.length == 0) = false
            simp only [beq_eq_false_iff_ne, ne_eq]; omega
          rw [this]; rfl
      rw [d2]
      simp [Tr.of]
    rw [hmo]
    cases hcb : canBegin s e
    · simp
    · simp only [if_true, Option.map_some]
      have : ({ Tr.of s room st with step := e.step } : Tr).opened e = Tr.of { lf := s.lf ++ [newLf e], op := s.op ++ [s.lf.length] } room e.step := by
        unfold Tr.opened
        rw [if_neg (by simp [Tr.of])]
        rfl
      rw [this]
      exact ⟨rfl, fun t ht => by simp only [Option.some.injEq] at ht; subst ht; rfl⟩

theorem adds_cons {t t' : Tr} {e : Ev} (r : List Ev) (h : t.add e = some t') : t.adds (e :: r) = t'.adds r := by
  simp only [Tr.adds, h, Option.bind_some]
theorem adds_cons_inv {t t' : Tr} {e : Ev} {r : List Ev} (h : t.adds (e :: r) = some t') : ∃ u, t.add e = some u ∧ u.adds r = some t' := by
  simp only [Tr.adds] at h
  cases h1 : t.add e with
  | none => rw [h1] at h; cases h
  | some u => rw [h1] at h; exact ⟨u, rfl, h⟩
theorem adds_steps : ∀ (l : List Ev) (t t' : Tr), 0 ≤ t.step → t.adds l = some t' → stepsFrom t.step l = true
  | [], _, _, _, _ => rfl
  | e :: r, t, t', h0, h => by
    obtain ⟨u, h1, h2⟩ := adds_cons_inv h
    have hs := add_step h1
    have := adds_steps r u t' (by omega) h2
    rw [hs.2.2] at this
    simp only [stepsFrom, this, Bool.and_true, Bool.and_eq_true, decide_eq_true_eq]
    omega

/-! Pages. -/
theorem sum_le {f g : Nat → Int} : ∀ (l : List Nat), (∀ i ∈ l, f i ≤ g i) → (l.map f).sum ≤ (l.map g).sum
  | [], _ => by simp
  | a :: l, h => by
    simp only [List.map_cons, List.sum_cons]
    have := sum_le l fun i hi => h i (List.mem_cons_of_mem _ hi)
    have := h a List.mem_cons_self
    omega
theorem livesTo_calm {t : Tr} (h : t.hole = 0) : ∀ k, k ≤ t.st.op.length → t.livesTo k = t.st.op.take k
  | 0, _ => rfl
  | k + 1, hk => by
    have ho : t.st.op[k]? = some (t.st.op[k]'(by omega)) := List.getElem?_eq_getElem _
    rw [livesTo_succ t k _ ho, livesTo_calm h k (by omega), List.take_add_one, ho]
    have : (t.hole == (k : Int) + 1) = false := by rw [h]; simp only [beq_eq_false_iff_ne, ne_eq]; omega
    rw [this]
    rfl
theorem lives_calm {t : Tr} (h : t.hole = 0) : t.lives = t.st.op := by
  unfold Tr.lives
  rw [livesTo_calm h _ (Nat.le_refl _), List.take_length]
theorem pages_calm {t : Tr} (h : t.hole = 0) : t.pages = t.st.pages := by
  unfold Tr.pages St.pages
  rw [lives_calm h]
theorem livesTo_sum (t : Tr) (f : Nat → Int) (h : ∀ i ∈ t.st.op, 0 ≤ f i) : ∀ k, k ≤ t.st.op.length → ((t.livesTo k).map f).sum ≤ ((t.st.op.take k).map f).sum
  | 0, _ => by simp [Tr.livesTo, keptN]
  | k + 1, hk => by
    have ho : t.st.op[k]? = some (t.st.op[k]'(by omega)) := List.getElem?_eq_getElem _
    have h1 := livesTo_sum t f h k (by omega)
    have h2 := h _ (List.getElem_mem (l := t.st.op) (n := k) (by omega))
    rw [livesTo_succ t k _ ho, List.take_add_one, ho]
    split
    · simp only [List.append_nil, List.map_append, List.sum_append, Option.toList_some, List.map_cons, List.map_nil, List.sum_cons, List.sum_nil]; omega
    · simp only [List.map_append, List.sum_append, Option.toList_some, List.map_cons, List.map_nil, List.sum_cons, List.sum_nil]; omega
theorem pages_hole {m : Nat} {t : Tr} (h : Bd m t.st) (hm : m ≤ 4000) : t.pages ≤ t.st.pages := by
  unfold Tr.pages St.pages Tr.lives
  have := livesTo_sum t (fun i => (t.st.lf.getD i default).now) (fun i hi => (h.nows hm i hi).1) _ (Nat.le_refl _)
  rw [List.take_length] at this
  exact this
theorem pages_le {s s' : St} (ho : s'.op = s.op) (h : ∀ i ∈ s.op, (s'.lf.getD i default).now ≤ (s.lf.getD i default).now) : s'.pages ≤ s.pages := by
  unfold St.pages
  rw [ho]
  exact sum_le _ h
theorem getD_set_self {lf : List Lf} {i : Nat} {y : Lf} (h : i < lf.length) : (lf.set i y).getD i default = y := by
  rw [List.getD_eq_getElem?_getD, List.getElem?_set_self h]; rfl
theorem getD_set_ne {lf : List Lf} {i j : Nat} {y : Lf} (h : i ≠ j) : (lf.set i y).getD j default = lf.getD j default := by
  rw [List.getD_eq_getElem?_getD, List.getElem?_set_ne h, List.getD_eq_getElem?_getD]
theorem pages_set_le {lf : List Lf} {op : List Nat} {i : Nat} {y : Lf} (h : y.now ≤ (lf.getD i default).now) : St.pages ⟨lf.set i y, op⟩ ≤ St.pages ⟨lf, op⟩ := by
  refine pages_le rfl fun k _ => ?_
  by_cases hk : i = k
  · subst hk
    by_cases hl : i < lf.length
    · simp only [getD_set_self hl]; exact h
    · simp only [List.set_eq_of_length_le (Nat.le_of_not_lt hl)]; exact Int.le_refl _
  · simp only [getD_set_ne hk]; exact Int.le_refl _

/-! What collect leaves. -/
theorem okLefts_same {lf lf' : List Lf} {op op' : List Nat} (st : Int) : ∀ (l : List Ev) (r : List Nat), (∀ i ∈ r, lf.getD i default = lf'.getD i default) → okLefts ⟨lf, op⟩ st l r = okLefts ⟨lf', op'⟩ st l r := by
  intro l r
  induction r generalizing l with
  | nil => intro _; cases l <;> rfl
  | cons i r ih =>
    intro h
    cases l with
    | nil => rfl
    | cons e l =>
      simp only [okLefts]
      rw [h i List.mem_cons_self, ih l fun k hk => h k (List.mem_cons_of_mem _ hk)]
/-- One left. -/
theorem add_left_pure {lf : List Lf} {op pre r : List Nat} {i : Nat} {room st : Int} {e : Ev} (hinf : St.inf ⟨lf, op⟩ = pre ++ i :: r) (hst : st ≤ 20000) (hlife : (lf.getD i default).life = (i : Int) + 1) :
    (⟨⟨lf, op⟩, 0, room, ((i :: r).length : Nat), st⟩ : Tr).add e = if okLeft st e (lf.getD i default) = true then some ⟨⟨lf.set i { lf.getD i default with fin := e.words }, op⟩, 0, room, (r.length : Nat), st⟩ else none := by
  have hdue : (⟨⟨lf, op⟩, 0, room, ((i :: r).length : Nat), st⟩ : Tr).due = i := by
    unfold Tr.due
    simp only [hinf]
    rw [show (pre ++ i :: r).length - (((i :: r).length : Nat) : Int).toNat = pre.length by rw [Int.toNat_natCast]; simp only [List.length_append]; omega]
    rw [List.getD_eq_getElem?_getD, List.getElem?_append_right (Nat.le_refl _)]
    simp
  have hpos : decide ((0 : Int) < ((i :: r).length : Nat)) = true := by simp
  by_cases hs : e.step = st
  · cases hl : isLeft e
    · have h1 : (⟨⟨lf, op⟩, 0, room, ((i :: r).length : Nat), st⟩ : Tr).early e = true := by
        unfold Tr.early
        simp only [hpos, hl]
        simp
      unfold Tr.add okLeft
      rw [if_pos (by rw [h1]; rfl), hl]
      simp
    · obtain ⟨k1, k2, k3, k4, k5⟩ := left_only hl
      have h1 : (⟨⟨lf, op⟩, 0, room, ((i :: r).length : Nat), st⟩ : Tr).early e = false := by
        unfold Tr.early
        have d1 : decide (e.step < (⟨⟨lf, op⟩, 0, room, ((i :: r).length : Nat), st⟩ : Tr).step) = false := decide_eq_false (by show ¬ e.step < st; omega)
        have d2 : decide (20000 < e.step) = false := decide_eq_false (by omega)
        have d4 : decide (0 < (⟨⟨lf, op⟩, 0, room, ((i :: r).length : Nat), st⟩ : Tr).hole) = false := decide_eq_false (by show ¬ (0 : Int) < 0; omega)
        rw [d1, d2, d4, hl]
        simp
      have h2 : (⟨⟨lf, op⟩, 0, room, ((i :: r).length : Nat), st⟩ : Tr).late e = false := by
        unfold Tr.late
        have : (e.step != (⟨⟨lf, op⟩, 0, room, ((i :: r).length : Nat), st⟩ : Tr).step) = false := by show (e.step != st) = false; rw [hs]; simp
        rw [this, Bool.and_false]
      unfold Tr.add
      rw [if_neg (by rw [h1, h2]; simp), k1, k5, hl, hdue]
      simp only [Bool.false_eq_true, if_false, if_true]
      unfold okLeft Tr.life
      rw [hl, hpos, hlife]
      have hs' : (e.step == st) = true := by simpa using hs
      rw [hs']
      have hcomm : ((i : Int) + 1 == e.life) = (e.life == (i : Int) + 1) := by
        rw [Bool.eq_iff_iff]; simp only [beq_iff_eq]; constructor <;> exact Eq.symm
      rw [hcomm]
      simp only [Bool.true_and]
      split
      · congr 2
        simp
      · rfl
  · have h0 : okLeft st e (lf.getD i default) = false := by
      unfold okLeft
      have : (e.step == st) = false := by simpa using hs
      rw [this]; simp
    rw [h0]
    simp only [Bool.false_eq_true, if_false]
    have h2 : (⟨⟨lf, op⟩, 0, room, ((i :: r).length : Nat), st⟩ : Tr).late e = true := by
      unfold Tr.late
      have : (e.step != (⟨⟨lf, op⟩, 0, room, ((i :: r).length : Nat), st⟩ : Tr).step) = true := by show (e.step != st) = true; simpa using hs
      rw [this, hpos]; rfl
    unfold Tr.add
    rw [if_pos (by rw [h2]; simp)]
theorem okLeft_fin {st : Int} {e : Ev} {x : Lf} (h : okLeft st e x = true) : e.step = st ∧ 0 ≤ e.words ∧ e.words ≤ x.fin := by
  unfold okLeft at h
  simp only [Bool.and_eq_true, decide_eq_true_eq, beq_iff_eq] at h
  exact ⟨h.1.1.1.2, h.1.2, h.2⟩
theorem lefts_ok : ∀ (r : List Nat) (l : List Ev) (lf : List Lf) (op pre : List Nat) (room st : Int), St.inf ⟨lf, op⟩ = pre ++ r → r.Nodup → (∀ i ∈ r, (lf.getD i default).life = (i : Int) + 1) → st ≤ 20000 →
    okLefts ⟨lf, op⟩ st l r = true →
    (⟨⟨lf, op⟩, 0, room, (r.length : Nat), st⟩ : Tr).adds (l.take r.length) = some ⟨⟨setFins lf l r, op⟩, 0, room, 0, st⟩ ∧ (∀ x ∈ l.take r.length, x.step = st) ∧
    ∀ k, k ≤ r.length → ∃ tk, (⟨⟨lf, op⟩, 0, room, (r.length : Nat), st⟩ : Tr).adds (l.take k) = some tk ∧ tk.pages ≤ St.pages ⟨lf, op⟩
  | [], l, lf, op, pre, room, st, hinf, hnd, hlife, hst, hok => by
    refine ⟨?_, fun x hx => by simp at hx, fun k hk => ?_⟩
    · cases l <;> rfl
    · obtain rfl : k = 0 := by simpa using hk
      exact ⟨_, rfl, Int.le_of_eq (pages_calm rfl)⟩
  | i :: r, [], lf, op, pre, room, st, hinf, hnd, hlife, hst, hok => by simp [okLefts] at hok
  | i :: r, e :: l, lf, op, pre, room, st, hinf, hnd, hlife, hst, hok => by
    simp only [okLefts, Bool.and_eq_true] at hok
    have hadd := add_left_pure (room := room) (e := e) hinf hst (hlife i List.mem_cons_self)
    rw [if_pos hok.1] at hadd
    have hne : ∀ k ∈ r, i ≠ k := fun k hk => (List.pairwise_cons.1 hnd).1 k hk
    have hinf2 : St.inf ⟨lf.set i { lf.getD i default with fin := e.words }, op⟩ = (pre ++ [i]) ++ r := by
      have := inf_set (s := ⟨lf, op⟩) (i := i) (y := { lf.getD i default with fin := e.words }) rfl
      rw [List.append_assoc]
      exact this.trans hinf
    have hlife2 : ∀ k ∈ r, ((lf.set i { lf.getD i default with fin := e.words }).getD k default).life = (k : Int) + 1 := fun k hk => by
      rw [getD_set_ne (hne k hk)]; exact hlife k (List.mem_cons_of_mem _ hk)
    have hok2 : okLefts ⟨lf.set i { lf.getD i default with fin := e.words }, op⟩ st l r = true := by
      rw [okLefts_same (lf' := lf) (op' := op) st l r fun k hk => getD_set_ne (hne k hk)]; exact hok.2
    obtain ⟨h1, h2, h3⟩ := lefts_ok r l _ op (pre ++ [i]) room st hinf2 (List.pairwise_cons.1 hnd).2 hlife2 hst hok2
    have hfin := okLeft_fin hok.1
    have hpg : St.pages ⟨lf.set i { lf.getD i default with fin := e.words }, op⟩ ≤ St.pages ⟨lf, op⟩ := pages_set_le (by unfold Lf.now; simp only; split <;> omega)
    refine ⟨?_, ?_, ?_⟩
    · rw [List.length_cons, List.take_succ_cons]
      rw [show ((i :: r).length) = r.length + 1 from rfl] at hadd
      rw [adds_cons _ hadd]
      exact h1
    · intro x hx
      rw [List.length_cons, List.take_succ_cons] at hx
      rcases List.mem_cons.1 hx with rfl | hx
      · exact hfin.1
      · exact h2 x hx
    · intro k hk
      cases k with
      | zero => exact ⟨_, rfl, Int.le_of_eq (pages_calm rfl)⟩
      | succ k =>
        obtain ⟨tk, ha, hp⟩ := h3 k (by simpa using hk)
        exact ⟨tk, by rw [List.take_succ_cons, adds_cons _ hadd]; exact ha, Int.le_trans hp hpg⟩
theorem lefts_conv : ∀ (r : List Nat) (l : List Ev) (lf : List Lf) (op pre : List Nat) (room st : Int) (t' : Tr), St.inf ⟨lf, op⟩ = pre ++ r → r.Nodup → (∀ i ∈ r, (lf.getD i default).life = (i : Int) + 1) → st ≤ 20000 →
    (⟨⟨lf, op⟩, 0, room, (r.length : Nat), st⟩ : Tr).adds l = some t' → t'.left = 0 → okLefts ⟨lf, op⟩ st l r = true ∧ r.length ≤ l.length
  | [], l, lf, op, pre, room, st, t', hinf, hnd, hlife, hst, ha, hl => by refine ⟨?_, by simp⟩; cases l <;> rfl
  | i :: r, [], lf, op, pre, room, st, t', hinf, hnd, hlife, hst, ha, hl => by
    simp only [Tr.adds, Option.some.injEq] at ha
    subst ha
    simp at hl
    omega
  | i :: r, e :: l, lf, op, pre, room, st, t', hinf, hnd, hlife, hst, ha, hl => by
    have hadd := add_left_pure (room := room) (e := e) hinf hst (hlife i List.mem_cons_self)
    obtain ⟨u, h1, h2⟩ := adds_cons_inv ha
    rw [h1] at hadd
    cases hok : okLeft st e (lf.getD i default)
    · rw [hok] at hadd; simp at hadd
    · rw [hok] at hadd
      simp only [if_true, Option.some.injEq] at hadd
      subst hadd
      have hne : ∀ k ∈ r, i ≠ k := fun k hk => (List.pairwise_cons.1 hnd).1 k hk
      have hinf2 : St.inf ⟨lf.set i { lf.getD i default with fin := e.words }, op⟩ = (pre ++ [i]) ++ r := by
        have := inf_set (s := ⟨lf, op⟩) (i := i) (y := { lf.getD i default with fin := e.words }) rfl
        rw [List.append_assoc]
        exact this.trans hinf
      have hlife2 : ∀ k ∈ r, ((lf.set i { lf.getD i default with fin := e.words }).getD k default).life = (k : Int) + 1 := fun k hk => by
        rw [getD_set_ne (hne k hk)]; exact hlife k (List.mem_cons_of_mem _ hk)
      obtain ⟨g1, g2⟩ := lefts_conv r l _ op (pre ++ [i]) room st t' hinf2 (List.pairwise_cons.1 hnd).2 hlife2 hst h2 hl
      refine ⟨?_, by simpa using g2⟩
      simp only [okLefts, hok, Bool.true_and]
      rw [okLefts_same (lf' := lf) (op' := op) st l r fun k hk => getD_set_ne (hne k hk)] at g1
      exact g1
theorem setFins_life : ∀ (r : List Nat) (l : List Ev) (lf : List Lf) (k : Nat), ((setFins lf l r).getD k default).life = (lf.getD k default).life
  | [], l, lf, k => by cases l <;> rfl
  | i :: r, [], lf, k => rfl
  | i :: r, e :: l, lf, k => by
    simp only [setFins]
    rw [setFins_life r l]
    by_cases hk : i = k
    · subst hk
      by_cases hl : i < lf.length
      · rw [getD_set_self hl]
      · rw [List.set_eq_of_length_le (by omega)]
    · rw [getD_set_ne hk]

theorem nodup_of {l : List Nat} (h : ∀ (i j a : Nat), l[i]? = some a → l[j]? = some a → i = j) : l.Nodup := by
  refine List.pairwise_iff_getElem.2 fun i j hi hj hij e => ?_
  have := h i j l[i] (List.getElem?_eq_getElem hi) (by rw [e]; exact List.getElem?_eq_getElem hj)
  omega
theorem nodup_set {l : List Nat} (h : l.Nodup) (j L : Nat) (hL : L ∉ l) : (l.set j L).Nodup := by
  refine nodup_of fun a b x ha hb => ?_
  have hne : ∀ c, l[c]? = some x → x ≠ L := fun c hc e => hL (e ▸ List.mem_of_getElem? hc)
  by_cases h1 : j = a
  · subst h1
    by_cases h2 : j = b
    · exact h2
    · rw [List.getElem?_set_ne h2] at hb
      have hlt : j < l.length := by
        have := (List.getElem?_eq_some_iff.1 ha).1
        simpa using this
      rw [List.getElem?_set_self hlt] at ha
      simp only [Option.some.injEq] at ha
      exact absurd ha.symm (hne b hb)
  · rw [List.getElem?_set_ne h1] at ha
    by_cases h2 : j = b
    · subst h2
      have hlt : j < l.length := by
        have := (List.getElem?_eq_some_iff.1 hb).1
        simpa using this
      rw [List.getElem?_set_self hlt] at hb
      simp only [Option.some.injEq] at hb
      exact absurd hb.symm (hne a ha)
    · rw [List.getElem?_set_ne h2] at hb
      exact nodup_at h ha hb
theorem Inv.set {s : St} (h : Inv s) {i : Nat} {y : Lf} (hy : y.life = (s.lf.getD i default).life) : Inv { s with lf := s.lf.set i y } := by
  refine ⟨fun k hk => ?_, h.nodup, fun hk => h.some (by simpa using hk)⟩
  simp only [List.length_set] at hk
  by_cases hki : i = k
  · subst hki
    simp only [getD_set_self hk]
    rw [hy]; exact h.life _ hk
  · simp only [getD_set_ne hki]
    exact h.life k hk
theorem Inv.new {s : St} (h : Inv s) {e : Ev} (he : e.life = (s.lf.length : Int) + 1) {op' : List Nat} (hn : op'.Nodup) (hop : 0 < op'.length) : Inv ⟨s.lf ++ [newLf e], op'⟩ := by
  refine ⟨fun k hk => ?_, hn, fun _ => hop⟩
  simp only [List.length_append, List.length_singleton] at hk
  rw [List.getD_eq_getElem?_getD]
  by_cases hkl : k < s.lf.length
  · simp only [List.getElem?_append_left hkl]
    rw [← List.getD_eq_getElem?_getD]; exact h.life k hkl
  · have : k = s.lf.length := by omega
    subst this
    simp only [List.getElem?_append_right (Nat.le_refl _), Nat.sub_self, List.getElem?_cons_zero, Option.getD_some]
    exact he
theorem canBegin_life {s : St} {e : Ev} (h : canBegin s e = true) : isOpen e = true ∧ e.life = (s.lf.length : Int) + 1 := by
  unfold canBegin at h
  simp only [Bool.and_eq_true, beq_iff_eq] at h
  exact ⟨h.1.1.1, h.1.1.2⟩
theorem next_inv {m : Nat} {s s' : St} {e : Ev} {r : List Ev} {n : Nat} (hi : Inv s) (hb : Bd m s) (hn : s.next (e :: r) = some (s', n)) : Inv s' := by
  have hL : s.lf.length ∉ s.op := fun hh => by have := hb.opens _ hh; omega
  unfold St.next at hn
  simp only at hn
  split at hn
  · split at hn
    · rename_i hc
      simp only [Option.some.injEq, Prod.mk.injEq] at hn
      obtain ⟨rfl, -⟩ := hn
      refine hi.new (canBegin_life hc).2 ?_ (by simp)
      rw [List.nodup_append]
      exact ⟨hi.nodup, by simp, fun a ha b hb' => by simp at hb'; subst hb'; intro hh; subst hh; exact hL ha⟩
    · cases hn
  split at hn
  · split at hn
    · rename_i hc
      simp only [Option.some.injEq, Prod.mk.injEq] at hn
      obtain ⟨rfl, -⟩ := hn
      have h1 := hi.set (i := s.last) (y := { s.lf.getD s.last default with ended := e.step }) rfl
      have h2 : 1 < s.op.length := by
        unfold canClose at hc
        simp only [Bool.and_eq_true, decide_eq_true_eq] at hc
        exact hc.1.1
      exact ⟨h1.life, hi.nodup.sublist (List.take_sublist _ _), fun _ => by simp [St.close]; omega⟩
    · cases hn
  split at hn
  · cases hs : s.store e with
    | none => rw [hs] at hn; cases hn
    | some t =>
      rw [hs] at hn
      simp only [Option.map_some, Option.some.injEq, Prod.mk.injEq] at hn
      obtain ⟨rfl, -⟩ := hn
      unfold St.store at hs
      split at hs
      · cases hs
      split at hs
      · split at hs
        · cases hs
        split at hs
        · cases hs
        split at hs
        · rename_i x hx _
          simp only [Option.some.injEq] at hs
          subst hs
          refine hi.set ?_
          rw [List.getD_eq_getElem?_getD, hx]; rfl
        · cases hs
      · cases hs
  split at hn
  · cases hs : s.reset e r with
    | none => rw [hs] at hn; cases hn
    | some t =>
      rw [hs] at hn
      simp only [Option.map_some, Option.some.injEq, Prod.mk.injEq] at hn
      obtain ⟨rfl, -⟩ := hn
      unfold St.reset at hs
      split at hs
      · cases hs
      rename_i hat
      obtain ⟨j, i, hj, hoi, hnn, hil, hjl, hgd⟩ := at_some hi hb hat
      split at hs
      · split at hs
        · cases hs
        split at hs
        · rename_i e2 _ hc
          simp only [Option.some.injEq] at hs
          subst hs
          have h1 := hi.new (canBegin_life hc.2.2).2 (op' := s.op.set (s.at e.life).toNat s.lf.length) (nodup_set hi.nodup _ _ hL) (by simp; omega)
          refine h1.set ?_
          rw [hgd]
          simp only
          rw [List.getD_eq_getElem?_getD, List.getD_eq_getElem?_getD, List.getElem?_append_left hil]
        · cases hs
      · cases hs
  split at hn
  · split at hn
    · simp only [Option.some.injEq, Prod.mk.injEq] at hn
      obtain ⟨rfl, -⟩ := hn
      exact ⟨fun k hk => by simp only at hk ⊢; rw [setFins_len] at hk; rw [setFins_life]; exact hi.life k hk, hi.nodup, fun hk => hi.some (by simpa [setFins_len] using hk)⟩
    · cases hn
  · cases hn

/-- The reset of the reference: its first event. -/
theorem add_reset_pure {m : Nat} {s : St} {e : Ev} {room st : Int} (hi : Inv s) (hb : Bd m s) (h0 : st ≤ e.step) (h1 : e.step ≤ 20000) (hk : isReset e = true) :
    (Tr.of s room st).add e = if s.at e.life < 0 then none else if e.words = 0 then
      some ⟨⟨s.lf.set (s.op.getD (s.at e.life).toNat 0) { s.lf.getD (s.op.getD (s.at e.life).toNat 0) default with ended := e.step }, s.op⟩, s.at e.life + 1, (s.lf.getD (s.op.getD (s.at e.life).toNat 0) default).words, 0, e.step⟩ else none := by
  obtain ⟨k1, k2, k3, k4, k5⟩ := reset_only hk
  unfold Tr.add
  rw [if_neg (by rw [calm h0 h1]; simp), k1, k4, k5]
  simp only [Bool.false_eq_true, if_false]
  rw [place_of hi hb, k3, k2, hk]
  simp only [Bool.false_eq_true, if_false, if_true]
  by_cases hat : s.at e.life < 0
  · rw [if_pos hat, if_pos hat]
  · rw [if_neg hat, if_neg hat]
    by_cases hw : e.words = 0
    · rw [if_pos hw, if_pos (by simpa using hw)]
      rfl
    · rw [if_neg hw, if_neg (by simpa using hw)]
/-- The reset of the reference: what comes behind. -/
theorem add_reset2_pure {lf : List Lf} {op : List Nat} {j : Nat} {room st : Int} {e : Ev} (hlf : 0 < lf.length) (hst : st ≤ 20000) :
    (⟨⟨lf, op⟩, (j : Int) + 1, room, 0, st⟩ : Tr).add e = if e.words = room ∧ e.step = st ∧ canBegin ⟨lf, op⟩ e = true then some (Tr.of ⟨lf ++ [newLf e], op.set j lf.length⟩ room e.step) else none := by
  have hpos : decide (0 < (⟨⟨lf, op⟩, (j : Int) + 1, room, 0, st⟩ : Tr).hole) = true := decide_eq_true (by show 0 < (j : Int) + 1; omega)
  by_cases hs : e.step = st
  · cases ho : isOpen e
    · have h1 : (⟨⟨lf, op⟩, (j : Int) + 1, room, 0, st⟩ : Tr).early e = true := by
        unfold Tr.early
        rw [hpos, ho]
        simp
      unfold Tr.add canBegin
      rw [if_pos (by rw [h1]; rfl), ho]
      simp
    · have h1 : (⟨⟨lf, op⟩, (j : Int) + 1, room, 0, st⟩ : Tr).early e = false := by
        unfold Tr.early
        have d1 : decide (e.step < (⟨⟨lf, op⟩, (j : Int) + 1, room, 0, st⟩ : Tr).step) = false := decide_eq_false (by show ¬ e.step < st; omega)
        have d2 : decide (20000 < e.step) = false := decide_eq_false (by omega)
        have d3 : decide (0 < (⟨⟨lf, op⟩, (j : Int) + 1, room, 0, st⟩ : Tr).left) = false := decide_eq_false (by show ¬ (0 : Int) < 0; omega)
        rw [d1, d2, d3, ho]
        simp
      have h2 : (⟨⟨lf, op⟩, (j : Int) + 1, room, 0, st⟩ : Tr).late e = false := by
        unfold Tr.late
        have : (e.step != (⟨⟨lf, op⟩, (j : Int) + 1, room, 0, st⟩ : Tr).step) = false := by show (e.step != st) = false; rw [hs]; simp
        rw [this, Bool.and_false]
      unfold Tr.add
      rw [if_neg (by rw [h1, h2]; simp), ho]
      simp only [if_true]
      have hmo : (⟨⟨lf, op⟩, (j : Int) + 1, room, 0, st⟩ : Tr).mayOpen e = (canBegin ⟨lf, op⟩ e && decide (e.words = room)) := by
        unfold Tr.mayOpen canBegin
        rw [hpos, ho]
        have d2 : ((⟨⟨lf, op⟩, (j : Int) + 1, room, 0, st⟩ : Tr).st.lf.length == 0 && e.words != 0) = false := by
          have : ((⟨⟨lf, op⟩, (j : Int) + 1, room, 0, st⟩ : Tr).st.lf.length == 0) = false := by
            show (lf.length == 0) = false
            simp only [beq_eq_false_iff_ne, ne_eq]; omega
          rw [this]; rfl
        rw [d2]
        simp only [Bool.true_and, Bool.not_false, Bool.and_true]
        congr 1
        show (!(e.words != room)) = _
        by_cases hw : e.words = room <;> simp [hw]
      rw [hmo]
      have hop : ({ (⟨⟨lf, op⟩, (j : Int) + 1, room, 0, st⟩ : Tr) with step := e.step } : Tr).opened e = Tr.of ⟨lf ++ [newLf e], op.set j lf.length⟩ room e.step := by
        unfold Tr.opened
        rw [if_pos (show (0 : Int) < (j : Int) + 1 by omega)]
        simp only
        rw [show ((j : Int) + 1 - 1).toNat = j by omega]
        rfl
      rw [hop]
      by_cases hw : e.words = room
      · cases hc : canBegin ⟨lf, op⟩ e <;> simp [hw, hs]
      · simp [hw]
  · rw [if_neg (fun h => hs h.2.1)]
    have h2 : (⟨⟨lf, op⟩, (j : Int) + 1, room, 0, st⟩ : Tr).late e = true := by
      unfold Tr.late
      have : (e.step != (⟨⟨lf, op⟩, (j : Int) + 1, room, 0, st⟩ : Tr).step) = true := by show (e.step != st) = true; simpa using hs
      rw [this, hpos]; simp
    unfold Tr.add
    rw [if_pos (by rw [h2]; simp)]
theorem add_collect_pure {s : St} {e : Ev} {room st : Int} (h0 : st ≤ e.step) (h1 : e.step ≤ 20000) (hk : isCollect e = true) :
    (Tr.of s room st).add e = if e.life = 0 ∧ e.words = 0 ∧ 0 < s.op.length then some ⟨s, 0, room, (s.inf.length : Nat), e.step⟩ else none := by
  obtain ⟨k1, k2, k3, k4, k5⟩ := collect_only hk
  unfold Tr.add
  rw [if_neg (by rw [calm h0 h1]; simp), k1, hk]
  simp only [Bool.false_eq_true, if_false, if_true]
  by_cases hc : e.life = 0 ∧ e.words = 0 ∧ 0 < s.op.length
  · rw [if_pos hc, if_pos (by simp only [Bool.and_eq_true, beq_iff_eq, decide_eq_true_eq]; exact ⟨⟨hc.1, hc.2.1⟩, hc.2.2⟩)]
    rfl
  · rw [if_neg hc, if_neg (by simp only [Bool.and_eq_true, beq_iff_eq, decide_eq_true_eq]; intro h; exact hc ⟨h.1.1, h.1.2, h.2⟩)]

theorem group {m : Nat} {s s' : St} {e : Ev} {r : List Ev} {n : Nat} {room st : Int} (hi : Inv s) (hb : Bd m s) (hm : m ≤ 4000) (h0 : st ≤ e.step) (h1 : e.step ≤ 20000) (hf : s.lf.length = 0 → isOpen e = true ∧ e.words = 0)
    (hn : s.next (e :: r) = some (s', n)) :
    ∃ room', (Tr.of s room st).adds ((e :: r).take n) = some (Tr.of s' room' e.step) ∧ (∀ x ∈ (e :: r).take n, x.step = e.step) ∧ ∀ k, k < n → ∃ tk, (Tr.of s room st).adds ((e :: r).take k) = some tk ∧ tk.pages ≤ s.pages := by
  have hlf : isOpen e = false → 0 < s.lf.length := fun ho => by
    rcases Nat.eq_zero_or_pos s.lf.length with hz | hz
    · have := (hf hz).1; rw [ho] at this; cases this
    · exact hz
  cases hr : isReset e
  · cases hc : isCollect e
    · have h2 := next_one (r := r) (room := room) hi hb h0 h1 hf hr hc
      rw [hn] at h2
      cases ha : (Tr.of s room st).add e with
      | none => rw [ha] at h2; cases h2.1
      | some t =>
        rw [ha] at h2
        have h3 := h2.1
        simp only [Option.map_some, Option.some.injEq, Prod.mk.injEq] at h3
        obtain ⟨rfl, rfl⟩ := h3
        have h4 := h2.2 t rfl
        refine ⟨room, ?_, fun x hx => by simp at hx; rw [hx], fun k hk => ?_⟩
        · rw [List.take_succ_cons, List.take_zero, adds_cons _ ha, ← h4]; rfl
        · obtain rfl : k = 0 := by omega
          exact ⟨_, rfl, Int.le_of_eq (pages_calm rfl)⟩
    · obtain ⟨k1, k2, k3, k4, k5⟩ := collect_only hc
      have hop := hi.some (hlf k1)
      have ha := add_collect_pure (s := s) (room := room) h0 h1 hc
      unfold St.next at hn
      simp only [k1, k2, k3, k4, hc, Bool.false_eq_true, if_false, if_true] at hn
      split at hn
      · rename_i hcc
        simp only [Option.some.injEq, Prod.mk.injEq] at hn
        obtain ⟨rfl, rfl⟩ := hn
        have hc' : (((e.life = 0) ∧ (e.words = 0)) ∧ s.inf.length ≤ r.length) ∧ okLefts s e.step r s.inf = true := by simpa [canCollect] using hcc
        rw [if_pos ⟨hc'.1.1.1, hc'.1.1.2, hop⟩] at ha
        obtain ⟨g1, g2, g3⟩ := lefts_ok s.inf r s.lf s.op [] room e.step rfl (hi.nodup.sublist List.filter_sublist) (fun i hii => hi.life i (hb.opens i (List.mem_filter.1 hii).1)) h1 hc'.2
        refine ⟨room, ?_, ?_, fun k hk => ?_⟩
        · rw [List.take_succ_cons, adds_cons _ ha]
          exact g1
        · intro x hx
          rw [List.take_succ_cons] at hx
          rcases List.mem_cons.1 hx with rfl | hx
          · rfl
          · exact g2 x hx
        · cases k with
          | zero => exact ⟨_, rfl, Int.le_of_eq (pages_calm rfl)⟩
          | succ k =>
            obtain ⟨tk, h5, h6⟩ := g3 k (by omega)
            exact ⟨tk, by rw [List.take_succ_cons, adds_cons _ ha]; exact h5, h6⟩
      · cases hn
  · obtain ⟨k1, k2, k3, k4, k5⟩ := reset_only hr
    have ha := add_reset_pure (room := room) hi hb h0 h1 hr
    unfold St.next at hn
    simp only [k1, k2, k3, hr, Bool.false_eq_true, if_false, if_true] at hn
    cases hs : s.reset e r with
    | none => rw [hs] at hn; cases hn
    | some t =>
      rw [hs] at hn
      simp only [Option.map_some, Option.some.injEq, Prod.mk.injEq] at hn
      obtain ⟨rfl, rfl⟩ := hn
      unfold St.reset at hs
      split at hs
      · cases hs
      rename_i hat
      obtain ⟨j, i, hj, hoi, hnn, hil, hjl, hgd⟩ := at_some hi hb hat
      rw [if_neg hat] at ha
      split at hs
      · rename_i hw
        rw [if_pos hw] at ha
        split at hs
        · cases hs
        split at hs
        · rename_i e2 r' hc
          simp only [Option.some.injEq] at hs
          subst hs
          rw [hgd] at ha hc ⊢
          rw [hj] at ha ⊢
          have hlen : (s.lf.set i { s.lf.getD i default with ended := e.step }).length = s.lf.length := by simp
          have hb2 := add_reset2_pure (lf := s.lf.set i { s.lf.getD i default with ended := e.step }) (op := s.op) (j := j) (room := (s.lf.getD i default).words) (st := e.step) (e := e2) (by rw [hlen]; omega) h1
          have hcb : canBegin ⟨s.lf.set i { s.lf.getD i default with ended := e.step }, s.op⟩ e2 = canBegin s e2 := by unfold canBegin; rw [hlen]
          rw [if_pos ⟨hc.1, hc.2.1, hcb.trans hc.2.2⟩] at hb2
          have hb3 : Bd m ⟨s.lf.set i { s.lf.getD i default with ended := e.step }, s.op⟩ := hb.set (Nat.le_refl _) (by have := hb.lives _ (getD_mem hil); exact this)
          have hpg : St.pages ⟨s.lf.set i { s.lf.getD i default with ended := e.step }, s.op⟩ ≤ s.pages := pages_set_le (lf := s.lf) (op := s.op) (i := i) (y := { s.lf.getD i default with ended := e.step }) (Int.le_of_eq rfl)
          refine ⟨(s.lf.getD i default).words, ?_, ?_, fun k hk => ?_⟩
          · rw [List.take_succ_cons, List.take_succ_cons, List.take_zero, adds_cons _ ha, adds_cons _ hb2]
            simp only [Tr.adds, Int.toNat_natCast, hlen, hc.2.1]
            rw [List.set_append_left _ _ hil]
          · intro x hx
            simp at hx
            rcases hx with rfl | rfl
            · rfl
            · exact hc.2.1
          · cases k with
            | zero => exact ⟨_, rfl, Int.le_of_eq (pages_calm rfl)⟩
            | succ k =>
              obtain rfl : k = 0 := by omega
              refine ⟨⟨⟨s.lf.set i { s.lf.getD i default with ended := e.step }, s.op⟩, (j : Int) + 1, (s.lf.getD i default).words, 0, e.step⟩, ?_, Int.le_trans (pages_hole (m := m) hb3 hm) hpg⟩
              rw [List.take_succ_cons, adds_cons _ ha]
              rfl
        · cases hs
      · cases hs

theorem first_open {m : Nat} {s : St} {e : Ev} {room st : Int} {u : Tr} (hi : Inv s) (hb : Bd m s) (h : (Tr.of s room st).add e = some u) (hz : s.lf.length = 0) : isOpen e = true ∧ e.words = 0 := by
  have hop : s.op = [] := List.eq_nil_iff_forall_not_mem.2 fun i hii => by have := hb.opens i hii; omega
  have hst : st ≤ e.step ∧ e.step ≤ 20000 ∧ u.step = e.step := add_step h
  unfold Tr.add at h
  rw [if_neg (by rw [calm hst.1 hst.2.1]; simp)] at h
  cases ho : isOpen e
  · exfalso
    rw [ho] at h
    simp only [Bool.false_eq_true, if_false] at h
    split at h
    · split at h
      · rename_i hc
        simp only [Bool.and_eq_true, decide_eq_true_eq] at hc
        have : (Tr.of s room st).st.op.length = s.op.length := rfl
        rw [hop] at this
        have h2 := hc.2
        rw [this] at h2
        simp at h2
      · cases h
    · split at h
      · split at h
        · rename_i hc
          simp only [Bool.and_eq_true, decide_eq_true_eq] at hc
          have : (0 : Int) < 0 := hc.1.1.1
          omega
        · cases h
      · rw [place_of hi hb, if_pos (by unfold St.at; rw [hop]; simp [fidx])] at h
        cases h
  · refine ⟨rfl, ?_⟩
    rw [ho] at h
    simp only [if_true] at h
    split at h
    · rename_i hmo
      unfold Tr.mayOpen at hmo
      have : ((Tr.of s room st).st.lf.length == 0) = true := by show (s.lf.length == 0) = true; rw [hz]; rfl
      rw [this] at hmo
      simp only [Bool.true_and, Bool.and_eq_true, Bool.not_eq_true', bne_eq_false_iff_eq] at hmo
      exact hmo.1.2
    · cases h

theorem key {m : Nat} {s : St} {e : Ev} {r : List Ev} {room st : Int} {t' : Tr} (hi : Inv s) (hb : Bd m s) (h : (Tr.of s room st).adds (e :: r) = some t') (hh : t'.hole = 0) (hl : t'.left = 0) :
    (s.lf.length = 0 → isOpen e = true ∧ e.words = 0) ∧ st ≤ e.step ∧ e.step ≤ 20000 ∧ ∃ s' n, s.next (e :: r) = some (s', n) := by
  obtain ⟨u, h1, h2⟩ := adds_cons_inv h
  have hst : st ≤ e.step ∧ e.step ≤ 20000 ∧ u.step = e.step := add_step h1
  have hf : s.lf.length = 0 → isOpen e = true ∧ e.words = 0 := first_open hi hb h1
  refine ⟨hf, hst.1, hst.2.1, ?_⟩
  have hlf : isOpen e = false → 0 < s.lf.length := fun ho => by
    rcases Nat.eq_zero_or_pos s.lf.length with hz | hz
    · have := (hf hz).1; rw [ho] at this; cases this
    · exact hz
  cases hr : isReset e
  · cases hc : isCollect e
    · have h3 := (next_one (r := r) (room := room) hi hb hst.1 hst.2.1 hf hr hc).1
      rw [h1] at h3
      exact ⟨_, _, h3⟩
    · obtain ⟨k1, k2, k3, k4, k5⟩ := collect_only hc
      rw [add_collect_pure hst.1 hst.2.1 hc] at h1
      split at h1
      · rename_i hcc
        simp only [Option.some.injEq] at h1
        subst h1
        obtain ⟨g1, g2⟩ := lefts_conv s.inf r s.lf s.op [] room e.step t' rfl (hi.nodup.sublist List.filter_sublist) (fun i hii => hi.life i (hb.opens i (List.mem_filter.1 hii).1)) hst.2.1 h2 hl
        have g3 : canCollect s e r = true := by
          unfold canCollect
          simp only [Bool.and_eq_true, beq_iff_eq, decide_eq_true_eq]
          exact ⟨⟨⟨hcc.1, hcc.2.1⟩, g2⟩, g1⟩
        refine ⟨{ s with lf := setFins s.lf r s.inf }, s.inf.length + 1, ?_⟩
        unfold St.next
        simp only [k1, k2, k3, k4, hc, g3, Bool.false_eq_true, if_false, if_true]
      · cases h1
  · obtain ⟨k1, k2, k3, k4, k5⟩ := reset_only hr
    rw [add_reset_pure hi hb hst.1 hst.2.1 hr] at h1
    split at h1
    · cases h1
    rename_i hat
    obtain ⟨j, i, hj, hoi, hnn, hil, hjl, hgd⟩ := at_some hi hb hat
    split at h1
    · rename_i hw
      simp only [Option.some.injEq] at h1
      subst h1
      cases r with
      | nil =>
        simp only [Tr.adds, Option.some.injEq] at h2
        subst h2
        simp only at hh
        omega
      | cons e2 r =>
        obtain ⟨u2, h3, h4⟩ := adds_cons_inv h2
        rw [hj, Int.toNat_natCast] at h3
        have hlen : (s.lf.set (s.op.getD j 0) { s.lf.getD (s.op.getD j 0) default with ended := e.step }).length = s.lf.length := by simp
        rw [add_reset2_pure (by rw [hlen]; omega) hst.2.1] at h3
        split at h3
        · rename_i hc
          have hcb : canBegin ⟨s.lf.set (s.op.getD j 0) { s.lf.getD (s.op.getD j 0) default with ended := e.step }, s.op⟩ e2 = canBegin s e2 := by unfold canBegin; rw [hlen]
          rw [hcb] at hc
          unfold St.next
          simp only [k1, k2, k3, hr, Bool.false_eq_true, if_false, if_true]
          unfold St.reset
          rw [if_neg hat, if_pos hw]
          simp only
          rw [hj, Int.toNat_natCast, if_pos hc]
          exact ⟨_, _, rfl⟩
        · cases h3
    · cases h1

def lastSt : St → List (St × Int) → St
  | s, [] => s
  | _, x :: r => lastSt x.1 r
theorem lastSt_final : ∀ (tr : List (St × Int)), lastSt St.init tr = finalOf tr
  | [] => rfl
  | [x] => rfl
  | x :: y :: r => by
    have := lastSt_final (y :: r)
    simp only [lastSt, finalOf] at this ⊢
    exact this
theorem steps_same : ∀ (a b : List Ev) (p q : Int), (∀ x ∈ a, x.step = q) → a ≠ [] → stepsFrom p (a ++ b) = true → stepsFrom q b = true
  | [], _, _, _, _, h, _ => absurd rfl h
  | [x], b, p, q, hq, _, h => by
    simp only [List.cons_append, List.nil_append, stepsFrom, Bool.and_eq_true] at h
    rw [← hq x (by simp)]
    exact h.2
  | x :: y :: a, b, p, q, hq, _, h => by
    simp only [List.cons_append, stepsFrom, Bool.and_eq_true] at h
    exact steps_same (y :: a) b x.step q (fun z hz => hq z (List.mem_cons_of_mem _ hz)) (by simp) (by simp only [List.cons_append, stepsFrom, Bool.and_eq_true]; exact h.2)
theorem upto_same : ∀ (a : List Ev) (s : Int), (∀ x ∈ a, passes s x = true) → upto a s = a
  | [], _, _ => rfl
  | x :: a, s, h => by
    unfold upto
    rw [List.takeWhile_cons, h x List.mem_cons_self]
    simp only [if_true]
    have := upto_same a s fun z hz => h z (List.mem_cons_of_mem _ hz)
    unfold upto at this
    rw [this]
/-- What is known of a run. -/
structure Good (s : St) (room st : Int) (l : List Ev) (tr : List (St × Int)) : Prop where
  fin : ∃ room' st', (Tr.of s room st).adds l = some (Tr.of (lastSt s tr) room' st')
  pg : ∀ k, k ≤ l.length → ∃ tk, (Tr.of s room st).adds (l.take k) = some tk ∧ (tk.pages ≤ s.pages ∨ ∃ x ∈ tr, tk.pages ≤ x.1.pages)
  hit : ∀ x ∈ tr, ∃ k tk, k ≤ l.length ∧ 0 < k ∧ (Tr.of s room st).adds (l.take k) = some tk ∧ tk.pages = x.1.pages
  upto : ∀ x : Int, 0 ≤ x → ∃ room' st', (Tr.of s room st).adds (upto l x) = some (Tr.of (lastSt s (tr.takeWhile fun y => decide (y.2 ≤ x))) room' st')
theorem good_run : ∀ (fuel : Nat) (s : St) (room st : Int) (m : Nat) (l : List Ev) (tr : List (St × Int)), Inv s → Bd m s → m + l.length ≤ 4000 → stepsFrom st l = true → runs fuel s l = some tr → Good s room st l tr := by
  intro fuel
  induction fuel with
  | zero => intro s room st m l tr hi hb hm hs hr; simp [runs] at hr
  | succ fuel ih =>
    intro s room st m l tr hi hb hm hs hr
    cases l with
    | nil =>
      simp only [runs, Option.some.injEq] at hr
      subst hr
      exact ⟨⟨room, st, rfl⟩, fun k hk => ⟨_, by rw [List.take_nil]; rfl, .inl (Int.le_of_eq (pages_calm rfl))⟩, fun x hx => (by cases hx), fun x _ => ⟨room, st, rfl⟩⟩
    | cons e r =>
      simp only [runs] at hr
      split at hr
      · cases hr
      rename_i hf
      have hf' : s.lf.length = 0 → isOpen e = true ∧ e.words = 0 := fun hz => Classical.byContradiction fun hh => hf ⟨hz, hh⟩
      split at hr
      · cases hr
      rename_i s' n hn
      cases hr2 : runs fuel s' ((e :: r).drop n) with
      | none => rw [hr2] at hr; cases hr
      | some tr' =>
        rw [hr2] at hr
        simp only [Option.map_some, Option.some.injEq] at hr
        have hs2 := hs
        simp only [stepsFrom, Bool.and_eq_true, decide_eq_true_eq] at hs2
        obtain ⟨hb', hn1, hn2⟩ := next_bd hb hn
        obtain ⟨room', g1, g2, g3⟩ := group (room := room) hi hb (by simp only [List.length_cons] at hm; omega) hs2.1.1.1 hs2.1.2 hf' hn
        have hi' := next_inv hi hb hn
        have htl : ((e :: r).take n).length = n := by simp only [List.length_take, List.length_cons]; omega
        have hdl : ((e :: r).drop n).length = r.length + 1 - n := by simp only [List.length_drop, List.length_cons]
        have hsplit : (e :: r).take n ++ (e :: r).drop n = e :: r := List.take_append_drop _ _
        have hst : stepsFrom e.step ((e :: r).drop n) = true := steps_same ((e :: r).take n) _ st e.step g2 (by intro h; rw [h] at htl; simp at htl; omega) (by rw [hsplit]; exact hs)
        have hstep : ((e :: r).getD (n - 1) default).step = e.step := by
          refine g2 _ ?_
          have : ((e :: r).take n)[n - 1]? = some ((e :: r).getD (n - 1) default) := by
            rw [List.getElem?_take, if_pos (by omega), List.getD_eq_getElem?_getD, List.getElem?_eq_getElem (by simp only [List.length_cons]; omega)]
            rfl
          exact List.mem_of_getElem? this
        rw [hstep] at hr
        subst hr
        have G := ih s' room' e.step (m + n) _ tr' hi' hb' (by rw [hdl]; simp only [List.length_cons] at hm; omega) hst hr2
        have hadds : ∀ b, (Tr.of s room st).adds ((e :: r).take n ++ b) = (Tr.of s' room' e.step).adds b := fun b => by rw [adds_append, g1]; rfl
        refine ⟨?_, ?_, ?_, ?_⟩
        · obtain ⟨r2, s2, h⟩ := G.fin
          exact ⟨r2, s2, by rw [← hsplit, hadds]; exact h⟩
        · intro k hk
          by_cases hkn : k < n
          · obtain ⟨tk, h1, h2⟩ := g3 k hkn
            exact ⟨tk, h1, .inl h2⟩
          · obtain ⟨tk, h1, h2⟩ := G.pg (k - n) (by rw [hdl]; simp only [List.length_cons] at hk; omega)
            refine ⟨tk, ?_, ?_⟩
            · have : (e :: r).take k = (e :: r).take n ++ ((e :: r).drop n).take (k - n) := by
                rw [← List.take_add]; congr 1; omega
              rw [this, hadds]; exact h1
            · rcases h2 with h2 | ⟨x, hx, h2⟩
              · exact .inr ⟨_, List.mem_cons_self, h2⟩
              · exact .inr ⟨x, List.mem_cons_of_mem _ hx, h2⟩
        · intro x hx
          rcases List.mem_cons.1 hx with rfl | hx
          · exact ⟨n, _, by simp only [List.length_cons]; omega, by omega, g1, pages_calm rfl⟩
          · obtain ⟨k, tk, h0, h1, h2, h3⟩ := G.hit x hx
            refine ⟨n + k, tk, by rw [hdl] at h0; simp only [List.length_cons]; omega, by omega, ?_, h3⟩
            rw [List.take_add, hadds]; exact h2
        · intro x hx
          by_cases hp : e.step ≤ x
          · have h1 : upto ((e :: r).take n) x = (e :: r).take n := upto_same _ _ fun z hz => by unfold passes; rw [g2 z hz]; simp [hp]
            obtain ⟨r2, s2, h⟩ := G.upto x hx
            refine ⟨r2, s2, ?_⟩
            have h2 := upto_all ((e :: r).drop n) h1
            rw [hsplit] at h2
            rw [h2, hadds, h, List.takeWhile_cons]
            simp only [hp, decide_true, if_true, lastSt]
          · have h1 : Go.Proofs.YtnloffjjlhhanaaDoor.upto (e :: r) x = [] := by
              unfold Go.Proofs.YtnloffjjlhhanaaDoor.upto
              rw [List.takeWhile_cons, show passes x e = false by unfold passes; simp; omega]
              rfl
            refine ⟨room, st, ?_⟩
            rw [h1, List.takeWhile_cons]
            simp only [hp, decide_false, Bool.false_eq_true, if_false, lastSt]
            rfl
theorem conv_run : ∀ (fuel : Nat) (s : St) (room st : Int) (m : Nat) (l : List Ev) (t' : Tr), l.length < fuel → Inv s → Bd m s → m + l.length ≤ 4000 → (Tr.of s room st).adds l = some t' → t'.hole = 0 → t'.left = 0 → ∃ tr, runs fuel s l = some tr := by
  intro fuel
  induction fuel with
  | zero => intro s room st m l t' h; omega
  | succ fuel ih =>
    intro s room st m l t' hf hi hb hm ha hh hl
    cases l with
    | nil => exact ⟨[], rfl⟩
    | cons e r =>
      obtain ⟨k1, k2, k3, s', n, hn⟩ := key hi hb ha hh hl
      obtain ⟨hb', hn1, hn2⟩ := next_bd hb hn
      simp only [List.length_cons] at hf hm
      obtain ⟨room', g1, g2, g3⟩ := group (room := room) hi hb (by omega) k2 k3 k1 hn
      have hi' := next_inv hi hb hn
      have hdl : ((e :: r).drop n).length = r.length + 1 - n := by simp only [List.length_drop, List.length_cons]
      have ha2 : (Tr.of s' room' e.step).adds ((e :: r).drop n) = some t' := by
        rw [← List.take_append_drop n (e :: r), adds_append, g1] at ha
        exact ha
      obtain ⟨tr, ht⟩ := ih s' room' e.step (m + n) _ t' (by rw [hdl]; omega) hi' hb' (by rw [hdl]; omega) ha2 hh hl
      refine ⟨(s', ((e :: r).getD (n - 1) default).step) :: tr, ?_⟩
      simp only [runs]
      rw [if_neg (fun h => h.2 (k1 h.1)), hn]
      simp only
      rw [ht]
      rfl
theorem play_good {l : List Ev} {tr : List (St × Int)} (hl : l.length ≤ 2000) (h : playP l = some tr) : Good St.init 0 0 l tr := by
  unfold playP at h
  split at h
  · rename_i hs
    exact good_run _ _ 0 0 0 l tr Inv.init Bd.init (by omega) hs h
  · cases h
theorem play_conv {l : List Ev} {t' : Tr} (hl : l.length ≤ 2000) (h : Tr.init.adds l = some t') (hh : t'.hole = 0) (hl' : t'.left = 0) : ∃ tr, playP l = some tr := by
  have h' : (Tr.of St.init 0 0).adds l = some t' := h
  obtain ⟨tr, ht⟩ := conv_run (l.length + 1) St.init 0 0 0 l t' (by omega) Inv.init Bd.init (by omega) h' hh hl'
  refine ⟨tr, ?_⟩
  unfold playP
  have hs := adds_steps l (Tr.of St.init 0 0) t' (Int.le_refl _) h'
  have hs' : stepsFrom 0 l = true := hs
  rw [if_pos hs']
  exact ht
/-- Which events are right, for the reference. -/
def rightR (l : List Ev) : Bool := match Tr.init.adds l with
  | none => false
  | some t => t.hole == 0 && t.left == 0
theorem right_same {l : List Ev} (hl : l.length ≤ 2000) : rightR l = (playP l).isSome := by
  unfold rightR
  cases hp : playP l with
  | some tr =>
    obtain ⟨r, s, h⟩ := (play_good hl hp).fin
    have h' : Tr.init.adds l = _ := h
    rw [h']; rfl
  | none =>
    cases ha : Tr.init.adds l with
    | none => rfl
    | some t =>
      simp only [Option.isSome_none]
      cases hb : (t.hole == 0 && t.left == 0)
      · rfl
      · simp only [Bool.and_eq_true, beq_iff_eq] at hb
        obtain ⟨tr, ht⟩ := play_conv hl ha hb.1 hb.2
        rw [hp] at ht; cases ht
end Go.Proofs.YtnloffjjlhhanaaDoor
