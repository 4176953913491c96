/- The reference's add, whatever the event; and what its numbers keep. -/
import Derived.Test.YtnloffjjlhhanaaDoorAddStore
set_option linter.unusedVariables false
set_option linter.unusedSimpArgs false
namespace Go.Proofs.YtnloffjjlhhanaaDoor
open Go.RowKit
open Go.Proofs

theorem place_at {t : Tr} {n : Int} {j : Nat} (hj : t.place n = (j : Int)) : ∃ i, t.st.op[j]? = some i ∧ n = (i : Int) + 1 ∧ t.hole ≠ (j : Int) + 1 := by
  have h := fidx_at _ j hj
  rw [List.getElem?_map] at h
  cases hz : t.st.op.zipIdx[j]? with
  | none => rw [hz] at h; cases h
  | some p =>
    rw [hz] at h
    rw [List.getElem?_zipIdx] at hz
    cases ho : t.st.op[j]? with
    | none => rw [ho] at hz; cases hz
    | some i =>
      rw [ho] at hz
      simp only [Option.map_some, Option.some.injEq, Nat.zero_add] at hz
      subst hz
      simp only [Option.map_some, Option.some.injEq, Bool.and_eq_true, beq_iff_eq, bne_iff_ne] at h
      exact ⟨i, rfl, h.1.symm, h.2⟩

theorem trAdd (B : Nat) (w : World) (R : Loc) (t : Tr) (e : Ev) (m : Nat) (h : TrAt B w R t) (hok : TrOk m t) (hm : m ≤ 4000) (hB : B ≤ w.heap.size) :
    Calls Tryd.prog 38 #[.pointer (some ⟨R.t, 0, none⟩), e.val] w (AddPost B R w (t.add e)) := by
  cases hp : (t.early e || t.late e)
  · cases ho : isOpen e
    · cases hc : isCollect e
      · cases hl : isLeft e
        · by_cases hj : t.place e.life < 0
          · exact add_lost B w R t e m h hok hm hB hp ho hc hl hj
          · obtain ⟨j, hj⟩ : ∃ j : Nat, t.place e.life = j := ⟨(t.place e.life).toNat, by omega⟩
            obtain ⟨i, hi, hlife, -⟩ := place_at hj
            have hil := h.opens i (List.mem_of_getElem? hi)
            have hx : t.st.lf[i]? = some (t.st.lf[i]'hil) := List.getElem?_eq_getElem _
            cases hs : isStore e
            · cases hk : isClose e
              · cases hr : isReset e
                · exact add_other B w R t e m h hok hm hB hp ho hc hl hs hk hr j i _ hj hi hx hlife
                · exact add_reset B w R t e m h hok hm hB hp ho hc hl hs hk hr j i _ hj hi hx hlife
              · exact add_close B w R t e m h hok hm hB hp ho hc hl hs hk j i _ hj hi hx hlife
            · cases hcan : (decide (2 ≤ e.words) && decide (e.words ≤ 32) && (t.st.lf[i]'hil).may e.words)
              · exact add_nostore B w R t e m h hok hm hB hp ho hc hl hs j i _ hj hi hx hlife hcan
              · exact add_store B w R t e m h hok hm hB hp ho hc hl hs j i _ hj hi hx hlife hcan
        · exact add_left B w R t e m h hok hm hB hp ho hc hl
      · cases hl : isLeft e
        · exact add_collect B w R t e m h hok hm hB hp ho hl hc
        · exfalso
          unfold isCollect at hc
          unfold isLeft at hl
          have h1 : e.act.toList = [99, 111, 108, 108, 101, 99, 116] := by simpa using hc
          rw [h1] at hl
          cases hl
    · exact add_open B w R t e m h hok hm hB hp ho
  · refine (add_early B w R t e h hp).mono ?_
    rintro en w' ⟨rfl, hf⟩
    have ha : t.add e = none := by unfold Tr.add; rw [hp]; rfl
    unfold AddPost
    rw [ha]
    exact ⟨hf.wider fun _ _ h => h.elim, rfl⟩

theorem Tr.init_ok : TrOk 0 Tr.init := ⟨Bd.init, by simp [Tr.init], by simp [Tr.init, St.init], by simp [Tr.init], by simp [Tr.init, St.inf, St.init]⟩
theorem inf_set {s : St} {i : Nat} {y : Lf} (hy : (y.words > 0) = ((s.lf.getD i default).words > 0)) : St.inf { s with lf := s.lf.set i y } = s.inf := by
  unfold St.inf
  refine List.filter_congr fun k _ => ?_
  by_cases hki : k = i
  · subst hki
    by_cases hl : k < s.lf.length
    · simp only [List.getD_eq_getElem?_getD, List.getElem?_set_self hl, Option.getD_some]
      rw [List.getD_eq_getElem?_getD] at hy
      simp only [hy]
    · rw [List.set_eq_of_length_le (by omega)]
  · simp only [List.getD_eq_getElem?_getD, List.getElem?_set_ne (Ne.symm hki)]
theorem getD_some {l : List Lf} {i : Nat} (h : i < l.length) : l[i]? = some (l.getD i default) := by
  rw [List.getD_eq_getElem?_getD, List.getElem?_eq_getElem h]; rfl
theorem Bd.set {m n : Nat} {s : St} {i : Nat} {y : Lf} (h : Bd m s) (hmn : m ≤ n) (hy : 0 ≤ y.words ∧ y.words ≤ 31 ∧ 0 ≤ y.fin ∧ y.fin ≤ 64 * n ∧ 0 ≤ y.objs ∧ y.objs ≤ n ∧ 0 ≤ y.wds ∧ y.wds ≤ 32 * n ∧ 0 ≤ y.pages ∧ y.pages ≤ 2 * n) : Bd n { s with lf := s.lf.set i y } :=
  ⟨by simp only [List.length_set]; have := h.lf; omega, Nat.le_trans h.op hmn, fun x hx => by
    rcases List.mem_or_eq_of_mem_set hx with hx | rfl
    · exact (h.mono hmn).lives x hx
    · exact hy, fun k hk => by simp only [List.length_set]; exact h.opens k hk⟩
theorem due_mem {m : Nat} {t : Tr} (h : TrOk m t) (hl : 0 < t.left) : t.due ∈ t.st.op := by
  have := h.left1
  unfold Tr.due
  rw [List.getD_eq_getElem?_getD, List.getElem?_eq_getElem (by omega)]
  exact (List.mem_filter.1 (List.getElem_mem _)).1
theorem add_ok {m : Nat} {t t' : Tr} {e : Ev} (h : TrOk m t) (ha : t.add e = some t') : TrOk (m + 1) t' := by
  have hb := h.bd
  unfold Tr.add at ha
  split at ha
  · cases ha
  rename_i hel
  have hel' : t.early e = false := by
    cases hx : t.early e
    · rfl
    · rw [hx] at hel; simp at hel
  split at ha
  · rename_i ho
    have hl0 : t.left = 0 := by
      have h1 : isLeft e = false := by
        cases hl : isLeft e
        · rfl
        · unfold isLeft at hl
          unfold isOpen at ho
          have h2 : e.act.toList = [111, 112, 101, 110] := by simpa using ho
          rw [h2] at hl
          cases hl
      have := h.left0
      by_cases hz : 0 < t.left
      · unfold Tr.early at hel'; simp [hz, h1] at hel'
      · omega
    split at ha
    · rename_i hmo
      simp only [Option.some.injEq] at ha
      subst ha
      have hw : 0 ≤ e.words ∧ e.words ≤ 31 := by
        unfold Tr.mayOpen at hmo
        simp only [Bool.and_eq_true, decide_eq_true_eq] at hmo
        exact ⟨hmo.1.1.1.2, hmo.1.1.2⟩
      have hlives : ∀ x ∈ t.st.lf ++ [newLf e], 0 ≤ x.words ∧ x.words ≤ 31 ∧ 0 ≤ x.fin ∧ x.fin ≤ 64 * (m + 1 : Nat) ∧ 0 ≤ x.objs ∧ x.objs ≤ (m + 1 : Nat) ∧ 0 ≤ x.wds ∧ x.wds ≤ 32 * (m + 1 : Nat) ∧ 0 ≤ x.pages ∧ x.pages ≤ 2 * (m + 1 : Nat) := fun x hx => by
        rcases List.mem_append.1 hx with hx | hx
        · have := hb.lives x hx; omega
        · simp at hx; subst hx; exact newLf_bd e _ hw.1 hw.2
      have hlf := hb.lf
      have hop := hb.op
      have h0 := h.hole0
      have h1 := h.hole1
      unfold Tr.opened
      simp only
      split
      · refine ⟨⟨by simp; omega, by simp; omega, hlives, fun i hi => ?_⟩, by simp, by simp, by simp only; omega, by simp only; omega⟩
        simp only [List.length_append, List.length_singleton]
        rcases List.mem_or_eq_of_mem_set hi with hi | rfl
        · have := hb.opens i hi; omega
        · omega
      · refine ⟨⟨by simp; omega, by simp; omega, hlives, fun i hi => ?_⟩, h0, by simp; omega, by simp only; omega, by simp only; omega⟩
        simp only [List.length_append, List.length_singleton]
        rcases List.mem_append.1 hi with hi | hi
        · have := hb.opens i hi; omega
        · simp at hi; omega
    · cases ha
  split at ha
  · split at ha
    · simp only [Option.some.injEq] at ha
      subst ha
      exact ⟨hb.mono (by omega), h.hole0, h.hole1, by simp, by simp⟩
    · cases ha
  split at ha
  · split at ha
    · rename_i hc
      simp only [Option.some.injEq] at ha
      subst ha
      simp only [Bool.and_eq_true, decide_eq_true_eq] at hc
      have hd := hb.opens _ (due_mem h hc.1.1.1)
      have hx := hb.lives _ (getD_mem hd)
      have hinf : St.inf { t.st with lf := t.st.lf.set t.due { t.life t.due with fin := e.words } } = t.st.inf := inf_set rfl
      have hw := hc.2
      unfold Tr.life at hw
      have := h.left1
      refine ⟨hb.set (by omega) ?_, h.hole0, h.hole1, by simp only; omega, by simp only [hinf]; omega⟩
      unfold Tr.life
      simp only
      omega
    · cases ha
  split at ha
  · cases ha
  rename_i hpl
  obtain ⟨j, hj⟩ : ∃ j : Nat, t.place e.life = j := ⟨(t.place e.life).toNat, by omega⟩
  obtain ⟨i, hi, -, -⟩ := place_at hj
  have ei : t.st.op.getD (t.place e.life).toNat 0 = i := by rw [hj, Int.toNat_natCast, List.getD_eq_getElem?_getD, hi]; rfl
  have hjl : j < t.st.op.length := (List.getElem?_eq_some_iff.1 hi).1
  have hil := hb.opens i (List.mem_of_getElem? hi)
  have hx := hb.lives _ (getD_mem hil)
  simp only [ei] at ha
  split at ha
  · split at ha
    · rename_i hc
      simp only [Option.some.injEq] at ha
      subst ha
      simp only [Bool.and_eq_true, decide_eq_true_eq] at hc
      have hinf : St.inf { t.st with lf := t.st.lf.set i ((t.life i).put e.words) } = t.st.inf := inf_set (by unfold Tr.life Lf.put; rfl)
      exact ⟨hb.set (by omega) (put_bd _ e.words m hx hc.1.1 hc.1.2), h.hole0, h.hole1, h.left0, by simp only [hinf]; exact h.left1⟩
    · cases ha
  have hel2 : isLeft e = false := by
    rename_i h1 h2 h3 h4
    cases hl : isLeft e
    · rfl
    · simp_all
  have hl0 : t.left = 0 := by
    have := h.left0
    by_cases hz : 0 < t.left
    · unfold Tr.early at hel'; simp [hz, hel2] at hel'
    · omega
  have hop1 : isOpen e = false := by
    cases hl : isOpen e
    · rfl
    · simp_all
  have hh0 : t.hole = 0 := by
    have := h.hole0
    by_cases hz : 0 < t.hole
    · unfold Tr.early at hel'; simp [hz, hop1] at hel'
    · omega
  split at ha
  · split at ha
    · simp only [Option.some.injEq] at ha
      subst ha
      have hs := hb.set (n := m + 1) (i := i) (y := { t.life i with ended := e.step }) (by omega) (by unfold Tr.life; simp only; omega)
      refine ⟨⟨hs.lf, by have := hs.op; simp only [List.length_take] at *; omega, hs.lives, fun k hk => hs.opens k (List.mem_of_mem_take hk)⟩, h.hole0, by simp only; omega, h.left0, by simp only; omega⟩
    · cases ha
  split at ha
  · split at ha
    · simp only [Option.some.injEq] at ha
      subst ha
      have hs := hb.set (n := m + 1) (i := i) (y := { t.life i with ended := e.step }) (by omega) (by unfold Tr.life; simp only; omega)
      refine ⟨hs, by simp only; omega, by simp only; omega, h.left0, by simp only; omega⟩
    · cases ha
  · cases ha
end Go.Proofs.YtnloffjjlhhanaaDoor
