/- The plain law: what the program's play and the reference's adds make of events is alike. -/
import Derived.Test.YtnloffjjlhhanaaGone
import Derived.Test.YtnloffjjlhhanaaBeginsP
set_option linter.unusedVariables false
set_option linter.unusedSimpArgs false
namespace Go.Proofs.Ytnloffjjlhhanaa
open Go.RowKit
open Go.Proofs

theorem open_only {e : Ev} (h : isOpen e = true) : isClose e = false ∧ isStore e = false ∧ isReset e = false ∧ isCollect e = false ∧ isLeft e = false := by
  have h1 : e.act.toList = [111, 112, 101, 110] := by simpa [isOpen] using h
  simp [isClose, isStore, isReset, isCollect, isLeft, h1]
theorem close_only {e : Ev} (h : isClose e = true) : isOpen e = false ∧ isStore e = false ∧ isReset e = false ∧ isCollect e = false ∧ isLeft e = false := by
  have h1 : e.act.toList = [99, 108, 111, 115, 101] := by simpa [isClose] using h
  simp [isOpen, isStore, isReset, isCollect, isLeft, h1]
theorem store_only {e : Ev} (h : isStore e = true) : isOpen e = false ∧ isClose e = false ∧ isReset e = false ∧ isCollect e = false ∧ isLeft e = false := by
  have h1 : e.act.toList = [115, 116, 111, 114, 101] := by simpa [isStore] using h
  simp [isOpen, isClose, isReset, isCollect, isLeft, h1]
theorem reset_only {e : Ev} (h : isReset e = true) : isOpen e = false ∧ isClose e = false ∧ isStore e = false ∧ isCollect e = false ∧ isLeft e = false := by
  have h1 : e.act.toList = [114, 101, 115, 101, 116] := by simpa [isReset] using h
  simp [isOpen, isClose, isStore, isCollect, isLeft, h1]
theorem collect_only {e : Ev} (h : isCollect e = true) : isOpen e = false ∧ isClose e = false ∧ isStore e = false ∧ isReset e = false ∧ isLeft e = false := by
  have h1 : e.act.toList = [99, 111, 108, 108, 101, 99, 116] := by simpa [isCollect] using h
  simp [isOpen, isClose, isStore, isReset, isLeft, h1]
theorem left_only {e : Ev} (h : isLeft e = true) : isOpen e = false ∧ isClose e = false ∧ isStore e = false ∧ isReset e = false ∧ isCollect e = false := by
  have h1 : e.act.toList = [108, 101, 102, 116] := by simpa [isLeft] using h
  simp [isOpen, isClose, isStore, isReset, isCollect, h1]

/-- What holds between groups of events, besides the bounds. -/
structure Inv (s : St) : Prop where
  life : ∀ i, i < s.lf.length → (s.lf.getD i default).life = (i : Int) + 1
  nodup : s.op.Nodup
  some : 0 < s.lf.length → 0 < s.op.length
theorem Inv.init : Inv St.init := ⟨fun i h => by simp [St.init] at h, by simp [St.init], fun h => by simp [St.init] at h⟩
def Tr.of (s : St) (room st : Int) : Tr := ⟨s, 0, room, 0, st⟩
theorem place_of {m : Nat} {s : St} (hi : Inv s) (hb : Bd m s) (room st n : Int) : (Tr.of s room st).place n = s.at n := by
  unfold Tr.place St.at
  congr 1
  refine List.ext_getElem? fun j => ?_
  rw [List.getElem?_map, List.getElem?_map]
  show Option.map _ ((s.op.zipIdx)[j]?) = _
  cases ho : s.op[j]? with
  | none =>
    rw [List.getElem?_zipIdx, ho]; rfl
  | some i =>
    have hl := hb.opens i (List.mem_of_getElem? ho)
    rw [zip_at ho]
    simp only [Option.map_some, Option.some.injEq]
    rw [hi.life i hl]
    have : ((Tr.of s room st).hole != (j : Int) + 1) = true := by
      simp only [Tr.of, bne_iff_ne, ne_eq]
      omega
    rw [this, Bool.and_true]
theorem at_some {m : Nat} {s : St} (hi : Inv s) (hb : Bd m s) {n : Int} (h : ¬ s.at n < 0) : ∃ j i : Nat, s.at n = j ∧ s.op[j]? = some i ∧ n = (i : Int) + 1 ∧ i < s.lf.length ∧ j < s.op.length ∧ s.op.getD (s.at n).toNat 0 = i := by
  obtain ⟨j, hj⟩ : ∃ j : Nat, s.at n = j := ⟨(s.at n).toNat, by omega⟩
  have h2 := place_of hi hb 0 0 n
  rw [hj] at h2
  obtain ⟨i, ho, hn, -⟩ := place_at h2
  have ho' : s.op[j]? = some i := ho
  exact ⟨j, i, hj, ho', hn, hb.opens i (List.mem_of_getElem? ho'), (List.getElem?_eq_some_iff.1 ho').1, by rw [hj, Int.toNat_natCast, List.getD_eq_getElem?_getD, ho']; rfl⟩
theorem calm {s : St} {room st : Int} {e : Ev} (h0 : st ≤ e.step) (h1 : e.step ≤ 20000) : ((Tr.of s room st).early e || (Tr.of s room st).late e) = false := by
  unfold Tr.early Tr.late
  have d1 : decide (e.step < (Tr.of s room st).step) = false := decide_eq_false (by show ¬ e.step < st; omega)
  have d2 : decide (20000 < e.step) = false := by simpa using h1
  have d3 : decide (0 < (Tr.of s room st).left) = false := decide_eq_false (by show ¬ (0 : Int) < 0; omega)
  have d4 : decide (0 < (Tr.of s room st).hole) = false := decide_eq_false (by show ¬ (0 : Int) < 0; omega)
  rw [d1, d2, d3, d4]
  rfl

theorem fidx_mem_none (l : List Bool) (h : fidx l = -1) : ∀ x ∈ l, x = false := by
  induction l with
  | nil => intro x hx; cases hx
  | cons a r ih =>
    cases a with
    | true => simp [fidx] at h
    | false =>
      have hlo := fidx_lo r
      rw [fidx] at h
      have h2 : fidx r = -1 := by split at h <;> omega
      intro x hx
      rcases List.mem_cons.1 hx with rfl | hx
      · rfl
      · exact ih h2 x hx
theorem nodup_at {l : List Nat} (h : l.Nodup) {i j a : Nat} (hi : l[i]? = some a) (hj : l[j]? = some a) : i = j := by
  have h2 := List.pairwise_iff_getElem.1 h
  obtain ⟨li, ei⟩ := List.getElem?_eq_some_iff.1 hi
  obtain ⟨lj, ej⟩ := List.getElem?_eq_some_iff.1 hj
  rcases Nat.lt_trichotomy i j with hh | hh | hh
  · exact absurd (ei.trans ej.symm) (h2 i j li lj hh)
  · exact hh
  · exact absurd (ej.trans ei.symm) (h2 j i lj li hh)
/-- The events that next takes alone. -/
theorem next_one {m : Nat} {s : St} {e : Ev} {r : List Ev} {room st : Int} (hi : Inv s) (hb : Bd m s) (h0 : st ≤ e.step) (h1 : e.step ≤ 20000) (hf : s.lf.length = 0 → isOpen e = true ∧ e.words = 0)
    (hk : isReset e = false) (hk2 : isCollect e = false) : s.next (e :: r) = ((Tr.of s room st).add e).map (fun t => (t.st, 1)) ∧ ∀ t, (Tr.of s room st).add e = some t → t = Tr.of t.st room e.step := by
  unfold Tr.add St.next
  rw [if_neg (by rw [calm h0 h1]; simp)]
  simp only
  rw [place_of hi hb]
  rw [hk, hk2]
  simp only [Bool.false_eq_true, if_false]
  cases ho : isOpen e
  · simp only [Bool.false_eq_true, if_false]
    have hlf : 0 < s.lf.length := by
      rcases Nat.eq_zero_or_pos s.lf.length with hz | hz
      · have := (hf hz).1; rw [ho] at this; cases this
      · exact hz
    have hop := hi.some hlf
    cases hl : isLeft e
    · simp only [Bool.false_eq_true, if_false]
      cases hc : isClose e
      · simp only [Bool.false_eq_true, if_false]
        cases hs : isStore e
        · simp
        · simp only [if_true]
          unfold St.store
          by_cases hat : s.at e.life < 0
          · rw [if_pos hat, if_pos hat]; simp
          · obtain ⟨j, i, hj, hoi, hn, hil, hjl, hgd⟩ := at_some hi hb hat
            have hxx : s.lf[i]? = some (s.lf.getD i default) := getD_some hil
            rw [if_neg hat, if_neg hat]
            have e1 : (Tr.of s room st).st.op.getD (s.at e.life).toNat 0 = i := hgd
            have e2 : s.op[(s.at e.life).toNat]? = some i := by rw [hj, Int.toNat_natCast]; exact hoi
            rw [e1, e2]
            simp only
            rw [hxx]
            simp only
            have e3 : (Tr.of s room st).life i = s.lf.getD i default := rfl
            rw [e3]
            by_cases hw : 2 ≤ e.words ∧ e.words ≤ 32
            · rw [if_pos hw]
              cases hm : (s.lf.getD i default).may e.words
              · simp
              · simp only [hw.1, hw.2, decide_true, Bool.and_self, if_true, Option.map_some]
                exact ⟨rfl, fun t ht => by simp only [Option.some.injEq] at ht; subst ht; rfl⟩
            · rw [if_neg hw]
              have : (decide (2 ≤ e.words) && decide (e.words ≤ 32)) = false := by
                simp only [Bool.and_eq_false_iff, decide_eq_false_iff_not]; omega
              rw [this]
              simp
      · have hco := (close_only hc).2.1
        simp only [if_true, hco, Bool.false_eq_true, if_false]
        by_cases hat : s.at e.life < 0
        · rw [if_pos hat]
          have : canClose s e = false := by
            unfold canClose
            cases hx : ((s.lf.getD s.last default).life == e.life)
            · simp
            · exfalso
              have hlast : s.op[s.op.length - 1]? = some s.last := by
                unfold St.last; rw [List.getD_eq_getElem?_getD, List.getElem?_eq_getElem (by omega)]; rfl
              have h2 : (s.op.map fun i => (s.lf.getD i default).life == e.life)[s.op.length - 1]? = some true := by rw [List.getElem?_map, hlast]; simp only [Option.map_some, hx]
              have h3 := fidx_lo (s.op.map fun i => (s.lf.getD i default).life == e.life)
              have h4 : fidx (s.op.map fun i => (s.lf.getD i default).life == e.life) = -1 := by unfold St.at at hat; omega
              have := fidx_mem_none _ h4 true (List.mem_of_getElem? h2)
              cases this
          rw [this]; simp
        · obtain ⟨j, i, hj, hoi, hn, hil, hjl, hgd⟩ := at_some hi hb hat
          rw [if_neg hat]
          have e1 : (Tr.of s room st).st.op.getD (s.at e.life).toNat 0 = i := hgd
          rw [e1, hj]
          unfold canClose
          have e5 : (Tr.of s room st).st.op.length = s.op.length := rfl
          have e6 : (Tr.of s room st).life i = s.lf.getD i default := rfl
          rw [e5, e6]
          have hlast : s.op[s.op.length - 1]? = some s.last := by
            unfold St.last; rw [List.getD_eq_getElem?_getD, List.getElem?_eq_getElem (by omega)]; rfl
          have hll := hi.life s.last (hb.opens _ (List.mem_of_getElem? hlast))
          by_cases hjj : j = s.op.length - 1
          · subst hjj
            have : i = s.last := by rw [hoi] at hlast; simpa using hlast
            subst this
            have d1 : decide (((s.op.length - 1 : Nat) : Int) = (s.op.length : Int) - 1) = true := by simp; omega
            rw [d1]
            have d2 : ((s.lf.getD s.last default).life == e.life) = true := by rw [hll, hn]; simp
            rw [d2]
            cases hw : (e.words == 0) <;> by_cases h1l : 1 < s.op.length
            · simp [h1l]
            · simp [h1l]
            · simp only [h1l, decide_true, Bool.and_self, if_true, Option.map_some]
              exact ⟨rfl, fun t ht => by simp only [Option.some.injEq] at ht; subst ht; rfl⟩
            · simp [h1l]
          · have d1 : decide ((j : Int) = (s.op.length : Int) - 1) = false := by simp; omega
            rw [d1]
            have d2 : ((s.lf.getD s.last default).life == e.life) = false := by
              rw [hll, hn]
              simp only [beq_eq_false_iff_ne, ne_eq]
              intro hh
              have hsl : s.last = i := by omega
              rw [← hsl] at hoi
              exact hjj (nodup_at hi.nodup hoi hlast)
            rw [d2]
            simp
    · have hlo := left_only hl
      simp only [if_true, hlo, Bool.false_eq_true, if_false]
      have : decide (0 < (Tr.of s room st).left) = false := by simp [Tr.of]
      rw [this]
      simp
  · simp only [if_true]
    have hmo : (Tr.of s room st).mayOpen e = canBegin s e := by
      unfold Tr.mayOpen canBegin
      rw [ho]
      have d1 : (decide (0 < (Tr.of s room st).hole) && e.words != (Tr.of s room st).room) = false := by simp [Tr.of]
      rw [d1]
      have d2 : ((Tr.of s room st).st.lf.length == 0 && e.words != 0) = false := by
        rcases Nat.eq_zero_or_pos s.lf.length with hz | hz
        · rw [(hf hz).2]; simp
        · have : ((Tr.of s room st).st.lf.length == 0) = false := by
            show (s.lf.length == 0) = false
            simp only [beq_eq_false_iff_ne, ne_eq]; omega
          rw [this]; rfl
      rw [d2]
      simp [Tr.of]
    rw [hmo]
    cases hcb : canBegin s e
    · simp
    · simp only [if_true, Option.map_some]
      have : ({ Tr.of s room st with step := e.step } : Tr).opened e = Tr.of { lf := s.lf ++ [newLf e], op := s.op ++ [s.lf.length] } room e.step := by
        unfold Tr.opened
        rw [if_neg (by simp [Tr.of])]
        rfl
      rw [this]
      exact ⟨rfl, fun t ht => by simp only [Option.some.injEq] at ht; subst ht; rfl⟩
end Go.Proofs.Ytnloffjjlhhanaa
