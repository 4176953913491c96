/- The plain law: play and adds answer alike. -/
import Derived.Test.YtnloffjjlhhanaaPureC
set_option linter.unusedVariables false
set_option linter.unusedSimpArgs false
namespace Go.Proofs.Ytnloffjjlhhanaa
open Go.RowKit
open Go.Proofs

theorem group {m : Nat} {s s' : St} {e : Ev} {r : List Ev} {n : Nat} {room st : Int} (hi : Inv s) (hb : Bd m s) (hm : m ≤ 4000) (h0 : st ≤ e.step) (h1 : e.step ≤ 20000) (hf : s.lf.length = 0 → isOpen e = true ∧ e.words = 0)
    (hn : s.next (e :: r) = some (s', n)) :
    ∃ room', (Tr.of s room st).adds ((e :: r).take n) = some (Tr.of s' room' e.step) ∧ (∀ x ∈ (e :: r).take n, x.step = e.step) ∧ ∀ k, k < n → ∃ tk, (Tr.of s room st).adds ((e :: r).take k) = some tk ∧ tk.pages ≤ s.pages := by
  have hlf : isOpen e = false → 0 < s.lf.length := fun ho => by
    rcases Nat.eq_zero_or_pos s.lf.length with hz | hz
    · have := (hf hz).1; rw [ho] at this; cases this
    · exact hz
  cases hr : isReset e
  · cases hc : isCollect e
    · have h2 := next_one (r := r) (room := room) hi hb h0 h1 hf hr hc
      rw [hn] at h2
      cases ha : (Tr.of s room st).add e with
      | none => rw [ha] at h2; cases h2.1
      | some t =>
        rw [ha] at h2
        have h3 := h2.1
        simp only [Option.map_some, Option.some.injEq, Prod.mk.injEq] at h3
        obtain ⟨rfl, rfl⟩ := h3
        have h4 := h2.2 t rfl
        refine ⟨room, ?_, fun x hx => by simp at hx; rw [hx], fun k hk => ?_⟩
        · rw [List.take_succ_cons, List.take_zero, adds_cons _ ha, ← h4]; rfl
        · obtain rfl : k = 0 := by omega
          exact ⟨_, rfl, Int.le_of_eq (pages_calm rfl)⟩
    · obtain ⟨k1, k2, k3, k4, k5⟩ := collect_only hc
      have hop := hi.some (hlf k1)
      have ha := add_collect_pure (s := s) (room := room) h0 h1 hc
      unfold St.next at hn
      simp only [k1, k2, k3, k4, hc, Bool.false_eq_true, if_false, if_true] at hn
      split at hn
      · rename_i hcc
        simp only [Option.some.injEq, Prod.mk.injEq] at hn
        obtain ⟨rfl, rfl⟩ := hn
        have hc' : (((e.life = 0) ∧ (e.words = 0)) ∧ s.inf.length ≤ r.length) ∧ okLefts s e.step r s.inf = true := by simpa [canCollect] using hcc
        rw [if_pos ⟨hc'.1.1.1, hc'.1.1.2, hop⟩] at ha
        obtain ⟨g1, g2, g3⟩ := lefts_ok s.inf r s.lf s.op [] room e.step rfl (hi.nodup.sublist List.filter_sublist) (fun i hii => hi.life i (hb.opens i (List.mem_filter.1 hii).1)) h1 hc'.2
        refine ⟨room, ?_, ?_, fun k hk => ?_⟩
        · rw [List.take_succ_cons, adds_cons _ ha]
          exact g1
        · intro x hx
          rw [List.take_succ_cons] at hx
          rcases List.mem_cons.1 hx with rfl | hx
          · rfl
          · exact g2 x hx
        · cases k with
          | zero => exact ⟨_, rfl, Int.le_of_eq (pages_calm rfl)⟩
          | succ k =>
            obtain ⟨tk, h5, h6⟩ := g3 k (by omega)
            exact ⟨tk, by rw [List.take_succ_cons, adds_cons _ ha]; exact h5, h6⟩
      · cases hn
  · obtain ⟨k1, k2, k3, k4, k5⟩ := reset_only hr
    have ha := add_reset_pure (room := room) hi hb h0 h1 hr
    unfold St.next at hn
    simp only [k1, k2, k3, hr, Bool.false_eq_true, if_false, if_true] at hn
    cases hs : s.reset e r with
    | none => rw [hs] at hn; cases hn
    | some t =>
      rw [hs] at hn
      simp only [Option.map_some, Option.some.injEq, Prod.mk.injEq] at hn
      obtain ⟨rfl, rfl⟩ := hn
      unfold St.reset at hs
      split at hs
      · cases hs
      rename_i hat
      obtain ⟨j, i, hj, hoi, hnn, hil, hjl, hgd⟩ := at_some hi hb hat
      rw [if_neg hat] at ha
      split at hs
      · rename_i hw
        rw [if_pos hw] at ha
        split at hs
        · cases hs
        split at hs
        · rename_i e2 r' hc
          simp only [Option.some.injEq] at hs
          subst hs
          rw [hgd] at ha hc ⊢
          rw [hj] at ha ⊢
          have hlen : (s.lf.set i { s.lf.getD i default with ended := e.step }).length = s.lf.length := by simp
          have hb2 := add_reset2_pure (lf := s.lf.set i { s.lf.getD i default with ended := e.step }) (op := s.op) (j := j) (room := (s.lf.getD i default).words) (st := e.step) (e := e2) (by rw [hlen]; omega) h1
          have hcb : canBegin ⟨s.lf.set i { s.lf.getD i default with ended := e.step }, s.op⟩ e2 = canBegin s e2 := by unfold canBegin; rw [hlen]
          rw [if_pos ⟨hc.1, hc.2.1, hcb.trans hc.2.2⟩] at hb2
          have hb3 : Bd m ⟨s.lf.set i { s.lf.getD i default with ended := e.step }, s.op⟩ := hb.set (Nat.le_refl _) (by have := hb.lives _ (getD_mem hil); exact this)
          have hpg : St.pages ⟨s.lf.set i { s.lf.getD i default with ended := e.step }, s.op⟩ ≤ s.pages := pages_set_le (lf := s.lf) (op := s.op) (i := i) (y := { s.lf.getD i default with ended := e.step }) (Int.le_of_eq rfl)
          refine ⟨(s.lf.getD i default).words, ?_, ?_, fun k hk => ?_⟩
          · rw [List.take_succ_cons, List.take_succ_cons, List.take_zero, adds_cons _ ha, adds_cons _ hb2]
            simp only [Tr.adds, Int.toNat_natCast, hlen, hc.2.1]
            rw [List.set_append_left _ _ hil]
          · intro x hx
            simp at hx
            rcases hx with rfl | rfl
            · rfl
            · exact hc.2.1
          · cases k with
            | zero => exact ⟨_, rfl, Int.le_of_eq (pages_calm rfl)⟩
            | succ k =>
              obtain rfl : k = 0 := by omega
              refine ⟨⟨⟨s.lf.set i { s.lf.getD i default with ended := e.step }, s.op⟩, (j : Int) + 1, (s.lf.getD i default).words, 0, e.step⟩, ?_, Int.le_trans (pages_hole (m := m) hb3 hm) hpg⟩
              rw [List.take_succ_cons, adds_cons _ ha]
              rfl
        · cases hs
      · cases hs

theorem first_open {m : Nat} {s : St} {e : Ev} {room st : Int} {u : Tr} (hi : Inv s) (hb : Bd m s) (h : (Tr.of s room st).add e = some u) (hz : s.lf.length = 0) : isOpen e = true ∧ e.words = 0 := by
  have hop : s.op = [] := List.eq_nil_iff_forall_not_mem.2 fun i hii => by have := hb.opens i hii; omega
  have hst : st ≤ e.step ∧ e.step ≤ 20000 ∧ u.step = e.step := add_step h
  unfold Tr.add at h
  rw [if_neg (by rw [calm hst.1 hst.2.1]; simp)] at h
  cases ho : isOpen e
  · exfalso
    rw [ho] at h
    simp only [Bool.false_eq_true, if_false] at h
    split at h
    · split at h
      · rename_i hc
        simp only [Bool.and_eq_true, decide_eq_true_eq] at hc
        have : (Tr.of s room st).st.op.length = s.op.length := rfl
        rw [hop] at this
        have h2 := hc.2
        rw [this] at h2
        simp at h2
      · cases h
    · split at h
      · split at h
        · rename_i hc
          simp only [Bool.and_eq_true, decide_eq_true_eq] at hc
          have : (0 : Int) < 0 := hc.1.1.1
          omega
        · cases h
      · rw [place_of hi hb, if_pos (by unfold St.at; rw [hop]; simp [fidx])] at h
        cases h
  · refine ⟨rfl, ?_⟩
    rw [ho] at h
    simp only [if_true] at h
    split at h
    · rename_i hmo
      unfold Tr.mayOpen at hmo
      have : ((Tr.of s room st).st.lf.length == 0) = true := by show (s.lf.length == 0) = true; rw [hz]; rfl
      rw [this] at hmo
      simp only [Bool.true_and, Bool.and_eq_true, Bool.not_eq_true', bne_eq_false_iff_eq] at hmo
      exact hmo.1.2
    · cases h

theorem key {m : Nat} {s : St} {e : Ev} {r : List Ev} {room st : Int} {t' : Tr} (hi : Inv s) (hb : Bd m s) (h : (Tr.of s room st).adds (e :: r) = some t') (hh : t'.hole = 0) (hl : t'.left = 0) :
    (s.lf.length = 0 → isOpen e = true ∧ e.words = 0) ∧ st ≤ e.step ∧ e.step ≤ 20000 ∧ ∃ s' n, s.next (e :: r) = some (s', n) := by
  obtain ⟨u, h1, h2⟩ := adds_cons_inv h
  have hst : st ≤ e.step ∧ e.step ≤ 20000 ∧ u.step = e.step := add_step h1
  have hf : s.lf.length = 0 → isOpen e = true ∧ e.words = 0 := first_open hi hb h1
  refine ⟨hf, hst.1, hst.2.1, ?_⟩
  have hlf : isOpen e = false → 0 < s.lf.length := fun ho => by
    rcases Nat.eq_zero_or_pos s.lf.length with hz | hz
    · have := (hf hz).1; rw [ho] at this; cases this
    · exact hz
  cases hr : isReset e
  · cases hc : isCollect e
    · have h3 := (next_one (r := r) (room := room) hi hb hst.1 hst.2.1 hf hr hc).1
      rw [h1] at h3
      exact ⟨_, _, h3⟩
    · obtain ⟨k1, k2, k3, k4, k5⟩ := collect_only hc
      rw [add_collect_pure hst.1 hst.2.1 hc] at h1
      split at h1
      · rename_i hcc
        simp only [Option.some.injEq] at h1
        subst h1
        obtain ⟨g1, g2⟩ := lefts_conv s.inf r s.lf s.op [] room e.step t' rfl (hi.nodup.sublist List.filter_sublist) (fun i hii => hi.life i (hb.opens i (List.mem_filter.1 hii).1)) hst.2.1 h2 hl
        have g3 : canCollect s e r = true := by
          unfold canCollect
          simp only [Bool.and_eq_true, beq_iff_eq, decide_eq_true_eq]
          exact ⟨⟨⟨hcc.1, hcc.2.1⟩, g2⟩, g1⟩
        refine ⟨{ s with lf := setFins s.lf r s.inf }, s.inf.length + 1, ?_⟩
        unfold St.next
        simp only [k1, k2, k3, k4, hc, g3, Bool.false_eq_true, if_false, if_true]
      · cases h1
  · obtain ⟨k1, k2, k3, k4, k5⟩ := reset_only hr
    rw [add_reset_pure hi hb hst.1 hst.2.1 hr] at h1
    split at h1
    · cases h1
    rename_i hat
    obtain ⟨j, i, hj, hoi, hnn, hil, hjl, hgd⟩ := at_some hi hb hat
    split at h1
    · rename_i hw
      simp only [Option.some.injEq] at h1
      subst h1
      cases r with
      | nil =>
        simp only [Tr.adds, Option.some.injEq] at h2
        subst h2
        simp only at hh
        omega
      | cons e2 r =>
        obtain ⟨u2, h3, h4⟩ := adds_cons_inv h2
        rw [hj, Int.toNat_natCast] at h3
        have hlen : (s.lf.set (s.op.getD j 0) { s.lf.getD (s.op.getD j 0) default with ended := e.step }).length = s.lf.length := by simp
        rw [add_reset2_pure (by rw [hlen]; omega) hst.2.1] at h3
        split at h3
        · rename_i hc
          have hcb : canBegin ⟨s.lf.set (s.op.getD j 0) { s.lf.getD (s.op.getD j 0) default with ended := e.step }, s.op⟩ e2 = canBegin s e2 := by unfold canBegin; rw [hlen]
          rw [hcb] at hc
          unfold St.next
          simp only [k1, k2, k3, hr, Bool.false_eq_true, if_false, if_true]
          unfold St.reset
          rw [if_neg hat, if_pos hw]
          simp only
          rw [hj, Int.toNat_natCast, if_pos hc]
          exact ⟨_, _, rfl⟩
        · cases h3
    · cases h1
end Go.Proofs.Ytnloffjjlhhanaa
