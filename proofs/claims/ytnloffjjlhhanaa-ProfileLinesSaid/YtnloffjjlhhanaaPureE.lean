/- The plain law: play and adds, over all events. -/
import Derived.Test.YtnloffjjlhhanaaPureD
set_option linter.unusedVariables false
set_option linter.unusedSimpArgs false
namespace Go.Proofs.Ytnloffjjlhhanaa
open Go.RowKit
open Go.Proofs

def lastSt : St → List (St × Int) → St
  | s, [] => s
  | _, x :: r => lastSt x.1 r
theorem lastSt_final : ∀ (tr : List (St × Int)), lastSt St.init tr = finalOf tr
  | [] => rfl
  | [x] => rfl
  | x :: y :: r => by
    have := lastSt_final (y :: r)
    simp only [lastSt, finalOf] at this ⊢
    exact this
theorem steps_same : ∀ (a b : List Ev) (p q : Int), (∀ x ∈ a, x.step = q) → a ≠ [] → stepsFrom p (a ++ b) = true → stepsFrom q b = true
  | [], _, _, _, _, h, _ => absurd rfl h
  | [x], b, p, q, hq, _, h => by
    simp only [List.cons_append, List.nil_append, stepsFrom, Bool.and_eq_true] at h
    rw [← hq x (by simp)]
    exact h.2
  | x :: y :: a, b, p, q, hq, _, h => by
    simp only [List.cons_append, stepsFrom, Bool.and_eq_true] at h
    exact steps_same (y :: a) b x.step q (fun z hz => hq z (List.mem_cons_of_mem _ hz)) (by simp) (by simp only [List.cons_append, stepsFrom, Bool.and_eq_true]; exact h.2)
theorem upto_same : ∀ (a : List Ev) (s : Int), (∀ x ∈ a, passes s x = true) → upto a s = a
  | [], _, _ => rfl
  | x :: a, s, h => by
    unfold upto
    rw [List.takeWhile_cons, h x List.mem_cons_self]
    simp only [if_true]
    have := upto_same a s fun z hz => h z (List.mem_cons_of_mem _ hz)
    unfold upto at this
    rw [this]
/-- What is known of a run. -/
structure Good (s : St) (room st : Int) (l : List Ev) (tr : List (St × Int)) : Prop where
  fin : ∃ room' st', (Tr.of s room st).adds l = some (Tr.of (lastSt s tr) room' st')
  pg : ∀ k, k ≤ l.length → ∃ tk, (Tr.of s room st).adds (l.take k) = some tk ∧ (tk.pages ≤ s.pages ∨ ∃ x ∈ tr, tk.pages ≤ x.1.pages)
  hit : ∀ x ∈ tr, ∃ k tk, k ≤ l.length ∧ 0 < k ∧ (Tr.of s room st).adds (l.take k) = some tk ∧ tk.pages = x.1.pages
  upto : ∀ x : Int, 0 ≤ x → ∃ room' st', (Tr.of s room st).adds (upto l x) = some (Tr.of (lastSt s (tr.takeWhile fun y => decide (y.2 ≤ x))) room' st')
theorem good_run : ∀ (fuel : Nat) (s : St) (room st : Int) (m : Nat) (l : List Ev) (tr : List (St × Int)), Inv s → Bd m s → m + l.length ≤ 4000 → stepsFrom st l = true → runs fuel s l = some tr → Good s room st l tr := by
  intro fuel
  induction fuel with
  | zero => intro s room st m l tr hi hb hm hs hr; simp [runs] at hr
  | succ fuel ih =>
    intro s room st m l tr hi hb hm hs hr
    cases l with
    | nil =>
      simp only [runs, Option.some.injEq] at hr
      subst hr
      exact ⟨⟨room, st, rfl⟩, fun k hk => ⟨_, by rw [List.take_nil]; rfl, .inl (Int.le_of_eq (pages_calm rfl))⟩, fun x hx => (by cases hx), fun x _ => ⟨room, st, rfl⟩⟩
    | cons e r =>
      simp only [runs] at hr
      split at hr
      · cases hr
      rename_i hf
      have hf' : s.lf.length = 0 → isOpen e = true ∧ e.words = 0 := fun hz => Classical.byContradiction fun hh => hf ⟨hz, hh⟩
      split at hr
      · cases hr
      rename_i s' n hn
      cases hr2 : runs fuel s' ((e :: r).drop n) with
      | none => rw [hr2] at hr; cases hr
      | some tr' =>
        rw [hr2] at hr
        simp only [Option.map_some, Option.some.injEq] at hr
        have hs2 := hs
        simp only [stepsFrom, Bool.and_eq_true, decide_eq_true_eq] at hs2
        obtain ⟨hb', hn1, hn2⟩ := next_bd hb hn
        obtain ⟨room', g1, g2, g3⟩ := group (room := room) hi hb (by simp only [List.length_cons] at hm; omega) hs2.1.1.1 hs2.1.2 hf' hn
        have hi' := next_inv hi hb hn
        have htl : ((e :: r).take n).length = n := by simp only [List.length_take, List.length_cons]; omega
        have hdl : ((e :: r).drop n).length = r.length + 1 - n := by simp only [List.length_drop, List.length_cons]
        have hsplit : (e :: r).take n ++ (e :: r).drop n = e :: r := List.take_append_drop _ _
        have hst : stepsFrom e.step ((e :: r).drop n) = true := steps_same ((e :: r).take n) _ st e.step g2 (by intro h; rw [h] at htl; simp at htl; omega) (by rw [hsplit]; exact hs)
        have hstep : ((e :: r).getD (n - 1) default).step = e.step := by
          refine g2 _ ?_
          have : ((e :: r).take n)[n - 1]? = some ((e :: r).getD (n - 1) default) := by
            rw [List.getElem?_take, if_pos (by omega), List.getD_eq_getElem?_getD, List.getElem?_eq_getElem (by simp only [List.length_cons]; omega)]
            rfl
          exact List.mem_of_getElem? this
        rw [hstep] at hr
        subst hr
        have G := ih s' room' e.step (m + n) _ tr' hi' hb' (by rw [hdl]; simp only [List.length_cons] at hm; omega) hst hr2
        have hadds : ∀ b, (Tr.of s room st).adds ((e :: r).take n ++ b) = (Tr.of s' room' e.step).adds b := fun b => by rw [adds_append, g1]; rfl
        refine ⟨?_, ?_, ?_, ?_⟩
        · obtain ⟨r2, s2, h⟩ := G.fin
          exact ⟨r2, s2, by rw [← hsplit, hadds]; exact h⟩
        · intro k hk
          by_cases hkn : k < n
          · obtain ⟨tk, h1, h2⟩ := g3 k hkn
            exact ⟨tk, h1, .inl h2⟩
          · obtain ⟨tk, h1, h2⟩ := G.pg (k - n) (by rw [hdl]; simp only [List.length_cons] at hk; omega)
            refine ⟨tk, ?_, ?_⟩
            · have : (e :: r).take k = (e :: r).take n ++ ((e :: r).drop n).take (k - n) := by
                rw [← List.take_add]; congr 1; omega
              rw [this, hadds]; exact h1
            · rcases h2 with h2 | ⟨x, hx, h2⟩
              · exact .inr ⟨_, List.mem_cons_self, h2⟩
              · exact .inr ⟨x, List.mem_cons_of_mem _ hx, h2⟩
        · intro x hx
          rcases List.mem_cons.1 hx with rfl | hx
          · exact ⟨n, _, by simp only [List.length_cons]; omega, by omega, g1, pages_calm rfl⟩
          · obtain ⟨k, tk, h0, h1, h2, h3⟩ := G.hit x hx
            refine ⟨n + k, tk, by rw [hdl] at h0; simp only [List.length_cons]; omega, by omega, ?_, h3⟩
            rw [List.take_add, hadds]; exact h2
        · intro x hx
          by_cases hp : e.step ≤ x
          · have h1 : upto ((e :: r).take n) x = (e :: r).take n := upto_same _ _ fun z hz => by unfold passes; rw [g2 z hz]; simp [hp]
            obtain ⟨r2, s2, h⟩ := G.upto x hx
            refine ⟨r2, s2, ?_⟩
            have h2 := upto_all ((e :: r).drop n) h1
            rw [hsplit] at h2
            rw [h2, hadds, h, List.takeWhile_cons]
            simp only [hp, decide_true, if_true, lastSt]
          · have h1 : Go.Proofs.Ytnloffjjlhhanaa.upto (e :: r) x = [] := by
              unfold Go.Proofs.Ytnloffjjlhhanaa.upto
              rw [List.takeWhile_cons, show passes x e = false by unfold passes; simp; omega]
              rfl
            refine ⟨room, st, ?_⟩
            rw [h1, List.takeWhile_cons]
            simp only [hp, decide_false, Bool.false_eq_true, if_false, lastSt]
            rfl
theorem conv_run : ∀ (fuel : Nat) (s : St) (room st : Int) (m : Nat) (l : List Ev) (t' : Tr), l.length < fuel → Inv s → Bd m s → m + l.length ≤ 4000 → (Tr.of s room st).adds l = some t' → t'.hole = 0 → t'.left = 0 → ∃ tr, runs fuel s l = some tr := by
  intro fuel
  induction fuel with
  | zero => intro s room st m l t' h; omega
  | succ fuel ih =>
    intro s room st m l t' hf hi hb hm ha hh hl
    cases l with
    | nil => exact ⟨[], rfl⟩
    | cons e r =>
      obtain ⟨k1, k2, k3, s', n, hn⟩ := key hi hb ha hh hl
      obtain ⟨hb', hn1, hn2⟩ := next_bd hb hn
      simp only [List.length_cons] at hf hm
      obtain ⟨room', g1, g2, g3⟩ := group (room := room) hi hb (by omega) k2 k3 k1 hn
      have hi' := next_inv hi hb hn
      have hdl : ((e :: r).drop n).length = r.length + 1 - n := by simp only [List.length_drop, List.length_cons]
      have ha2 : (Tr.of s' room' e.step).adds ((e :: r).drop n) = some t' := by
        rw [← List.take_append_drop n (e :: r), adds_append, g1] at ha
        exact ha
      obtain ⟨tr, ht⟩ := ih s' room' e.step (m + n) _ t' (by rw [hdl]; omega) hi' hb' (by rw [hdl]; omega) ha2 hh hl
      refine ⟨(s', ((e :: r).getD (n - 1) default).step) :: tr, ?_⟩
      simp only [runs]
      rw [if_neg (fun h => h.2 (k1 h.1)), hn]
      simp only
      rw [ht]
      rfl
theorem play_good {l : List Ev} {tr : List (St × Int)} (hl : l.length ≤ 2000) (h : playP l = some tr) : Good St.init 0 0 l tr := by
  unfold playP at h
  split at h
  · rename_i hs
    exact good_run _ _ 0 0 0 l tr Inv.init Bd.init (by omega) hs h
  · cases h
theorem play_conv {l : List Ev} {t' : Tr} (hl : l.length ≤ 2000) (h : Tr.init.adds l = some t') (hh : t'.hole = 0) (hl' : t'.left = 0) : ∃ tr, playP l = some tr := by
  have h' : (Tr.of St.init 0 0).adds l = some t' := h
  obtain ⟨tr, ht⟩ := conv_run (l.length + 1) St.init 0 0 0 l t' (by omega) Inv.init Bd.init (by omega) h' hh hl'
  refine ⟨tr, ?_⟩
  unfold playP
  have hs := adds_steps l (Tr.of St.init 0 0) t' (Int.le_refl _) h'
  have hs' : stepsFrom 0 l = true := hs
  rw [if_pos hs']
  exact ht
/-- Which events are right, for the reference. -/
def rightR (l : List Ev) : Bool := match Tr.init.adds l with
  | none => false
  | some t => t.hole == 0 && t.left == 0
theorem right_same {l : List Ev} (hl : l.length ≤ 2000) : rightR l = (playP l).isSome := by
  unfold rightR
  cases hp : playP l with
  | some tr =>
    obtain ⟨r, s, h⟩ := (play_good hl hp).fin
    have h' : Tr.init.adds l = _ := h
    rw [h']; rfl
  | none =>
    cases ha : Tr.init.adds l with
    | none => rfl
    | some t =>
      simp only [Option.isSome_none]
      cases hb : (t.hole == 0 && t.left == 0)
      · rfl
      · simp only [Bool.and_eq_true, beq_iff_eq] at hb
        obtain ⟨tr, ht⟩ := play_conv hl ha hb.1 hb.2
        rw [hp] at ht; cases ht
end Go.Proofs.Ytnloffjjlhhanaa
