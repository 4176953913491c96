/- The plain law: the pages behind each step. -/
import Derived.Test.YtnloffjjlhhanaaRefMost
import Derived.Test.YtnloffjjlhhanaaStepsB
set_option linter.unusedVariables false
set_option linter.unusedSimpArgs false
namespace Go.Proofs.Ytnloffjjlhhanaa
open Go.RowKit
open Go.Proofs

theorem steps_ge : ∀ (l : List Ev) (p : Int), stepsFrom p l = true → ∀ x ∈ l, p ≤ x.step
  | [], _, _, x, hx => by cases hx
  | e :: l, p, h, x, hx => by
    simp only [stepsFrom, Bool.and_eq_true, decide_eq_true_eq] at h
    rcases List.mem_cons.1 hx with rfl | hx
    · exact h.1.1.1
    · have := steps_ge l e.step h.2 x hx; omega
/-- The step of the last event. -/
structure TrSteps (st : Int) (l : List Ev) (tr : List (St × Int)) : Prop where
  lo : ∀ y ∈ tr, st ≤ y.2
  srt : tr.Pairwise fun a b => a.2 ≤ b.2
  hi : ∀ e, l.getLast? = some e → ∀ y ∈ tr, y.2 ≤ e.step
  hit : ∀ e, l.getLast? = some e → ∃ y ∈ tr, y.2 = e.step
  nil : l = [] → tr = []
theorem run_steps : ∀ (fuel : Nat) (s : St) (st : Int) (m : Nat) (l : List Ev) (tr : List (St × Int)), Inv s → Bd m s → m + l.length ≤ 4000 → stepsFrom st l = true → runs fuel s l = some tr → TrSteps st l tr := by
  intro fuel
  induction fuel with
  | zero => intro s st m l tr hi hb hm hs hr; simp [runs] at hr
  | succ fuel ih =>
    intro s st m l tr hi hb hm hs hr
    cases l with
    | nil =>
      simp only [runs, Option.some.injEq] at hr
      subst hr
      exact ⟨fun y hy => (by cases hy), List.Pairwise.nil, fun e he => (by cases he), fun e he => (by cases he), fun _ => rfl⟩
    | cons e r =>
      simp only [runs] at hr
      split at hr
      · cases hr
      rename_i hf
      have hf' : s.lf.length = 0 → isOpen e = true ∧ e.words = 0 := fun hz => Classical.byContradiction fun hh => hf ⟨hz, hh⟩
      split at hr
      · cases hr
      rename_i s' n hn
      cases hr2 : runs fuel s' ((e :: r).drop n) with
      | none => rw [hr2] at hr; cases hr
      | some tr' =>
        rw [hr2] at hr
        simp only [Option.map_some, Option.some.injEq] at hr
        have hs2 := hs
        simp only [stepsFrom, Bool.and_eq_true, decide_eq_true_eq] at hs2
        obtain ⟨hb', hn1, hn2⟩ := next_bd hb hn
        obtain ⟨room', g1, g2, g3⟩ := group (room := 0) hi hb (by simp only [List.length_cons] at hm; omega) hs2.1.1.1 hs2.1.2 hf' hn
        have hi' := next_inv hi hb hn
        have htl : ((e :: r).take n).length = n := by simp only [List.length_take, List.length_cons]; omega
        have hdl : ((e :: r).drop n).length = r.length + 1 - n := by simp only [List.length_drop, List.length_cons]
        have hsplit : (e :: r).take n ++ (e :: r).drop n = e :: r := List.take_append_drop _ _
        have hst : stepsFrom e.step ((e :: r).drop n) = true := steps_same ((e :: r).take n) _ st e.step g2 (by intro h; rw [h] at htl; simp at htl; omega) (by rw [hsplit]; exact hs)
        have hstep : ((e :: r).getD (n - 1) default).step = e.step := by
          refine g2 _ ?_
          have : ((e :: r).take n)[n - 1]? = some ((e :: r).getD (n - 1) default) := by
            rw [List.getElem?_take, if_pos (by omega), List.getD_eq_getElem?_getD, List.getElem?_eq_getElem (by simp only [List.length_cons]; omega)]
            rfl
          exact List.mem_of_getElem? this
        rw [hstep] at hr
        subst hr
        have G := ih s' e.step (m + n) _ tr' hi' hb' (by rw [hdl]; simp only [List.length_cons] at hm; omega) hst hr2
        have hlast : ∀ z, (e :: r).getLast? = some z → ((e :: r).drop n = [] ∧ z.step = e.step) ∨ ((e :: r).drop n).getLast? = some z := fun z hz => by
          rw [← hsplit, List.getLast?_append] at hz
          cases hd : ((e :: r).drop n).getLast? with
          | none =>
            rw [hd] at hz
            exact .inl ⟨List.getLast?_eq_none_iff.1 hd, g2 z (List.mem_of_getLast? hz)⟩
          | some y =>
            rw [hd] at hz
            exact .inr hz
        refine ⟨?_, ?_, ?_, ?_, fun h => (by cases h)⟩
        · intro y hy
          rcases List.mem_cons.1 hy with rfl | hy
          · exact hs2.1.1.1
          · have := G.lo y hy; have := hs2.1.1.1; omega
        · exact List.Pairwise.cons (fun y hy => G.lo y hy) G.srt
        · intro z hz y hy
          rcases hlast z hz with ⟨h1, h2⟩ | h1
          · rw [G.nil h1] at hy
            simp at hy
            subst hy
            exact Int.le_of_eq h2.symm
          · rcases List.mem_cons.1 hy with rfl | hy
            · exact steps_ge _ _ hst z (List.mem_of_getLast? h1)
            · exact G.hi z h1 y hy
        · intro z hz
          rcases hlast z hz with ⟨h1, h2⟩ | h1
          · exact ⟨_, List.mem_cons_self, h2.symm⟩
          · obtain ⟨y, hy, h2⟩ := G.hit z h1
            exact ⟨y, List.mem_cons_of_mem _ hy, h2⟩
theorem play_steps {l : List Ev} {tr : List (St × Int)} (hl : l.length ≤ 2000) (h : playP l = some tr) : TrSteps 0 l tr := by
  unfold playP at h
  split at h
  · rename_i hs
    exact run_steps _ _ 0 0 l tr Inv.init Bd.init (by omega) hs h
  · cases h
theorem play_sorted {l : List Ev} {tr : List (St × Int)} (h : playP l = some tr) : stepsFrom 0 l = true := by
  unfold playP at h
  split at h
  · assumption
  · cases h

/-- The pages behind a step. -/
def pgAt (l : List Ev) (x : Int) : Int := match Tr.init.adds (upto l x) with | none => 0 | some t => t.pages
theorem lastSt_snoc : ∀ (tr : List (St × Int)) (s : St) (x : St × Int), lastSt s (tr ++ [x]) = x.1
  | [], _, _ => rfl
  | y :: tr, s, x => by simp only [List.cons_append, lastSt]; exact lastSt_snoc tr y.1 x
def ByOk (pre : List (St × Int)) (o : List Int) (n : Int) : Prop :=
  ∃ L : Nat, o.length = L ∧ (∀ y ∈ pre, y.2 ≤ (L : Int)) ∧ ((pre = [] ∧ L = 0) ∨ ∃ y ∈ pre, y.2 = (L : Int)) ∧ n = (lastSt St.init pre).pages ∧ ∀ j, j < L → o[j]? = some (lastSt St.init (pre.takeWhile fun y => decide (y.2 ≤ (j : Int)))).pages
theorem takeWhile_all {α : Type} {p : α → Bool} : ∀ {l : List α}, (l.takeWhile p).length = l.length → ∀ x ∈ l, p x = true
  | [], _, x, hx => by cases hx
  | a :: l, h, x, hx => by
    rw [List.takeWhile_cons] at h
    cases hp : p a
    · rw [hp] at h; simp at h
    · rw [hp] at h
      simp only [if_true, List.length_cons, Nat.add_right_cancel_iff] at h
      rcases List.mem_cons.1 hx with rfl | hx
      · exact hp
      · exact takeWhile_all h x hx
theorem takeWhile_yes {α : Type} {p : α → Bool} : ∀ {l : List α}, (∀ x ∈ l, p x = true) → l.takeWhile p = l
  | [], _ => rfl
  | a :: l, h => by
    rw [List.takeWhile_cons, h a List.mem_cons_self]
    simp only [if_true]
    rw [takeWhile_yes fun x hx => h x (List.mem_cons_of_mem _ hx)]
theorem ByOk.step {pre : List (St × Int)} {o : List Int} {n : Int} (h : ByOk pre o n) {x : St × Int} (hx0 : 0 ≤ x.2) (hx : ∀ y ∈ pre, y.2 ≤ x.2) : ByOk (pre ++ [x]) (byStep (o, n) x).1 (byStep (o, n) x).2 := by
  obtain ⟨L, h1, h2, h3, h4, h5⟩ := h
  have hLx : (L : Int) ≤ x.2 := by
    rcases h3 with ⟨-, h3⟩ | ⟨y, hy, h3⟩
    · omega
    · have := hx y hy; omega
  have hlen : (byStep (o, n) x).1.length = x.2.toNat := by simp only [byStep, List.length_append, List.length_replicate]; omega
  refine ⟨x.2.toNat, hlen, ?_, ?_, ?_, ?_⟩
  · intro y hy
    rcases List.mem_append.1 hy with hy | hy
    · have := hx y hy; omega
    · simp at hy; subst hy; omega
  · exact .inr ⟨x, by simp, by omega⟩
  · rw [lastSt_snoc]; rfl
  · intro j hj
    rw [List.takeWhile_append]
    by_cases hjL : j < L
    · have hno : ¬ (pre.takeWhile fun y => decide (y.2 ≤ (j : Int))).length = pre.length := fun hh => by
        have ha := takeWhile_all hh
        rcases h3 with ⟨-, h3⟩ | ⟨y, hy, h3⟩
        · omega
        · have := ha y hy
          simp only [decide_eq_true_eq] at this
          omega
      rw [if_neg hno]
      simp only [byStep]
      rw [List.getElem?_append_left (by omega)]
      exact h5 j hjL
    · have hyes : (pre.takeWhile fun y => decide (y.2 ≤ (j : Int))) = pre := takeWhile_yes fun y hy => by have := h2 y hy; simp only [decide_eq_true_eq]; omega
      rw [hyes, if_pos rfl]
      have hnx : decide (x.2 ≤ (j : Int)) = false := decide_eq_false (by omega)
      rw [List.takeWhile_cons, hnx]
      simp only [Bool.false_eq_true, if_false, List.append_nil, byStep]
      rw [List.getElem?_append_right (by omega), List.getElem?_replicate, if_pos (by omega), h4]
theorem by_fold : ∀ (tr pre : List (St × Int)) (p : List Int × Int), ByOk pre p.1 p.2 → (∀ y ∈ tr, 0 ≤ y.2) → (pre ++ tr).Pairwise (fun a b => a.2 ≤ b.2) → ByOk (pre ++ tr) (tr.foldl byStep p).1 (tr.foldl byStep p).2
  | [], pre, p, h, _, _ => by rw [List.append_nil]; exact h
  | x :: tr, pre, p, h, h0, hs => by
    have hx : ∀ y ∈ pre, y.2 ≤ x.2 := fun y hy => (List.pairwise_append.1 hs).2.2 y hy x List.mem_cons_self
    have h2 := h.step (h0 x List.mem_cons_self) hx
    have h3 := by_fold tr (pre ++ [x]) (byStep p x) h2 (fun y hy => h0 y (List.mem_cons_of_mem _ hy)) (by rw [List.append_assoc]; exact hs)
    rw [List.append_assoc] at h3
    exact h3
theorem by_ok {tr : List (St × Int)} (h0 : ∀ y ∈ tr, 0 ≤ y.2) (hs : tr.Pairwise fun a b => a.2 ≤ b.2) : ByOk tr (byTr tr).1 (byTr tr).2 := by
  have := by_fold tr [] ([], 0) ⟨0, rfl, fun y hy => (by cases hy), .inl ⟨rfl, rfl⟩, rfl, fun j hj => by omega⟩ h0 hs
  exact this
theorem pgAt_play {l : List Ev} {tr : List (St × Int)} (hl : l.length ≤ 2000) (h : playP l = some tr) {x : Int} (hx : 0 ≤ x) : pgAt l x = (lastSt St.init (tr.takeWhile fun y => decide (y.2 ≤ x))).pages := by
  obtain ⟨r, s, h1⟩ := (play_good hl h).upto x hx
  have h1' : Tr.init.adds (upto l x) = _ := h1
  unfold pgAt
  rw [h1']
  exact pages_calm rfl
/-- What the program has gathered: the pages behind each step, up to the last one. -/
theorem outP_at {l : List Ev} {tr : List (St × Int)} {e : Ev} (hl : l.length ≤ 2000) (h : playP l = some tr) (he : l.getLast? = some e) :
    0 ≤ e.step ∧ e.step ≤ 20000 ∧ (outP l tr).length = e.step.toNat + 1 ∧ ∀ j, j ≤ e.step.toNat → (outP l tr)[j]? = some (pgAt l j) := by
  have hne : l.length ≠ 0 := fun h0 => by
    have := List.eq_nil_of_length_eq_zero h0
    rw [this] at he; cases he
  have T := play_steps hl h
  obtain ⟨L, h1, h2, h3, h4, h5⟩ := by_ok T.lo T.srt
  obtain ⟨y, hy, hye⟩ := T.hit e he
  have hL : (L : Int) = e.step := by
    rcases h3 with ⟨h3, -⟩ | ⟨z, hz, h3⟩
    · rw [h3] at hy; cases hy
    · have := h2 y hy
      have := T.hi e he z hz
      omega
  have hs20 : e.step ≤ 20000 := by
    have hss := play_sorted h
    have : ∀ (l : List Ev) (p : Int), stepsFrom p l = true → ∀ x ∈ l, x.step ≤ 20000 := by
      intro l
      induction l with
      | nil => intro p _ x hx; cases hx
      | cons a l ih =>
        intro p hp x hx
        simp only [stepsFrom, Bool.and_eq_true, decide_eq_true_eq] at hp
        rcases List.mem_cons.1 hx with rfl | hx
        · exact hp.1.2
        · exact ih _ hp.2 x hx
    exact this l 0 hss e (List.mem_of_getLast? he)
  have hout : outP l tr = (byTr tr).1 ++ [(byTr tr).2] := by unfold outP; rw [if_neg hne]
  have hLn : L = e.step.toNat := by omega
  refine ⟨by omega, hs20, by rw [hout, List.length_append, h1, hLn]; rfl, fun j hj => ?_⟩
  rw [hout, pgAt_play hl h (by omega)]
  by_cases hjL : j < L
  · rw [List.getElem?_append_left (by omega)]; exact h5 j hjL
  · have hjL2 : j = L := by omega
    subst hjL2
    rw [List.getElem?_append_right (by omega), h1, Nat.sub_self, takeWhile_yes fun y hy => decide_eq_true (h2 y hy), h4]
    rfl
/-- Behind the last step nothing turns. -/
theorem pgAt_end {l : List Ev} {e : Ev} {x : Int} (hs : stepsFrom 0 l = true) (he : l.getLast? = some e) (h0 : 0 ≤ e.step) (hx : e.step ≤ x) : pgAt l x = pgAt l e.step := by
  have hall : ∀ (l : List Ev) (p : Int), stepsFrom p l = true → ∀ e, l.getLast? = some e → ∀ z ∈ l, z.step ≤ e.step := by
    intro l
    induction l with
    | nil => intro p _ e he; cases he
    | cons a l ih =>
      intro p hp e he z hz
      simp only [stepsFrom, Bool.and_eq_true, decide_eq_true_eq] at hp
      cases l with
      | nil =>
        simp at he hz
        subst he hz
        exact Int.le_refl _
      | cons b l =>
        have he' : (b :: l).getLast? = some e := by rw [List.getLast?_cons_cons] at he; exact he
        rcases List.mem_cons.1 hz with rfl | hz
        · have := ih _ hp.2 e he' b List.mem_cons_self
          have h3 := steps_ge (b :: l) _ hp.2 b List.mem_cons_self
          omega
        · exact ih _ hp.2 e he' z hz
  have h1 : ∀ y, e.step ≤ y → upto l y = l := fun y hy => upto_same l y fun z hz => by
    have := hall l 0 hs e he z hz
    unfold passes
    simp only [Bool.or_eq_true, decide_eq_true_eq]
    omega
  unfold pgAt
  rw [h1 x hx, h1 e.step (Int.le_refl _)]
end Go.Proofs.Ytnloffjjlhhanaa
