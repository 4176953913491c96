/- The pages behind each step, the area and the graph, of the program. -/
import Derived.Test.YtnloffjjlhhanaaDoorStepsB
set_option linter.unusedVariables false
set_option linter.unusedSimpArgs false
namespace Go.Proofs.YtnloffjjlhhanaaDoor
open Go.RowKit
open Go.Proofs

theorem adds_prefix {t x : Tr} {l : List Ev} (h : t.adds l = some x) (k : Nat) : ∃ y, t.adds (l.take k) = some y := by
  rw [← List.take_append_drop k l, adds_append] at h
  cases ha : t.adds (l.take k) with
  | none => rw [ha] at h; cases h
  | some y => exact ⟨y, rfl⟩
theorem adds_next {t x y : Tr} {l : List Ev} {k : Nat} {e : Ev} (h : t.adds l = some x) (hk : t.adds (l.take k) = some y) (he : l[k]? = some e) : ∃ z, y.add e = some z ∧ t.adds (l.take (k + 1)) = some z := by
  obtain ⟨z, hz⟩ := adds_prefix h (k + 1)
  have h2 := hz
  rw [take_snoc he, adds_snoc, hk] at h2
  exact ⟨z, h2, hz⟩
/-- The pages behind so many events. -/
def pgK (l : List Ev) (k : Nat) : Int := match Tr.init.adds (l.take k) with | none => 0 | some t => t.pages
def mostTo (l : List Ev) : Nat → Int
  | 0 => 0
  | k + 1 => max (mostTo l k) (pgK l (k + 1))
theorem pgK_some {l : List Ev} {k : Nat} {t : Tr} (h : Tr.init.adds (l.take k) = some t) : pgK l k = t.pages := by unfold pgK; rw [h]
theorem mostTo_le (l : List Ev) : ∀ k j, 0 < j → j ≤ k → pgK l j ≤ mostTo l k
  | 0, j, h0, h => by omega
  | k + 1, j, h0, h => by
    simp only [mostTo]
    by_cases hj : j ≤ k
    · have := mostTo_le l k j h0 hj; omega
    · obtain rfl : j = k + 1 := by omega
      omega
theorem mostTo_hit (l : List Ev) : ∀ k, mostTo l k = 0 ∨ ∃ j, 0 < j ∧ j ≤ k ∧ mostTo l k = pgK l j
  | 0 => .inl rfl
  | k + 1 => by
    simp only [mostTo]
    by_cases h : pgK l (k + 1) ≤ mostTo l k
    · rw [Int.max_eq_left h]
      rcases mostTo_hit l k with h1 | ⟨j, h0, h1, h2⟩
      · exact .inl h1
      · exact .inr ⟨j, h0, by omega, h2⟩
    · rw [Int.max_eq_right (by omega)]
      exact .inr ⟨k + 1, by omega, by omega, rfl⟩
theorem mostTo_nonneg (l : List Ev) : ∀ k, 0 ≤ mostTo l k
  | 0 => Int.le_refl _
  | k + 1 => by simp only [mostTo]; have := mostTo_nonneg l k; omega
theorem mostTo_bd {l : List Ev} {x : Tr} (hl : l.length ≤ 2000) (h : Tr.init.adds l = some x) : ∀ k, mostTo l k ≤ 360000000
  | 0 => by simp [mostTo]
  | k + 1 => by
    simp only [mostTo]
    have h1 := mostTo_bd hl h k
    obtain ⟨y, hy⟩ := adds_prefix h (k + 1)
    have h2 := adds_ok _ 0 _ _ Tr.init_ok hy
    have hlen : (l.take (k + 1)).length ≤ 2000 := by simp only [List.length_take]; omega
    have h3 := trPages_bd h2.bd (by omega)
    rw [pgK_some hy]
    omega
theorem mostOf_le : ∀ (tr : List (St × Int)) (m : Int), (∀ x ∈ tr, x.1.pages ≤ tr.foldl (fun m x => max m x.1.pages) m) ∧ m ≤ tr.foldl (fun m x => max m x.1.pages) m
  | [], m => ⟨fun x hx => (by cases hx), Int.le_refl _⟩
  | y :: tr, m => by
    obtain ⟨h1, h2⟩ := mostOf_le tr (max m y.1.pages)
    simp only [List.foldl_cons]
    refine ⟨fun x hx => ?_, by omega⟩
    rcases List.mem_cons.1 hx with rfl | hx
    · omega
    · exact h1 x hx
theorem mostOf_hit : ∀ (tr : List (St × Int)) (m : Int), tr.foldl (fun m x => max m x.1.pages) m = m ∨ ∃ x ∈ tr, tr.foldl (fun m x => max m x.1.pages) m = x.1.pages
  | [], m => .inl rfl
  | y :: tr, m => by
    simp only [List.foldl_cons]
    rcases mostOf_hit tr (max m y.1.pages) with h | ⟨x, hx, h⟩
    · rw [h]
      by_cases hc : y.1.pages ≤ m
      · rw [Int.max_eq_left hc]; exact .inl rfl
      · rw [Int.max_eq_right (by omega)]; exact .inr ⟨y, List.mem_cons_self, rfl⟩
    · exact .inr ⟨x, List.mem_cons_of_mem _ hx, h⟩
/-- Both answer the same. -/
theorem most_same {l : List Ev} {tr : List (St × Int)} (hl : l.length ≤ 2000) (h : playP l = some tr) : mostTo l l.length = mostOf tr := by
  have G := play_good hl h
  have hinit : St.init.pages = 0 := rfl
  obtain ⟨h1, h2⟩ := mostOf_le tr 0
  refine Int.le_antisymm ?_ ?_
  · rcases mostTo_hit l l.length with h3 | ⟨j, h0, h3, h4⟩
    · rw [h3]; exact h2
    · rw [h4]
      obtain ⟨tk, h5, h6⟩ := G.pg j h3
      have h5' : Tr.init.adds (l.take j) = some tk := h5
      rw [pgK_some h5']
      rcases h6 with h6 | ⟨x, hx, h6⟩
      · rw [hinit] at h6; exact Int.le_trans h6 h2
      · exact Int.le_trans h6 (h1 x hx)
  · rcases mostOf_hit tr 0 with h3 | ⟨x, hx, h3⟩
    · show mostOf tr ≤ _
      unfold mostOf
      rw [h3]; exact mostTo_nonneg l _
    · obtain ⟨k, tk, h0, h4, h5, h6⟩ := G.hit x hx
      have h5' : Tr.init.adds (l.take k) = some tk := h5
      show mostOf tr ≤ _
      unfold mostOf
      rw [h3, ← h6, ← pgK_some h5']
      exact mostTo_le l _ k h4 h0

/-- What holds where one trace is made, of the first k events. -/
def OneRel (w : World) (l : List Ev) (r k : Nat) (wr : World) : Prop :=
  ∃ (R : Loc) (t : Tr), R.t = r ∧ Fr No w wr ∧ TrAt w.heap.size wr R t ∧ Tr.init.adds (l.take k) = some t ∧ TrOk k t


theorem steps_ge : ∀ (l : List Ev) (p : Int), stepsFrom p l = true → ∀ x ∈ l, p ≤ x.step
  | [], _, _, x, hx => by cases hx
  | e :: l, p, h, x, hx => by
    simp only [stepsFrom, Bool.and_eq_true, decide_eq_true_eq] at h
    rcases List.mem_cons.1 hx with rfl | hx
    · exact h.1.1.1
    · have := steps_ge l e.step h.2 x hx; omega
/-- The step of the last event. -/
structure TrSteps (st : Int) (l : List Ev) (tr : List (St × Int)) : Prop where
  lo : ∀ y ∈ tr, st ≤ y.2
  srt : tr.Pairwise fun a b => a.2 ≤ b.2
  hi : ∀ e, l.getLast? = some e → ∀ y ∈ tr, y.2 ≤ e.step
  hit : ∀ e, l.getLast? = some e → ∃ y ∈ tr, y.2 = e.step
  nil : l = [] → tr = []
theorem run_steps : ∀ (fuel : Nat) (s : St) (st : Int) (m : Nat) (l : List Ev) (tr : List (St × Int)), Inv s → Bd m s → m + l.length ≤ 4000 → stepsFrom st l = true → runs fuel s l = some tr → TrSteps st l tr := by
  intro fuel
  induction fuel with
  | zero => intro s st m l tr hi hb hm hs hr; simp [runs] at hr
  | succ fuel ih =>
    intro s st m l tr hi hb hm hs hr
    cases l with
    | nil =>
      simp only [runs, Option.some.injEq] at hr
      subst hr
      exact ⟨fun y hy => (by cases hy), List.Pairwise.nil, fun e he => (by cases he), fun e he => (by cases he), fun _ => rfl⟩
    | cons e r =>
      simp only [runs] at hr
      split at hr
      · cases hr
      rename_i hf
      have hf' : s.lf.length = 0 → isOpen e = true ∧ e.words = 0 := fun hz => Classical.byContradiction fun hh => hf ⟨hz, hh⟩
      split at hr
      · cases hr
      rename_i s' n hn
      cases hr2 : runs fuel s' ((e :: r).drop n) with
      | none => rw [hr2] at hr; cases hr
      | some tr' =>
        rw [hr2] at hr
        simp only [Option.map_some, Option.some.injEq] at hr
        have hs2 := hs
        simp only [stepsFrom, Bool.and_eq_true, decide_eq_true_eq] at hs2
        obtain ⟨hb', hn1, hn2⟩ := next_bd hb hn
        obtain ⟨room', g1, g2, g3⟩ := group (room := 0) hi hb (by simp only [List.length_cons] at hm; omega) hs2.1.1.1 hs2.1.2 hf' hn
        have hi' := next_inv hi hb hn
        have htl : ((e :: r).take n).length = n := by simp only [List.length_take, List.length_cons]; omega
        have hdl : ((e :: r).drop n).length = r.length + 1 - n := by simp only [List.length_drop, List.length_cons]
        have hsplit : (e :: r).take n ++ (e :: r).drop n = e :: r := List.take_append_drop _ _
        have hst : stepsFrom e.step ((e :: r).drop n) = true := steps_same ((e :: r).take n) _ st e.step g2 (by intro h; rw [h] at htl; simp at htl; omega) (by rw [hsplit]; exact hs)
        have hstep : ((e :: r).getD (n - 1) default).step = e.step := by
          refine g2 _ ?_
          have : ((e :: r).take n)[n - 1]? = some ((e :: r).getD (n - 1) default) := by
            rw [List.getElem?_take, if_pos (by omega), List.getD_eq_getElem?_getD, List.getElem?_eq_getElem (by simp only [List.length_cons]; omega)]
            rfl
          exact List.mem_of_getElem? this
        rw [hstep] at hr
        subst hr
        have G := ih s' e.step (m + n) _ tr' hi' hb' (by rw [hdl]; simp only [List.length_cons] at hm; omega) hst hr2
        have hlast : ∀ z, (e :: r).getLast? = some z → ((e :: r).drop n = [] ∧ z.step = e.step) ∨ ((e :: r).drop n).getLast? = some z := fun z hz => by
          rw [← hsplit, List.getLast?_append] at hz
          cases hd : ((e :: r).drop n).getLast? with
          | none =>
            rw [hd] at hz
            exact .inl ⟨List.getLast?_eq_none_iff.1 hd, g2 z (List.mem_of_getLast? hz)⟩
          | some y =>
            rw [hd] at hz
            exact .inr hz
        refine ⟨?_, ?_, ?_, ?_, fun h => (by cases h)⟩
        · intro y hy
          rcases List.mem_cons.1 hy with rfl | hy
          · exact hs2.1.1.1
          · have := G.lo y hy; have := hs2.1.1.1; omega
        · exact List.Pairwise.cons (fun y hy => G.lo y hy) G.srt
        · intro z hz y hy
          rcases hlast z hz with ⟨h1, h2⟩ | h1
          · rw [G.nil h1] at hy
            simp at hy
            subst hy
            exact Int.le_of_eq h2.symm
          · rcases List.mem_cons.1 hy with rfl | hy
            · exact steps_ge _ _ hst z (List.mem_of_getLast? h1)
            · exact G.hi z h1 y hy
        · intro z hz
          rcases hlast z hz with ⟨h1, h2⟩ | h1
          · exact ⟨_, List.mem_cons_self, h2.symm⟩
          · obtain ⟨y, hy, h2⟩ := G.hit z h1
            exact ⟨y, List.mem_cons_of_mem _ hy, h2⟩
theorem play_steps {l : List Ev} {tr : List (St × Int)} (hl : l.length ≤ 2000) (h : playP l = some tr) : TrSteps 0 l tr := by
  unfold playP at h
  split at h
  · rename_i hs
    exact run_steps _ _ 0 0 l tr Inv.init Bd.init (by omega) hs h
  · cases h
theorem play_sorted {l : List Ev} {tr : List (St × Int)} (h : playP l = some tr) : stepsFrom 0 l = true := by
  unfold playP at h
  split at h
  · assumption
  · cases h

/-- The pages behind a step. -/
def pgAt (l : List Ev) (x : Int) : Int := match Tr.init.adds (upto l x) with | none => 0 | some t => t.pages
theorem lastSt_snoc : ∀ (tr : List (St × Int)) (s : St) (x : St × Int), lastSt s (tr ++ [x]) = x.1
  | [], _, _ => rfl
  | y :: tr, s, x => by simp only [List.cons_append, lastSt]; exact lastSt_snoc tr y.1 x
def ByOk (pre : List (St × Int)) (o : List Int) (n : Int) : Prop :=
  ∃ L : Nat, o.length = L ∧ (∀ y ∈ pre, y.2 ≤ (L : Int)) ∧ ((pre = [] ∧ L = 0) ∨ ∃ y ∈ pre, y.2 = (L : Int)) ∧ n = (lastSt St.init pre).pages ∧ ∀ j, j < L → o[j]? = some (lastSt St.init (pre.takeWhile fun y => decide (y.2 ≤ (j : Int)))).pages
theorem takeWhile_all {α : Type} {p : α → Bool} : ∀ {l : List α}, (l.takeWhile p).length = l.length → ∀ x ∈ l, p x = true
  | [], _, x, hx => by cases hx
  | a :: l, h, x, hx => by
    rw [List.takeWhile_cons] at h
    cases hp : p a
    · rw [hp] at h; simp at h
    · rw [hp] at h
      simp only [if_true, List.length_cons, Nat.add_right_cancel_iff] at h
      rcases List.mem_cons.1 hx with rfl | hx
      · exact hp
      · exact takeWhile_all h x hx
theorem takeWhile_yes {α : Type} {p : α → Bool} : ∀ {l : List α}, (∀ x ∈ l, p x = true) → l.takeWhile p = l
  | [], _ => rfl
  | a :: l, h => by
    rw [List.takeWhile_cons, h a List.mem_cons_self]
    simp only [if_true]
    rw [takeWhile_yes fun x hx => h x (List.mem_cons_of_mem _ hx)]
theorem ByOk.step {pre : List (St × Int)} {o : List Int} {n : Int} (h : ByOk pre o n) {x : St × Int} (hx0 : 0 ≤ x.2) (hx : ∀ y ∈ pre, y.2 ≤ x.2) : ByOk (pre ++ [x]) (byStep (o, n) x).1 (byStep (o, n) x).2 := by
  obtain ⟨L, h1, h2, h3, h4, h5⟩ := h
  have hLx : (L : Int) ≤ x.2 := by
    rcases h3 with ⟨-, h3⟩ | ⟨y, hy, h3⟩
    · omega
    · have := hx y hy; omega
  have hlen : (byStep (o, n) x).1.length = x.2.toNat := by simp only [byStep, List.length_append, List.length_replicate]; omega
  refine ⟨x.2.toNat, hlen, ?_, ?_, ?_, ?_⟩
  · intro y hy
    rcases List.mem_append.1 hy with hy | hy
    · have := hx y hy; omega
    · simp at hy; subst hy; omega
  · exact .inr ⟨x, by simp, by omega⟩
  · rw [lastSt_snoc]; rfl
  · intro j hj
    rw [List.takeWhile_append]
    by_cases hjL : j < L
    · have hno : ¬ (pre.takeWhile fun y => decide (y.2 ≤ (j : Int))).length = pre.length := fun hh => by
        have ha := takeWhile_all hh
        rcases h3 with ⟨-, h3⟩ | ⟨y, hy, h3⟩
        · omega
        · have := ha y hy
          simp only [decide_eq_true_eq] at this
          omega
      rw [if_neg hno]
      simp only [byStep]
      rw [List.getElem?_append_left (by omega)]
      exact h5 j hjL
    · have hyes : (pre.takeWhile fun y => decide (y.2 ≤ (j : Int))) = pre := takeWhile_yes fun y hy => by have := h2 y hy; simp only [decide_eq_true_eq]; omega
      rw [hyes, if_pos rfl]
      have hnx : decide (x.2 ≤ (j : Int)) = false := decide_eq_false (by omega)
      rw [List.takeWhile_cons, hnx]
      simp only [Bool.false_eq_true, if_false, List.append_nil, byStep]
      rw [List.getElem?_append_right (by omega), List.getElem?_replicate, if_pos (by omega), h4]
theorem by_fold : ∀ (tr pre : List (St × Int)) (p : List Int × Int), ByOk pre p.1 p.2 → (∀ y ∈ tr, 0 ≤ y.2) → (pre ++ tr).Pairwise (fun a b => a.2 ≤ b.2) → ByOk (pre ++ tr) (tr.foldl byStep p).1 (tr.foldl byStep p).2
  | [], pre, p, h, _, _ => by rw [List.append_nil]; exact h
  | x :: tr, pre, p, h, h0, hs => by
    have hx : ∀ y ∈ pre, y.2 ≤ x.2 := fun y hy => (List.pairwise_append.1 hs).2.2 y hy x List.mem_cons_self
    have h2 := h.step (h0 x List.mem_cons_self) hx
    have h3 := by_fold tr (pre ++ [x]) (byStep p x) h2 (fun y hy => h0 y (List.mem_cons_of_mem _ hy)) (by rw [List.append_assoc]; exact hs)
    rw [List.append_assoc] at h3
    exact h3
theorem by_ok {tr : List (St × Int)} (h0 : ∀ y ∈ tr, 0 ≤ y.2) (hs : tr.Pairwise fun a b => a.2 ≤ b.2) : ByOk tr (byTr tr).1 (byTr tr).2 := by
  have := by_fold tr [] ([], 0) ⟨0, rfl, fun y hy => (by cases hy), .inl ⟨rfl, rfl⟩, rfl, fun j hj => by omega⟩ h0 hs
  exact this
theorem pgAt_play {l : List Ev} {tr : List (St × Int)} (hl : l.length ≤ 2000) (h : playP l = some tr) {x : Int} (hx : 0 ≤ x) : pgAt l x = (lastSt St.init (tr.takeWhile fun y => decide (y.2 ≤ x))).pages := by
  obtain ⟨r, s, h1⟩ := (play_good hl h).upto x hx
  have h1' : Tr.init.adds (upto l x) = _ := h1
  unfold pgAt
  rw [h1']
  exact pages_calm rfl
/-- What the program has gathered: the pages behind each step, up to the last one. -/
theorem outP_at {l : List Ev} {tr : List (St × Int)} {e : Ev} (hl : l.length ≤ 2000) (h : playP l = some tr) (he : l.getLast? = some e) :
    0 ≤ e.step ∧ e.step ≤ 20000 ∧ (outP l tr).length = e.step.toNat + 1 ∧ ∀ j, j ≤ e.step.toNat → (outP l tr)[j]? = some (pgAt l j) := by
  have hne : l.length ≠ 0 := fun h0 => by
    have := List.eq_nil_of_length_eq_zero h0
    rw [this] at he; cases he
  have T := play_steps hl h
  obtain ⟨L, h1, h2, h3, h4, h5⟩ := by_ok T.lo T.srt
  obtain ⟨y, hy, hye⟩ := T.hit e he
  have hL : (L : Int) = e.step := by
    rcases h3 with ⟨h3, -⟩ | ⟨z, hz, h3⟩
    · rw [h3] at hy; cases hy
    · have := h2 y hy
      have := T.hi e he z hz
      omega
  have hs20 : e.step ≤ 20000 := by
    have hss := play_sorted h
    have : ∀ (l : List Ev) (p : Int), stepsFrom p l = true → ∀ x ∈ l, x.step ≤ 20000 := by
      intro l
      induction l with
      | nil => intro p _ x hx; cases hx
      | cons a l ih =>
        intro p hp x hx
        simp only [stepsFrom, Bool.and_eq_true, decide_eq_true_eq] at hp
        rcases List.mem_cons.1 hx with rfl | hx
        · exact hp.1.2
        · exact ih _ hp.2 x hx
    exact this l 0 hss e (List.mem_of_getLast? he)
  have hout : outP l tr = (byTr tr).1 ++ [(byTr tr).2] := by unfold outP; rw [if_neg hne]
  have hLn : L = e.step.toNat := by omega
  refine ⟨by omega, hs20, by rw [hout, List.length_append, h1, hLn]; rfl, fun j hj => ?_⟩
  rw [hout, pgAt_play hl h (by omega)]
  by_cases hjL : j < L
  · rw [List.getElem?_append_left (by omega)]; exact h5 j hjL
  · have hjL2 : j = L := by omega
    subst hjL2
    rw [List.getElem?_append_right (by omega), h1, Nat.sub_self, takeWhile_yes fun y hy => decide_eq_true (h2 y hy), h4]
    rfl
/-- Behind the last step nothing turns. -/
theorem pgAt_end {l : List Ev} {e : Ev} {x : Int} (hs : stepsFrom 0 l = true) (he : l.getLast? = some e) (h0 : 0 ≤ e.step) (hx : e.step ≤ x) : pgAt l x = pgAt l e.step := by
  have hall : ∀ (l : List Ev) (p : Int), stepsFrom p l = true → ∀ e, l.getLast? = some e → ∀ z ∈ l, z.step ≤ e.step := by
    intro l
    induction l with
    | nil => intro p _ e he; cases he
    | cons a l ih =>
      intro p hp e he z hz
      simp only [stepsFrom, Bool.and_eq_true, decide_eq_true_eq] at hp
      cases l with
      | nil =>
        simp at he hz
        subst he hz
        exact Int.le_refl _
      | cons b l =>
        have he' : (b :: l).getLast? = some e := by rw [List.getLast?_cons_cons] at he; exact he
        rcases List.mem_cons.1 hz with rfl | hz
        · have := ih _ hp.2 e he' b List.mem_cons_self
          have h3 := steps_ge (b :: l) _ hp.2 b List.mem_cons_self
          omega
        · exact ih _ hp.2 e he' z hz
  have h1 : ∀ y, e.step ≤ y → upto l y = l := fun y hy => upto_same l y fun z hz => by
    have := hall l 0 hs e he z hz
    unfold passes
    simp only [Bool.or_eq_true, decide_eq_true_eq]
    omega
  unfold pgAt
  rw [h1 x hx, h1 e.step (Int.le_refl _)]

/-- How many points a graph has. -/
def stepsN (d s : Nat) : Nat := (d + s - 1) / s + 1
theorem stepsN_is {d s j : Nat} (hs : 0 < s) (h1 : d ≤ j * s) (h2 : j = 0 ∨ j * s < d + s) : stepsN d s = j + 1 := by
  unfold stepsN
  congr 1
  refine Nat.div_eq_of_lt_le ?_ ?_
  · rcases h2 with rfl | h2
    · omega
    · omega
  · rw [Nat.succ_mul]; omega
def pts (l : List Ev) (s j : Nat) : List Int := (List.range j).map fun i => pgAt l ((i * s : Nat) : Int)
theorem pts_len (l : List Ev) (s j : Nat) : (pts l s j).length = j := by simp [pts]
theorem pts_succ (l : List Ev) (s j : Nat) : pts l s (j + 1) = pts l s j ++ [pgAt l ((j * s : Nat) : Int)] := by simp [pts, List.range_succ]
def graphOf (l : List Ev) (s : Nat) : List Int := match l.getLast? with | none => [] | some e => pts l s (stepsN e.step.toNat s)

theorem upto_at : ∀ (l : List Ev) (s : Int) (a : Nat), a ≤ l.length → (∀ i e, i < a → l[i]? = some e → passes s e = true) → (∀ e, l[a]? = some e → passes s e = false) → upto l s = l.take a
  | [], s, a, ha, _, _ => by simp [upto]
  | x :: l, s, 0, ha, _, h2 => by
    have := h2 x rfl
    unfold upto
    rw [List.takeWhile_cons, this]
    rfl
  | x :: l, s, a + 1, ha, h1, h2 => by
    have h3 := h1 0 x (by omega) rfl
    have := upto_at l s a (by simpa using ha) (fun i e hi he => h1 (i + 1) e (by omega) (by simpa using he)) (fun e he => h2 e (by simpa using he))
    unfold upto at this ⊢
    rw [List.takeWhile_cons, h3, List.take_succ_cons]
    simp only [if_true]
    rw [this]

structure GrRel (w : World) (l : List Ev) (s r a j S : Nat) (A : Option Addr) (c : Nat) (wr : World) (R : Loc) (t : Tr) : Prop where
  at' : R.t = r
  fr : Fr No w wr
  tr : TrAt w.heap.size wr R t
  adds : Tr.init.adds (l.take a) = some t
  ok : TrOk a t
  row : wr.ownsRow w.heap.size 3 1 (.slice A j c) j ((pts l s j).map numI)
  apart : ∀ k, (Value.slice A 0 0).ownBlock = some k → ¬ R.foot k
  past : ∀ i e, i < a → l[i]? = some e → e.step ≤ (S : Int)
theorem GrRel.fr0 {w wr wr' : World} {l : List Ev} {s r a j S : Nat} {A : Option Addr} {c : Nat} {R : Loc} {t : Tr} (h : GrRel w l s r a j S A c wr R t) (hf : Fr No wr wr') : GrRel w l s r a j S A c wr' R t :=
  ⟨h.at', h.fr.trans hf, h.tr.fr0 hf, h.adds, h.ok, row_stays h.row fun k hk => hf.block k (h.row.lt k hk).2 (fun e => e.elim), h.apart, h.past⟩
/-- An event more. -/
theorem GrRel.next {w wr w2 : World} {l : List Ev} {s r a j S : Nat} {A : Option Addr} {c : Nat} {R R' : Loc} {t t' : Tr} {e : Ev} (h : GrRel w l s r a j S A c wr R t) (he : l[a]? = some e) (hst : e.step ≤ (S : Int)) (hadd : t.add e = some t') (hadds : Tr.init.adds (l.take (a + 1)) = some t')
    (hf : Fr R.foot wr w2) (ht : R'.t = R.t) (hT : TrAt w.heap.size w2 R' t') (hft : ∀ k, R'.foot k → R.foot k ∨ wr.heap.size ≤ k) : GrRel w l s r (a + 1) j S A c w2 R' t' := by
  refine ⟨ht.trans h.at', h.fr.then hf fun i hi hS => by have := (h.tr.foot_lt hS).1; omega, hT, hadds, add_ok h.ok hadd, row_stays h.row fun k hk => hf.block k (h.row.lt k hk).2 (h.apart k (own_eq.1 hk)), fun k hk hk2 => ?_, fun i e' hi he' => ?_⟩
  · rcases hft k hk2 with h1 | h1
    · exact h.apart k hk h1
    · have := (h.row.lt k (own_eq.2 hk)).2; omega
  · by_cases hia : i < a
    · exact h.past i e' hia he'
    · obtain rfl : i = a := by omega
      rw [he] at he'
      simp only [Option.some.injEq] at he'
      subst he'
      exact hst
/-- A point more. -/
theorem GrRel.point {w wr w2 : World} {l : List Ev} {s r a j S : Nat} {A A2 : Option Addr} {c c2 : Nat} {R : Loc} {t : Tr} {o : Obj} (h : GrRel w l s r a j S A c wr R t) (hS : S = j * s) (ha : a ≤ l.length) (hstop : ∀ e, l[a]? = some e → (S : Int) < e.step)
    (hown : w2.ownsRow w.heap.size 3 1 (.slice A2 (j + 1) c2) (j + 1) ((pts l s j).map numI ++ [numI t.pages])) (hg : (wr.alloc o).grownBy w2 (Value.slice A j c).ownBlock)
    (hw : (Value.slice A2 (j + 1) c2).ownBlock = (Value.slice A j c).ownBlock ∨ (Value.slice A2 (j + 1) c2).ownBlock = some (wr.heap.size + 1)) : GrRel w l s r a (j + 1) (S + s) A2 c2 w2 R t := by
  have hf2 : Fr (fun k => (Value.slice A 0 0).ownBlock = some k) wr w2 := Fr.grown ((Fr.refl _ _).alloc _) hg (fun k hk => .inl (own_eq.1 hk))
  have hpg : pgAt l ((j * s : Nat) : Int) = t.pages := by
    have hu : upto l ((j * s : Nat) : Int) = l.take a := upto_at l _ a ha (fun i e hi he => by have := h.past i e hi he; unfold passes; simp only [Bool.or_eq_true, decide_eq_true_eq]; omega) (fun e he => by
      have := hstop e he
      unfold passes
      simp only [Bool.or_eq_false_iff, decide_eq_false_iff_not]; omega)
    unfold pgAt
    rw [hu, h.adds]
  refine ⟨h.at', h.fr.then hf2 fun i hi hh => by have := (h.row.lt i (own_eq.2 hh)).1; omega, h.tr.fr hf2 fun k hk => h.apart k hk, h.adds, h.ok, ?_, fun k hk hk2 => ?_, fun i e hi he => by have := h.past i e hi he; omega⟩
  · rw [pts_succ, hpg, List.map_append]; exact hown
  · rw [own_is (A := A2) (n := j + 1), own_is (A := A) (n := j)] at hw
    rcases hw with h1 | h1
    · rw [h1] at hk; exact h.apart k hk hk2
    · rw [h1] at hk
      simp only [Option.some.injEq] at hk
      have := (h.tr.foot_lt hk2).2
      omega


theorem stepsN_one (d : Nat) : stepsN d 1 = d + 1 := by unfold stepsN; rw [Nat.div_one]; omega
theorem out_graph {l : List Ev} {tr : List (St × Int)} (hl : l.length ≤ 2000) (h : playP l = some tr) : outP l tr = graphOf l 1 := by
  cases hg : l.getLast? with
  | none =>
    have hn : l = [] := List.getLast?_eq_none_iff.1 hg
    have ht := (play_steps hl h).nil hn
    subst hn ht
    rfl
  | some e =>
    obtain ⟨h0, h1, h2, h3⟩ := outP_at hl h hg
    unfold graphOf
    rw [hg]
    simp only
    rw [stepsN_one]
    refine List.ext_getElem? fun j => ?_
    unfold pts
    rw [List.getElem?_map]
    by_cases hj : j ≤ e.step.toNat
    · rw [h3 j hj, List.getElem?_range (by omega)]
      simp
    · rw [List.getElem?_eq_none (by omega), List.getElem?_eq_none (by simp; omega)]
      rfl
theorem pgAt_bd {l : List Ev} {tr : List (St × Int)} (hl : l.length ≤ 2000) (h : playP l = some tr) (x : Int) : 0 ≤ pgAt l x ∧ pgAt l x ≤ 360000000 := by
  obtain ⟨r, s, hfin⟩ := (play_good hl h).fin
  have hfin' : Tr.init.adds l = _ := hfin
  unfold pgAt
  have hpre : ∃ k, upto l x = l.take k := ⟨(upto l x).length, by unfold upto; exact List.prefix_iff_eq_take.1 (List.takeWhile_prefix _)⟩
  obtain ⟨k, hk⟩ := hpre
  obtain ⟨y, hy⟩ := adds_prefix hfin' k
  rw [hk, hy]
  have h2 := adds_ok _ 0 _ _ Tr.init_ok hy
  exact trPages_bd h2.bd (by simp only [List.length_take]; omega)
theorem graph_bd {l : List Ev} {tr : List (St × Int)} (hl : l.length ≤ 2000) (h : playP l = some tr) (s : Nat) : ∀ x ∈ graphOf l s, 0 ≤ x ∧ x ≤ 360000000 := by
  intro x hx
  unfold graphOf at hx
  cases hg : l.getLast? with
  | none => rw [hg] at hx; cases hx
  | some e =>
    rw [hg] at hx
    simp only [pts, List.mem_map] at hx
    obtain ⟨i, -, rfl⟩ := hx
    exact pgAt_bd hl h _
def sumTo (xs : List Int) (k : Nat) : Int := (xs.take k).sum
theorem sumTo_succ {xs : List Int} {k : Nat} {x : Int} (h : xs[k]? = some x) : sumTo xs (k + 1) = sumTo xs k + x := by
  unfold sumTo; rw [List.take_add_one, h]; simp
theorem sumTo_bd {xs : List Int} (h : ∀ x ∈ xs, 0 ≤ x ∧ x ≤ 360000000) : ∀ k : Nat, 0 ≤ sumTo xs k ∧ sumTo xs k ≤ k * 360000000
  | 0 => by simp [sumTo]
  | k + 1 => by
    have ih := sumTo_bd h k
    cases e : xs[k]? with
    | none =>
      have : sumTo xs (k + 1) = sumTo xs k := by unfold sumTo; rw [List.take_add_one, e]; simp
      rw [this]; omega
    | some x =>
      rw [sumTo_succ e]
      have := h x (List.mem_of_getElem? e)
      omega
def areaVal (l : List Ev) : Value := match playP l with
  | none => .tuple #[.int .i64 0, .int .i64 100]
  | some tr => .tuple #[.int .i64 (graphOf l 1).sum, .int .i64 0]

set_option maxRecDepth 100000 in
set_option maxHeartbeats 2000000 in
theorem progArea (w : World) (A : Option Addr) (cap : Nat) (l : List Ev) (hev : Evs w.heap.size w A l) (hl : l.length ≤ 2000) (hcap : l.length ≤ cap) :
    Calls Tryd.prog 14 #[.slice A l.length cap] w fun e w' => Fr No w w' ∧ e = .returned (areaVal l) := by
  have HS := Lib.hid (steps_any w A cap l hev hl hcap)
  have HL := Lib.hid hl
  clear hev
  go_enter Tryd.func14, Tryd.ntmps14
  go_wp2_with fail
  refine HS.out.mono ?_
  intro en w1 hp
  unfold StepsPost at hp
  have HF1 := Lib.hid hp.1
  cases hpl : playP l with
  | none =>
    have HV : Hid (areaVal l = .tuple #[.int .i64 0, .int .i64 100]) := by unfold Hid areaVal; rw [hpl]
    rw [hpl] at hp
    obtain ⟨-, A1, n1, c1, rfl⟩ := hp
    clear hpl
    go_wp2_with fail
    go_ret2
    exact ⟨HF1.out, by rw [HV.out]; rfl⟩
  | some tr =>
    have HV : Hid (areaVal l = .tuple #[.int .i64 (graphOf l 1).sum, .int .i64 0]) := by unfold Hid areaVal; rw [hpl]
    rw [hpl] at hp
    obtain ⟨-, A1, c1, rfl, hrow, hlen, hbd⟩ := hp
    rw [out_graph HL.out hpl] at hrow hlen hbd
    rw [out_graph HL.out hpl]
    generalize hxs : graphOf l 1 = xs at *
    have HB := Lib.hid hbd
    have HROW := Lib.hid hrow
    clear hpl hrow hbd hxs
    go_wp2_with fail
    go_loopw [6, 8, 18] (fun sv _ iv wr => ∃ k : Nat, sv = .int .i64 (sumTo xs k) ∧ iv = .int .i64 k ∧ k ≤ xs.length ∧ wr = w1) (fun _ _ iv _ => xs.length - (intOf iv).toNat)
    case atStart => exact ⟨0, by simp [sumTo], rfl, by omega, rfl⟩
    case round =>
      obtain ⟨k, rfl, rfl, hk, rfl⟩ := hrel
      have hsb := sumTo_bd HB.out k
      by_cases hlt : k < xs.length
      · have hx : xs[k]? = some (xs[k]'hlt) := List.getElem?_eq_getElem _
        generalize (xs[k]'hlt) = x at hx
        have hxb := HB.out x (List.mem_of_getElem? hx)
        obtain ⟨g, hA, hc, -⟩ := row_cell HROW.out k (numI x) (by simp [hx])
        subst hA
        unfold numI at hc
        have hgl := World.block_lt_of_cell? _ _ hc
        have HSU := Lib.hid (sumTo_succ hx)
        clear hx
        go_wp2_with fail
        go_roundw
        case rel => exact ⟨k + 1, by rw [HSU.out], by go_num, by omega, trivial⟩
        case measure => simp [intOf]; omega
      · have hk2 : k = xs.length := by omega
        have HK2 := Lib.hid hk2
        clear hk2
        go_wp2_with fail
        go_ret2
        exact ⟨HF1.out, by rw [HV.out, HK2.out]; unfold sumTo; rw [List.take_length]; rfl⟩


/-- Which graph is asked for, and how it is refused. -/
def gOf (l : List Ev) (s : Int) : List Int := match playP l with | none => [] | some _ => if 1 ≤ s ∧ s ≤ 20000 then graphOf l s.toNat else []
def gErr (l : List Ev) (s : Int) : Int := match playP l with | none => 100 | some _ => if 1 ≤ s ∧ s ≤ 20000 then 0 else 2
def GraphPost (w : World) (l : List Ev) (s : Int) (en : Ending) (w' : World) : Prop :=
  Fr No w w' ∧ ∃ A c B, en = .returned (.tuple #[.slice A (gOf l s).length c, .int .i64 (gErr l s)]) ∧ w'.ownsRow B 3 1 (.slice A (gOf l s).length c) (gOf l s).length ((gOf l s).map numI) ∧ (gOf l s).length ≤ 40002

/-- What the program's Graph takes out. -/
theorem all_at {l : List Ev} {e : Ev} (hs : stepsFrom 0 l = true) (hg : l.getLast? = some e) (h0 : 0 ≤ e.step) (k : Nat) : (graphOf l 1)[min k ((graphOf l 1).length - 1)]? = some (pgAt l k) := by
  have h1 : graphOf l 1 = pts l 1 (e.step.toNat + 1) := by unfold graphOf; rw [hg]; simp only; rw [stepsN_one]
  rw [h1, pts_len]
  unfold pts
  rw [List.getElem?_map, List.getElem?_range (by omega)]
  simp only [Option.map_some, Option.some.injEq, Nat.mul_one, Nat.add_sub_cancel]
  by_cases hk : k ≤ e.step.toNat
  · rw [Nat.min_eq_left hk]
  · rw [Nat.min_eq_right (by omega), pgAt_end hs hg h0 (x := (k : Int)) (by omega)]
    congr 1
    omega

set_option maxRecDepth 100000 in
set_option maxHeartbeats 2000000 in
theorem progGraph (w : World) (A : Option Addr) (cap : Nat) (l : List Ev) (s : Int) (hev : Evs w.heap.size w A l) (hl : l.length ≤ 2000) (hcap : l.length ≤ cap) :
    Calls Tryd.prog 13 #[.slice A l.length cap, .int .i64 s] w (GraphPost w l s) := by
  obtain ⟨i0, hi, hz0, hz1, hz2⟩ := info_parts info_int
  have HS := Lib.hid (steps_any w A cap l hev hl hcap)
  have HL := Lib.hid hl
  clear hev
  go_enter Tryd.func13, Tryd.ntmps13
  go_wp2_with fail
  refine HS.out.mono ?_
  intro en w1 hp
  unfold StepsPost at hp
  have HF1 := Lib.hid hp.1
  cases hpl : playP l with
  | none =>
    have HV : Hid (∀ en w', Fr No w w' → en = .returned (.tuple #[.slice none 0 0, .int .i64 100]) → GraphPost w l s en w') := by
      intro en w' hf he
      unfold GraphPost gOf gErr
      rw [hpl]
      exact ⟨hf, none, 0, 0, he, World.ownsRow_nil _ _ _ _, by simp⟩
    rw [hpl] at hp
    obtain ⟨-, A1, n1, c1, rfl⟩ := hp
    clear hpl
    go_wp2_with fail
    go_ret2
    exact HV.out _ _ HF1.out rfl
  | some tr =>
    rw [hpl] at hp
    obtain ⟨-, A1, c1, rfl, hrow, hlen, hbd⟩ := hp
    rw [out_graph HL.out hpl] at hrow hlen hbd
    rw [out_graph HL.out hpl]
    by_cases hs : 1 ≤ s ∧ s ≤ 20000
    · obtain ⟨k, rfl⟩ : ∃ k : Nat, s = k := ⟨s.toNat, by omega⟩
      have HV : Hid (∀ en w', Fr No w w' → (∃ A c B, en = .returned (.tuple #[.slice A (graphOf l k).length c, .int .i64 0]) ∧ w'.ownsRow B 3 1 (.slice A (graphOf l k).length c) (graphOf l k).length ((graphOf l k).map numI) ∧ (graphOf l k).length ≤ 40002) → GraphPost w l k en w') := by
        intro en w' hf he
        unfold GraphPost gOf gErr
        rw [hpl]
        simp only [if_pos hs, Int.toNat_natCast]
        exact ⟨hf, he⟩
      have HBT : Hid ((decide ((1 : Int) ≤ (k : Int)) && decide ((k : Int) ≤ 20000)) = true) := by unfold Hid; simp; omega
      have hk0 : 0 < k := by omega
      have hk1 : k ≤ 20000 := by omega
      cases hg : l.getLast? with
      | none =>
        have hgr : ∀ s, graphOf l s = [] := fun s => by unfold graphOf; rw [hg]
        have HGR := Lib.hid hgr
        rw [hgr]
        clear hpl hrow hbd hlen hg hgr
        simp only [List.length_nil]
        go_wp2_with fail
        refine (between_is 1 k 20000 _ HBT.out w1).mono ?_
        rintro en w2 ⟨rfl, rfl⟩
        go_wp2_with fail
        go_loopw [8, 9] (fun ov _ wr => ov = .slice none 0 0 ∧ wr = w1) (fun _ _ _ => 0)
        case atStart => exact ⟨rfl, rfl⟩
        case round =>
          obtain ⟨rfl, rfl⟩ := hrel
          go_wp2_with fail
          go_ret2
          exact HV.out _ _ HF1.out ⟨none, 0, 0, by rw [HGR.out]; rfl, by rw [HGR.out]; exact World.ownsRow_nil _ _ _ _, by rw [HGR.out]; simp⟩
      | some e =>
        obtain ⟨hd0, hd1, -, -⟩ := outP_at HL.out hpl hg
        obtain ⟨D, hD⟩ : ∃ D : Nat, e.step = D := ⟨e.step.toNat, by omega⟩
        have hD2 : D ≤ 20000 := by omega
        have hg1 : (graphOf l 1).length = D + 1 := by unfold graphOf; rw [hg]; simp only; rw [pts_len, stepsN_one, hD, Int.toNat_natCast]
        have HGK : Hid (graphOf l k = pts l k (stepsN D k)) := by unfold Hid graphOf; rw [hg]; simp only; rw [hD, Int.toNat_natCast]
        have hall := fun S => all_at (play_sorted hpl) hg hd0 S
        rw [hg1] at hall hrow ⊢
        have HALL := Lib.hid hall
        have HROW := Lib.hid hrow
        generalize graphOf l 1 = xs at *
        clear hpl hrow hbd hlen hg hg1 hall hd0 hd1 hD
        go_wp2_with fail
        refine (between_is 1 k 20000 _ HBT.out w1).mono ?_
        rintro en w2 ⟨rfl, rfl⟩
        go_wp2_with fail
        go_loopw [8, 9] (fun ov av wr => ∃ (j S : Nat) (A' : Option Addr) (c : Nat), ov = .slice A' j c ∧ av = .int .i64 S ∧ S ≤ 40000 ∧ j ≤ S ∧ (j = 0 ∨ S < D + k) ∧ Hid (S = j * k) ∧ Hid (wr.ownsRow w1.heap.size 3 1 (.slice A' j c) j ((pts l k j).map numI)) ∧ Hid (Fr No w1 wr)) (fun _ av _ => D + 1 - (intOf av).toNat)
        case atStart => exact ⟨0, 0, none, 0, rfl, rfl, by omega, by omega, .inl rfl, Lib.hid (by simp), World.ownsRow_nil _ _ _ _, Fr.refl _ _⟩
        case round =>
          obtain ⟨j, S, A', c, rfl, rfl, hS, hjS, hjD, HSJ, R1, R2⟩ := hrel
          have hrow := row_stays HROW.out fun q hq => R2.out.block q (HROW.out.lt q hq).2 (fun e => e.elim)
          obtain ⟨g, hA, x1, -⟩ := row_cell hrow (min S D) (numI (pgAt l S)) (by rw [List.getElem?_map, show D = D + 1 - 1 by omega, HALL.out S]; rfl)
          subst hA
          unfold numI at x1
          have hgl := World.block_lt_of_cell? _ _ x1
          have hbase := R2.out.size
          clear hrow
          by_cases hSD : S < D
          · have hm : min S D = S := Nat.min_eq_left (by omega)
            rw [hm] at x1
            clear hm
            go_wp2_with (at_builtin; go_must (refine wpList_append_own_at _ rfl (.tmp 28) (.tmp 37) 37 rfl w1.heap.size 3 i0 (.int .i64 0) 1 8 Tryd.underlying37 hi hz0 hz1 hz2 rfl (by decide) (.slice A' j c) j ((pts l k j).map numI) rfl ?hown ⟨wr.heap.size, 0, none⟩ 1 1 [numI (pgAt l S)] rfl rfl ?c1 ?c2 ?c3 ?c4 ?c5 ?_))
            case hown => exact World.ownsRow.alloc R1.out _
            case c1 => first | exact cell_one_at _ _ _ _ rfl | exact fun j u h => h
            case c2 => simp [Value.oneCell', numI]
            case c3 => unfold maxLen; omega
            case c4 => omega
            case c5 => first | omega | (simp; omega)
            intro v' w2 hown hgrow _ hwhere
            obtain ⟨A2, c2, rfl, -⟩ := row_slice hown
            have hf2 : Fr No w1 w2 := by
              have hf := nums_grown hbase (m := w1.heap.size) (fun k hk => (R1.out.lt k hk).1) hbase hgrow
              exact R2.out.then hf fun i hi hi2 => absurd hi2 (by omega)
            have hrow2 : w2.ownsRow w1.heap.size 3 1 (.slice A2 (j + 1) c2) (j + 1) ((pts l k (j + 1)).map numI) := by
              rw [pts_succ, ← HSJ.out, List.map_append]; exact hown
            have HF2 := Lib.hid hf2
            have HROW2 := Lib.hid hrow2
            clear hown hgrow hwhere hf2 hrow2 x1
            have HSJ2 : Hid (S + k = (j + 1) * k) := by unfold Hid; rw [Nat.succ_mul, HSJ.out]
            have hend' : decide ((D : Int) ≤ (S : Int)) = false := decide_eq_false (by omega)
            go_wp2_with fail
            go_roundw
            case rel => exact ⟨j + 1, S + k, A2, c2, rfl, by first | rfl | go_num, by omega, by omega, .inr (by omega), HSJ2, HROW2, HF2⟩
            case measure => simp [intOf]; omega
          · rcases (by omega : S = D ∨ D < S) with hSD | hSD
            · obtain rfl : D = S := hSD.symm
              rw [Nat.min_self] at x1
              go_wp2_with (at_builtin; go_must (refine wpList_append_own_at _ rfl (.tmp 28) (.tmp 37) 37 rfl w1.heap.size 3 i0 (.int .i64 0) 1 8 Tryd.underlying37 hi hz0 hz1 hz2 rfl (by decide) (.slice A' j c) j ((pts l k j).map numI) rfl ?hown ⟨wr.heap.size, 0, none⟩ 1 1 [numI (pgAt l D)] rfl rfl ?c1 ?c2 ?c3 ?c4 ?c5 ?_))
              case hown => exact World.ownsRow.alloc R1.out _
              case c1 => first | exact cell_one_at _ _ _ _ rfl | exact fun j u h => h
              case c2 => simp [Value.oneCell', numI]
              case c3 => unfold maxLen; omega
              case c4 => omega
              case c5 => first | omega | (simp; omega)
              intro v' w2 hown hgrow _ hwhere
              obtain ⟨A2, c2, rfl, -⟩ := row_slice hown
              have hf2 : Fr No w1 w2 := by
                have hf := nums_grown hbase (m := w1.heap.size) (fun k hk => (R1.out.lt k hk).1) hbase hgrow
                exact R2.out.then hf fun i hi hi2 => absurd hi2 (by omega)
              have hrow2 : w2.ownsRow w1.heap.size 3 1 (.slice A2 (j + 1) c2) (j + 1) ((pts l k (j + 1)).map numI) := by
                rw [pts_succ, ← HSJ.out, List.map_append]; exact hown
              have HF2 := Lib.hid hf2
              have HROW2 := Lib.hid hrow2
              clear hown hgrow hwhere hf2 hrow2 x1
              have hj1 : stepsN D k = j + 1 := by
                refine stepsN_is hk0 (by rw [← HSJ.out]; omega) ?_
                rw [← HSJ.out]
                exact hjD
              have hgl : graphOf l k = pts l k (j + 1) := by rw [HGK.out, hj1]
              have HGL := Lib.hid hgl
              clear hj1 hgl
              have hend' : decide ((D : Int) ≤ (D : Int)) = true := decide_eq_true (by omega)
              go_wp2_with fail
              go_ret2
              exact HV.out _ _ (HF1.out.trans HF2.out) ⟨A2, c2, w1.heap.size, by rw [HGL.out, pts_len]; rfl, by rw [HGL.out, pts_len]; exact HROW2.out, by rw [HGL.out, pts_len]; omega⟩
            · have hm : min S D = D := Nat.min_eq_right (by omega)
              rw [hm] at x1
              clear hm
              go_wp2_with (at_builtin; go_must (refine wpList_append_own_at _ rfl (.tmp 28) (.tmp 37) 37 rfl w1.heap.size 3 i0 (.int .i64 0) 1 8 Tryd.underlying37 hi hz0 hz1 hz2 rfl (by decide) (.slice A' j c) j ((pts l k j).map numI) rfl ?hown ⟨wr.heap.size, 0, none⟩ 1 1 [numI (pgAt l S)] rfl rfl ?c1 ?c2 ?c3 ?c4 ?c5 ?_))
              case hown => exact World.ownsRow.alloc R1.out _
              case c1 => first | exact cell_one_at _ _ _ _ rfl | exact fun j u h => h
              case c2 => simp [Value.oneCell', numI]
              case c3 => unfold maxLen; omega
              case c4 => omega
              case c5 => first | omega | (simp; omega)
              intro v' w2 hown hgrow _ hwhere
              obtain ⟨A2, c2, rfl, -⟩ := row_slice hown
              have hf2 : Fr No w1 w2 := by
                have hf := nums_grown hbase (m := w1.heap.size) (fun k hk => (R1.out.lt k hk).1) hbase hgrow
                exact R2.out.then hf fun i hi hi2 => absurd hi2 (by omega)
              have hrow2 : w2.ownsRow w1.heap.size 3 1 (.slice A2 (j + 1) c2) (j + 1) ((pts l k (j + 1)).map numI) := by
                rw [pts_succ, ← HSJ.out, List.map_append]; exact hown
              have HF2 := Lib.hid hf2
              have HROW2 := Lib.hid hrow2
              clear hown hgrow hwhere hf2 hrow2 x1
              have hj1 : stepsN D k = j + 1 := by
                refine stepsN_is hk0 (by rw [← HSJ.out]; omega) ?_
                rw [← HSJ.out]
                exact hjD
              have hgl : graphOf l k = pts l k (j + 1) := by rw [HGK.out, hj1]
              have HGL := Lib.hid hgl
              clear hj1 hgl
              have hend' : decide ((D : Int) ≤ (S : Int)) = true := decide_eq_true (by omega)
              go_wp2_with fail
              go_ret2
              exact HV.out _ _ (HF1.out.trans HF2.out) ⟨A2, c2, w1.heap.size, by rw [HGL.out, pts_len]; rfl, by rw [HGL.out, pts_len]; exact HROW2.out, by rw [HGL.out, pts_len]; omega⟩
    · have HV : Hid (∀ en w', Fr No w w' → en = .returned (.tuple #[.slice none 0 0, .int .i64 2]) → GraphPost w l s en w') := by
        intro en w' hf he
        unfold GraphPost gOf gErr
        rw [hpl]
        simp only [if_neg hs]
        exact ⟨hf, none, 0, 0, he, World.ownsRow_nil _ _ _ _, by simp⟩
      have HBT : Hid ((decide ((1 : Int) ≤ s) && decide (s ≤ 20000)) = false) := by unfold Hid; rw [Bool.and_eq_false_iff, decide_eq_false_iff_not, decide_eq_false_iff_not]; omega
      clear hpl hrow hbd
      go_wp2_with fail
      refine (between_is 1 s 20000 _ HBT.out w1).mono ?_
      rintro en w2 ⟨rfl, rfl⟩
      go_wp2_with fail
      go_ret2
      exact HV.out _ _ HF1.out rfl
end Go.Proofs.YtnloffjjlhhanaaDoor
