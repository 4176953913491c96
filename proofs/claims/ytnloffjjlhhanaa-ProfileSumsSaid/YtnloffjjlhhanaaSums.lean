/- The plain law: the words and the objects of all lifelines are those of all stores. -/
import Derived.Test.YtnloffjjlhhanaaPagesR
set_option linter.unusedVariables false
set_option linter.unusedSimpArgs false
namespace Go.Proofs.Ytnloffjjlhhanaa
open Go.RowKit
open Go.Proofs

def tot (f : Lf → Int) (lf : List Lf) : Int := (lf.map f).sum
theorem tot_set (f : Lf → Int) : ∀ (lf : List Lf) (i : Nat) (y : Lf), i < lf.length → tot f (lf.set i y) = tot f lf - f (lf.getD i default) + f y
  | [], i, y, h => by simp at h
  | x :: lf, 0, y, _ => by simp only [tot, List.set_cons_zero, List.map_cons, List.sum_cons, List.getD_cons_zero]; omega
  | x :: lf, i + 1, y, h => by
    have := tot_set f lf i y (by simpa using h)
    simp only [tot, List.set_cons_succ, List.map_cons, List.sum_cons, List.getD_cons_succ] at this ⊢
    omega
theorem tot_same (f : Lf → Int) (lf : List Lf) (i : Nat) (y : Lf) (hy : f y = f (lf.getD i default)) : tot f (lf.set i y) = tot f lf := by
  by_cases h : i < lf.length
  · rw [tot_set f lf i y h, hy]; omega
  · rw [List.set_eq_of_length_le (by omega)]
theorem tot_new (f : Lf → Int) (lf : List Lf) (y : Lf) : tot f (lf ++ [y]) = tot f lf + f y := by unfold tot; simp
def stW (e : Ev) : Int := if isStore e then e.words else 0
def stO (e : Ev) : Int := if isStore e then 1 else 0
theorem opened_tot (f : Lf → Int) (t : Tr) (e : Ev) (hf : f (newLf e) = 0) : tot f (t.opened e).st.lf = tot f t.st.lf := by
  unfold Tr.opened
  split
  · simp only [tot_new, hf]; omega
  · simp only [tot_new, hf]; omega
theorem add_tot {m : Nat} {t t' : Tr} {e : Ev} (h : TrOk m t) (ha : t.add e = some t') : tot Lf.wds t'.st.lf = tot Lf.wds t.st.lf + stW e ∧ tot Lf.objs t'.st.lf = tot Lf.objs t.st.lf + stO e := by
  have hb := h.bd
  unfold stW stO
  unfold Tr.add at ha
  split at ha
  · cases ha
  split at ha
  · rename_i ho
    rw [(open_only ho).2.1]
    split at ha
    · simp only [Option.some.injEq] at ha
      subst ha
      refine ⟨?_, ?_⟩
      · rw [opened_tot _ _ _ rfl]; simp
      · rw [opened_tot _ _ _ rfl]; simp
    · cases ha
  split at ha
  · rename_i hc
    rw [(collect_only hc).2.2.1]
    split at ha
    · simp only [Option.some.injEq] at ha
      subst ha
      simp
    · cases ha
  split at ha
  · rename_i hl
    rw [(left_only hl).2.2.1]
    split at ha
    · simp only [Option.some.injEq] at ha
      subst ha
      refine ⟨?_, ?_⟩
      · simp only [Bool.false_eq_true, if_false, Int.add_zero]; exact tot_same _ _ _ _ rfl
      · simp only [Bool.false_eq_true, if_false, Int.add_zero]; exact tot_same _ _ _ _ rfl
    · cases ha
  split at ha
  · cases ha
  rename_i hpl
  obtain ⟨j, hj⟩ : ∃ j : Nat, t.place e.life = j := ⟨(t.place e.life).toNat, by omega⟩
  obtain ⟨i, hi, -, -⟩ := place_at hj
  have ei : t.st.op.getD (t.place e.life).toNat 0 = i := by rw [hj, Int.toNat_natCast, List.getD_eq_getElem?_getD, hi]; rfl
  have hil := hb.opens i (List.mem_of_getElem? hi)
  simp only [ei] at ha
  split at ha
  · rename_i hs
    rw [hs]
    split at ha
    · simp only [Option.some.injEq] at ha
      subst ha
      simp only [if_true]
      refine ⟨?_, ?_⟩
      · rw [tot_set _ _ _ _ hil]; unfold Tr.life Lf.put; simp only; omega
      · rw [tot_set _ _ _ _ hil]; unfold Tr.life Lf.put; simp only; omega
    · cases ha
  rename_i hs
  have hs' : isStore e = false := by simpa using hs
  rw [hs']
  simp only [Bool.false_eq_true, if_false, Int.add_zero]
  split at ha
  · split at ha
    · simp only [Option.some.injEq] at ha
      subst ha
      exact ⟨tot_same _ _ _ _ rfl, tot_same _ _ _ _ rfl⟩
    · cases ha
  split at ha
  · split at ha
    · simp only [Option.some.injEq] at ha
      subst ha
      exact ⟨tot_same _ _ _ _ rfl, tot_same _ _ _ _ rfl⟩
    · cases ha
  · cases ha
theorem adds_tot : ∀ (l : List Ev) (m : Nat) (t t' : Tr), TrOk m t → t.adds l = some t' → tot Lf.wds t'.st.lf = tot Lf.wds t.st.lf + (l.map stW).sum ∧ tot Lf.objs t'.st.lf = tot Lf.objs t.st.lf + (l.map stO).sum
  | [], m, t, t', h, ha => by simp only [Tr.adds, Option.some.injEq] at ha; subst ha; simp
  | e :: l, m, t, t', h, ha => by
    obtain ⟨u, h1, h2⟩ := adds_cons_inv ha
    have h3 := add_tot h h1
    have h4 := adds_tot l (m + 1) u t' (add_ok h h1) h2
    simp only [List.map_cons, List.sum_cons]
    omega
theorem sums_same {l : List Ev} {tr : List (St × Int)} (hl : l.length ≤ 2000) (h : playP l = some tr) : tot Lf.wds (finalOf tr).lf = (l.map stW).sum ∧ tot Lf.objs (finalOf tr).lf = (l.map stO).sum := by
  obtain ⟨r, s, hfin⟩ := (play_good hl h).fin
  rw [lastSt_final] at hfin
  have := adds_tot l 0 _ _ Tr.init_ok hfin
  have e1 : tot Lf.wds Tr.init.st.lf = 0 := rfl
  have e2 : tot Lf.objs Tr.init.st.lf = 0 := rfl
  have e3 : (Tr.of (finalOf tr) r s).st = finalOf tr := rfl
  rw [e3] at this
  omega
theorem store_words {l : List Ev} {tr : List (St × Int)} (hl : l.length ≤ 2000) (h : playP l = some tr) {e : Ev} (he : e ∈ l) : 0 ≤ stW e ∧ stW e ≤ 32 := by
  obtain ⟨r, s, hfin⟩ := (play_good hl h).fin
  have hfin' : Tr.init.adds l = _ := hfin
  obtain ⟨k, hk, he'⟩ := List.mem_iff_getElem.1 he
  have hx : l[k]? = some e := by rw [List.getElem?_eq_getElem hk, he']
  obtain ⟨y, hy⟩ := adds_prefix hfin' k
  obtain ⟨z, hz, -⟩ := adds_next hfin' hy hx
  unfold stW
  cases hs : isStore e
  · simp
  · obtain ⟨k1, k2, k3, k4, k5⟩ := store_only hs
    unfold Tr.add at hz
    split at hz
    · cases hz
    simp only [k1, k4, k5, hs, Bool.false_eq_true, if_false, if_true] at hz
    split at hz
    · cases hz
    split at hz
    · rename_i hc
      simp only [Bool.and_eq_true, decide_eq_true_eq] at hc
      simp only [if_true]
      omega
    · cases hz
theorem now_most {l : List Ev} {tr : List (St × Int)} (hl : l.length ≤ 2000) (h : playP l = some tr) (st : Int) : (nowOf st tr).pages ≤ mostOf tr := by
  rw [nowOf_play hl h]
  obtain ⟨h1, h2⟩ := mostOf_le tr 0
  rcases lastSt_mem (tr.takeWhile fun y => decide (y.2 ≤ st)) St.init with h3 | ⟨x, hx, h3⟩
  · rw [h3]; exact h2
  · rw [h3]; exact h1 x ((List.takeWhile_prefix _).subset hx)
/-- Sums so far. -/
def sumT {α : Type} (f : α → Int) (xs : List α) (k : Nat) : Int := ((xs.take k).map f).sum
theorem sumT_succ {α : Type} {f : α → Int} {xs : List α} {k : Nat} {x : α} (h : xs[k]? = some x) : sumT f xs (k + 1) = sumT f xs k + f x := by
  unfold sumT; rw [List.take_add_one, h]; simp
theorem sumT_bd {α : Type} {f : α → Int} {xs : List α} {c : Nat} (h : ∀ x ∈ xs, 0 ≤ f x ∧ f x ≤ c) : ∀ k : Nat, 0 ≤ sumT f xs k ∧ sumT f xs k ≤ k * c
  | 0 => by simp [sumT]
  | k + 1 => by
    have ih := sumT_bd h k
    have hmul : ((k + 1 : Nat) : Int) * (c : Int) = (k : Int) * c + c := by rw [Int.natCast_succ, Int.add_mul, Int.one_mul]
    rw [hmul]
    cases e : xs[k]? with
    | none =>
      have : sumT f xs (k + 1) = sumT f xs k := by unfold sumT; rw [List.take_add_one, e]; simp
      rw [this]; omega
    | some x =>
      rw [sumT_succ e]
      have := h x (List.mem_of_getElem? e)
      omega
theorem sumT_all {α : Type} (f : α → Int) (xs : List α) : sumT f xs xs.length = (xs.map f).sum := by unfold sumT; rw [List.take_length]
end Go.Proofs.Ytnloffjjlhhanaa
