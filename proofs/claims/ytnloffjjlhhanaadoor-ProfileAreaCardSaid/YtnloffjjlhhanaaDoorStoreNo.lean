/- film.store where it says no, and both together. -/
import Derived.Test.YtnloffjjlhhanaaDoorStore
set_option linter.unusedVariables false
set_option linter.unusedSimpArgs false
namespace Go.Proofs.YtnloffjjlhhanaaDoor
open Go.RowKit
open Go.Proofs

def St.store (s : St) (e : Ev) : Option St :=
  if s.at e.life < 0 then none else
  if 2 ≤ e.words ∧ e.words ≤ 32 then
    match s.op[(s.at e.life).toNat]? with
    | none => none
    | some i => match s.lf[i]? with
      | none => none
      | some x => if x.may e.words then some { s with lf := s.lf.set i (x.put e.words) } else none
  else none

set_option maxRecDepth 100000 in
set_option maxHeartbeats 2000000 in
theorem store_no1 (B : Nat) (w : World) (F : Film) (s : St) (e : Ev) (h : FilmAt B w F s) (hop : s.op.length ≤ 10000)
    (hat : s.at e.life < 0 ∨ (¬ s.at e.life < 0 ∧ (decide (2 ≤ e.words) && decide (e.words ≤ 32)) = false)) :
    Calls Tryd.prog 56 #[.pointer (some ⟨F.f, 0, none⟩), e.val] w fun en w' => en = .returned (.bool false) ∧ Fr No w w' := by
  unfold Ev.val
  go_enter Tryd.func56, Tryd.ntmps56
  go_wp2_with fail
  refine (film_at B _ F s _ (h.fr0 ((Fr.refl _ _).alloc _)) hop).mono ?_
  rintro en w1 ⟨rfl, hfr⟩
  generalize s.at e.life = j at *
  have hbox : Blk w1 w.heap.size #[.int .i64 e.step, .int .i64 e.life, .int .i64 e.words, .string e.act] 52 := hfr.blk (Blk.new _ _ _) (fun hh => hh)
  have x2 := hbox.cell 2
  have hbl := hbox.lt
  have hfr0 : Fr No w w1 := ((Fr.refl No w).alloc _).trans hfr
  have H0 := Lib.hid hfr0
  clear hfr0 hfr hbox h
  rcases hat with hat | ⟨hat, hb⟩
  · go_wp2_with fail
    go_ret
    exact ⟨rfl, H0.out⟩
  · have H1 := Lib.hid hb
    clear hb
    go_wp2_with (go_at_call 28; refine (between_is _ _ _ false H1.out _).mono ?_; rintro e w' ⟨rfl, rfl⟩)
    go_ret
    exact ⟨rfl, H0.out⟩

set_option maxRecDepth 100000 in
set_option maxHeartbeats 2000000 in
theorem store_no2 (B : Nat) (w : World) (F : Film) (s : St) (e : Ev) (h : FilmAt B w F s) (hop : s.op.length ≤ 10000) (j i : Nat) (x : Lf)
    (hat : s.at e.life = j) (hji : s.op[j]? = some i) (hix : s.lf[i]? = some x) (hw0 : 2 ≤ e.words) (hw1 : e.words ≤ 32) (hmay : x.may e.words = false) (hsm : x.small) :
    Calls Tryd.prog 56 #[.pointer (some ⟨F.f, 0, none⟩), e.val] w fun en w' => en = .returned (.bool false) ∧ Fr No w w' := by
  obtain ⟨b0, b1, b2, b3, b4, b5, b6, b7, b8, b9⟩ := hsm
  have hjl : j < s.op.length := (List.getElem?_eq_some_iff.1 hji).1
  unfold Ev.val
  go_enter Tryd.func56, Tryd.ntmps56
  go_wp2_with fail
  refine (film_at B _ F s _ (h.fr0 ((Fr.refl _ _).alloc _)) hop).mono ?_
  rintro en w1 ⟨rfl, hfr⟩
  rw [hat]
  have h1 := (h.fr0 ((Fr.refl No w).alloc _)).fr0 hfr
  have hfr0 : Fr No w w1 := ((Fr.refl No w).alloc _).trans hfr
  have hbox : Blk w1 w.heap.size #[.int .i64 e.step, .int .i64 e.life, .int .i64 e.words, .string e.act] 52 := hfr.blk (Blk.new _ _ _) (fun hh => hh)
  have x2 := hbox.cell 2
  have hbl := hbox.lt
  have c0 := h1.blk.cell 0
  have hfl := h1.blk.lt
  obtain ⟨g, k, x', hAo, hcj, -, hbk, hx', hbk1, hgl⟩ := h1.open_at hji
  rw [hix] at hx'
  simp only [Option.some.injEq] at hx'
  subst hx'
  rw [hAo] at c0
  have l0 : w1.cell? ⟨k, 0, none⟩ = some (.int .i64 x.words) := hbk1.cell 0
  have l5 : w1.cell? ⟨k, 5, none⟩ = some (.int .i64 x.objs) := hbk1.cell 5
  have H0 := Lib.hid hfr0
  clear h1 hfr0 hfr hbk1 hbk hix hat h hji hAo
  have hg : decide (0 < x.words) = true ∧ (decide (0 < x.objs) = true ∨ (decide (0 < x.objs) = false ∧ decide (x.words + 1 < e.words) = true)) := by
    have := hmay
    unfold Lf.may at this
    by_cases h1 : 0 < x.words <;> by_cases h2 : 0 < x.objs <;> by_cases h3 : x.words + 1 < e.words <;> simp_all
  clear hmay
  obtain ⟨hg, hg1 | ⟨hg1, hg2⟩⟩ := hg
  all_goals
    go_wp2_with (go_at_call 28; refine (between_is _ _ _ true (by simp [hw0, hw1]) _).mono ?_; rintro e w' ⟨rfl, rfl⟩)
    go_quiet (fail)
    go_wp2_with fail
    go_ret
    exact ⟨rfl, H0.out.drewN _⟩

theorem film_store (B : Nat) (w : World) (F : Film) (s : St) (e : Ev) (h : FilmAt B w F s) (hop : s.op.length ≤ 10000) (hB : B ≤ w.heap.size) (hsm : ∀ x ∈ s.lf, x.small) :
    Calls Tryd.prog 56 #[.pointer (some ⟨F.f, 0, none⟩), e.val] w fun en w' => (∃ s', s.store e = some s' ∧ en = .returned (.bool true) ∧ Fr F.foot w w' ∧ FilmAt B w' F s') ∨ (s.store e = none ∧ en = .returned (.bool false) ∧ Fr No w w') := by
  by_cases h0 : s.at e.life < 0
  · exact (store_no1 B w F s e h hop (.inl h0)).mono fun en w' ⟨h1, h2⟩ => .inr ⟨by simp [St.store, h0], h1, h2⟩
  · by_cases h1 : 2 ≤ e.words ∧ e.words ≤ 32
    · obtain ⟨j, hj⟩ : ∃ j : Nat, s.at e.life = j := ⟨(s.at e.life).toNat, by omega⟩
      have hp := fidx_at _ j hj
      rw [List.getElem?_map] at hp
      cases hi : s.op[j]? with
      | none => rw [hi] at hp; cases hp
      | some i =>
        have hil := h.opens i (List.mem_of_getElem? hi)
        have hx : s.lf[i]? = some s.lf[i] := List.getElem?_eq_getElem hil
        have hs := hsm _ (List.mem_of_getElem? hx)
        cases hm : (s.lf[i]).may e.words with
        | true =>
          refine (store_yes B w F s e h hop hB j i _ hj hi hx h1.1 h1.2 hm hs).mono fun en w' ⟨h2, h3, h4⟩ => .inl ⟨_, ?_, h2, h3, h4⟩
          rw [St.store, if_neg h0, if_pos h1, hj]
          simp only [Int.toNat_natCast, hi, hx, hm, if_true]
        | false =>
          refine (store_no2 B w F s e h hop j i _ hj hi hx h1.1 h1.2 hm hs).mono fun en w' ⟨h2, h3⟩ => .inr ⟨?_, h2, h3⟩
          rw [St.store, if_neg h0, if_pos h1, hj]
          simp [Int.toNat_natCast, hi, hx, hm]
    · refine (store_no1 B w F s e h hop (.inr ⟨h0, ?_⟩)).mono fun en w' ⟨h2, h3⟩ => .inr ⟨by simp [St.store, h0, h1], h2, h3⟩
      by_cases a : 2 ≤ e.words <;> by_cases b : e.words ≤ 32 <;> simp_all
end Go.Proofs.YtnloffjjlhhanaaDoor
