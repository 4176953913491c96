/- film.next: store, reset, collect, others; and all together. -/
import Derived.Test.YtnloffjjlhhanaaDoorNextB
set_option linter.unusedVariables false
set_option linter.unusedSimpArgs false
namespace Go.Proofs.YtnloffjjlhhanaaDoor
open Go.RowKit
open Go.Proofs

set_option maxRecDepth 100000 in
set_option maxHeartbeats 4000000 in
theorem next_rest (B : Nat) (w : World) (F : Film) (s : St) (A : Option Addr) (cap : Nat) (e : Ev) (r : List Ev) (h : NextPre B w F s A e r) (hk0 : isOpen e = false) (hk1 : isClose e = false) :
    Calls Tryd.prog 41 #[.pointer (some ⟨F.f, 0, none⟩), .slice A (r.length + 1) cap] w (NextPost B F w (s.next (e :: r))) := by
  have HP := Lib.hid h
  obtain ⟨b, off, rfl, hbB, hbl, e0, e1, e2, e3⟩ := h.evs 0 e rfl
  simp only [Nat.zero_mul, Nat.add_zero] at e0 e1 e2 e3
  have k0 : (e.act.toList == [111, 112, 101, 110]) = false := hk0
  have k1 : (e.act.toList == [99, 108, 111, 115, 101]) = false := hk1
  have HK0 := Lib.hid hk0
  have HK1 := Lib.hid hk1
  clear h hk0 hk1
  have hal : Fr No w (w.alloc (.cells e.val.cells 52)) := (Fr.refl _ _).alloc _
  have HAL := Lib.hid hal
  clear hal
  cases hk2 : isStore e with
  | true =>
    have HK2 := Lib.hid hk2
    have k2 : (e.act.toList == [115, 116, 111, 114, 101]) = true := hk2
    clear hk2
    go_enter Tryd.func41, Tryd.ntmps41
    go_wp2_with fail
    refine (film_store B _ F s e (HP.out.film.fr0 HAL.out) HP.out.op (by have := HP.out.base; simp; omega) HP.out.small).mono ?_
    rintro en w1 (⟨s', hs, rfl, hf, h1⟩ | ⟨hs, rfl, hf⟩)
    · have HN : Hid (s.next (e :: r) = some (s', 1)) := by unfold Hid; simp [St.next, HK0.out, HK1.out, HK2.out, hs]
      clear hs
      go_wp2_with fail
      go_ret
      rw [HN.out]
      exact ⟨rfl, F, rfl, HAL.out.then0 hf fun _ _ h => h, h1, fun k hk => .inl hk⟩
    · have HN : Hid (s.next (e :: r) = none) := by unfold Hid; simp [St.next, HK0.out, HK1.out, HK2.out, hs]
      clear hs
      go_wp2_with fail
      go_ret
      rw [HN.out]
      exact ⟨rfl, HAL.out.trans hf⟩
  | false =>
    have HK2 := Lib.hid hk2
    have k2 : (e.act.toList == [115, 116, 111, 114, 101]) = false := hk2
    clear hk2
    cases hk3 : isReset e with
    | true =>
      have HK3 := Lib.hid hk3
      have k3 : (e.act.toList == [114, 101, 115, 101, 116]) = true := hk3
      clear hk3
      go_enter Tryd.func41, Tryd.ntmps41
      go_wp2_with fail
      refine (film_reset B _ F s _ cap e r (HP.out.film.fr0 HAL.out) HP.out.op HP.out.lf (by have := HP.out.base; simp; omega) (HP.out.evs.fr0 HAL.out) HP.out.len).mono ?_
      rintro en w1 (⟨hs, rfl, hf⟩ | ⟨s', F', hs, rfl, hff, hf, h1, h2⟩)
      · have HN : Hid (s.next (e :: r) = none) := by unfold Hid; simp [St.next, HK0.out, HK1.out, HK2.out, HK3.out, hs]
        clear hs
        go_wp2_with fail
        go_ret
        rw [HN.out]
        exact ⟨rfl, HAL.out.trans hf⟩
      · have HN : Hid (s.next (e :: r) = some (s', 2)) := by unfold Hid; simp [St.next, HK0.out, HK1.out, HK2.out, HK3.out, hs]
        have H2 := Lib.hid h2
        clear hs h2
        go_wp2_with fail
        go_ret
        rw [HN.out]
        refine ⟨rfl, F', hff, HAL.out.then0 hf fun _ _ h => h, h1, fun k hk => ?_⟩
        rcases H2.out k hk with h3 | h3
        · exact .inl h3
        · simp at h3
          exact .inr (by omega)
    | false =>
      have HK3 := Lib.hid hk3
      have k3 : (e.act.toList == [114, 101, 115, 101, 116]) = false := hk3
      clear hk3
      cases hk4 : isCollect e with
      | true =>
        have HK4 := Lib.hid hk4
        have k4 : (e.act.toList == [99, 111, 108, 108, 101, 99, 116]) = true := hk4
        clear hk4
        go_enter Tryd.func41, Tryd.ntmps41
        go_wp2_with fail
        refine (film_collect B _ F s _ cap e r (HP.out.film.fr0 HAL.out) HP.out.op (HP.out.evs.fr0 HAL.out) HP.out.len).mono ?_
        rintro en w1 (⟨hs, rfl, hf⟩ | ⟨hs, rfl, hf, h1⟩)
        · have HN : Hid (s.next (e :: r) = none) := by unfold Hid; simp [St.next, HK0.out, HK1.out, HK2.out, HK3.out, HK4.out, hs]
          clear hs
          go_wp2_with fail
          go_ret
          rw [HN.out]
          exact ⟨rfl, HAL.out.trans hf⟩
        · have HN : Hid (s.next (e :: r) = some ({ s with lf := setFins s.lf r s.inf }, s.inf.length + 1)) := by unfold Hid; simp [St.next, HK0.out, HK1.out, HK2.out, HK3.out, HK4.out, hs]
          clear hs
          go_wp2_with fail
          go_ret
          rw [HN.out]
          exact ⟨rfl, F, rfl, HAL.out.then0 hf fun _ _ h => h, h1, fun k hk => .inl hk⟩
      | false =>
        have k4 : (e.act.toList == [99, 111, 108, 108, 101, 99, 116]) = false := hk4
        have HN : Hid (s.next (e :: r) = none) := by unfold Hid; simp [St.next, HK0.out, HK1.out, HK2.out, HK3.out, hk4]
        clear hk4
        go_enter Tryd.func41, Tryd.ntmps41
        go_wp2_with fail
        go_ret
        rw [HN.out]
        exact ⟨rfl, HAL.out⟩

theorem film_next (B : Nat) (w : World) (F : Film) (s : St) (A : Option Addr) (cap : Nat) (e : Ev) (r : List Ev) (h : NextPre B w F s A e r) :
    Calls Tryd.prog 41 #[.pointer (some ⟨F.f, 0, none⟩), .slice A (r.length + 1) cap] w (NextPost B F w (s.next (e :: r))) := by
  cases h0 : isOpen e with
  | true => exact next_open B w F s A cap e r h h0
  | false =>
    cases h1 : isClose e with
    | true => exact next_close B w F s A cap e r h h0 h1
    | false => exact next_rest B w F s A cap e r h h0 h1
end Go.Proofs.YtnloffjjlhhanaaDoor
