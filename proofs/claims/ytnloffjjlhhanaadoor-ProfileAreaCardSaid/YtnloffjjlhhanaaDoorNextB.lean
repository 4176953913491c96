/- film.next: the other events. -/
import Derived.Test.YtnloffjjlhhanaaDoorNext
set_option linter.unusedVariables false
set_option linter.unusedSimpArgs false
namespace Go.Proofs.YtnloffjjlhhanaaDoor
open Go.RowKit
open Go.Proofs

theorem close_no (s : St) (e : Ev) (h : canClose s e = false) : decide (1 < (s.op.length : Int)) = false ∨ (decide (1 < (s.op.length : Int)) = true ∧ ((s.lf.getD s.last default).life == e.life) = false) ∨
    (decide (1 < (s.op.length : Int)) = true ∧ ((s.lf.getD s.last default).life == e.life) = true ∧ (e.words == 0) = false) := by
  unfold canClose at h
  by_cases h1 : 1 < s.op.length
  · have : 1 < (s.op.length : Int) := by omega
    cases h2 : ((s.lf.getD s.last default).life == e.life) <;> cases h3 : (e.words == 0) <;> simp_all
  · exact .inl (by simp; omega)

set_option maxRecDepth 100000 in
set_option maxHeartbeats 4000000 in
theorem next_close (B : Nat) (w : World) (F : Film) (s : St) (A : Option Addr) (cap : Nat) (e : Ev) (r : List Ev) (h : NextPre B w F s A e r) (hk0 : isOpen e = false) (hk : isClose e = true) :
    Calls Tryd.prog 41 #[.pointer (some ⟨F.f, 0, none⟩), .slice A (r.length + 1) cap] w (NextPost B F w (s.next (e :: r))) := by
  obtain ⟨b, off, rfl, hbB, hbl, e0, e1, e2, e3⟩ := h.evs 0 e rfl
  simp only [Nat.zero_mul, Nat.add_zero] at e0 e1 e2 e3
  have k0 : (e.act.toList == [111, 112, 101, 110]) = false := hk0
  have k1 : (e.act.toList == [99, 108, 111, 115, 101]) = true := hk
  have c0 : w.cell? ⟨F.f, 0, none⟩ = some (.slice F.Ao s.op.length F.co) := h.film.blk.cell 0
  have hfl := h.film.blk.lt
  have hop := h.op
  have HK := Lib.hid hk
  have HK0 := Lib.hid hk0
  have HP := Lib.hid h
  clear hk hk0 h
  cases hcb : canClose s e with
  | false =>
    have HN : Hid (s.next (e :: r) = none) := by unfold Hid; simp [St.next, HK.out, HK0.out, hcb]
    rcases close_no s e hcb with g1 | ⟨g1, g2⟩ | ⟨g1, g2, g3⟩
    · clear hcb
      go_enter Tryd.func41, Tryd.ntmps41
      go_wp2_with fail
      go_quiet (fail)
      go_wp2_with fail
      go_ret
      rw [HN.out]
      exact ⟨rfl, ((Fr.refl _ _).alloc _).drewN _⟩
    all_goals
      have hgt : 1 < s.op.length := by simp at g1; omega
      have hji : s.op[s.op.length - 1]? = some (s.op[s.op.length - 1]'(by omega)) := List.getElem?_eq_getElem _
      have hlast : s.last = s.op[s.op.length - 1]'(by omega) := by unfold St.last; rw [List.getD_eq_getElem?_getD, hji]; rfl
      rw [← hlast] at hji
      obtain ⟨g, k, x, hAo, hcj, -, hbk, hx, hb1, hgl⟩ := HP.out.film.open_at hji
      have egx : s.lf.getD s.last default = x := by rw [List.getD_eq_getElem?_getD, hx]; rfl
      have l2 : w.cell? ⟨k, 2, none⟩ = some (.int .i64 x.life) := hb1.cell 2
      have hkl := hb1.lt
      rw [hAo] at c0
      rw [egx] at g2
      obtain ⟨n, hn⟩ : ∃ n, s.op.length = n + 1 := ⟨s.op.length - 1, by omega⟩
      have hnb : n ≤ 10000 := by omega
      rw [hn] at c0 hcj
      simp only [Nat.add_sub_cancel] at hcj
      have g1' : decide (0 < n) = true := by simp; omega
      clear hcb hx hbk hb1 hAo hji hlast egx hn
      go_enter Tryd.func41, Tryd.ntmps41
      go_wp2_with fail
      go_quiet (fail)
      go_wp2_with fail
      go_ret
      rw [HN.out]
      exact ⟨rfl, ((Fr.refl _ _).alloc _).drewN _⟩
  | true =>
    have HN : Hid (s.next (e :: r) = some (s.close e, 1)) := by unfold Hid; simp [St.next, HK.out, HK0.out, hcb]
    have hcc : (1 < s.op.length ∧ ((s.lf.getD s.last default).life == e.life) = true) ∧ (e.words == 0) = true := by simpa [canClose] using hcb
    obtain ⟨⟨hgt, g2⟩, g3⟩ := hcc
    have hji : s.op[s.op.length - 1]? = some (s.op[s.op.length - 1]'(by omega)) := List.getElem?_eq_getElem _
    have hlast : s.last = s.op[s.op.length - 1]'(by omega) := by unfold St.last; rw [List.getD_eq_getElem?_getD, hji]; rfl
    rw [← hlast] at hji
    obtain ⟨g, k, x, hAo, hcj, -, hbk, hx, hb1, hgl⟩ := HP.out.film.open_at hji
    have egx : s.lf.getD s.last default = x := by rw [List.getD_eq_getElem?_getD, hx]; rfl
    have l2 : w.cell? ⟨k, 2, none⟩ = some (.int .i64 x.life) := hb1.cell 2
    have l4 : w.cell? ⟨k, 4, none⟩ = some (.int .i64 x.ended) := hb1.cell 4
    have z4 := hb1.free 4
    have z0 := HP.out.film.blk.free 0
    have hkl := hb1.lt
    rw [hAo] at c0
    rw [egx] at g2
    obtain ⟨n, hn⟩ : ∃ n, s.op.length = n + 1 := ⟨s.op.length - 1, by omega⟩
    have hnb : n ≤ 10000 := by omega
    rw [hn] at c0 hcj
    simp only [Nat.add_sub_cancel] at hcj
    have g1' : decide (0 < n) = true := by simp; omega
    have hnc : n + 1 ≤ F.co := by
      rcases HP.out.film.rowo.2 with ⟨h1, h2⟩ | ⟨g', cap', cur, hv, _, _, h1, _⟩
      · omega
      · simp only [Value.slice.injEq] at hv; omega
    have hneF : F.f ≠ k := by
      rintro hh
      have h3 := HP.out.film.blk
      rw [hh] at h3
      unfold Blk at h3 hb1
      rw [hb1] at h3
      simp at h3
    have HX := Lib.hid hx
    have HBK := Lib.hid hbk
    have HB1 := Lib.hid hb1
    have HAo := Lib.hid hAo
    have HN2 := Lib.hid hn
    have HEX := Lib.hid egx
    clear hcb hx hbk hb1 hAo hji hlast egx hn hgt
    go_enter Tryd.func41, Tryd.ntmps41
    go_wp2_with fail
    go_quiet (fail)
    go_wp2_with fail
    have q1 : (n : Int) < (n : Int) + 1 := by omega
    have q2 : (0 : Int) ≤ (n : Int) := by omega
    refine region_tail 9 (by kernel_rfl) (by kernel_rfl) ?_
    simp only [List.take_succ_cons, List.take_zero, List.drop_succ_cons, List.drop_zero]
    repeat still_step
    refine wpStill_nil ?_
    go_wp2_with fail
    go_ret
    rw [HN.out]
    have h2 := HP.out.film.fr0 (((Fr.refl No w).alloc (.cells e.val.cells 52)).drewN (nq + 1))
    have h3 := h2.setLife (y := { x with ended := e.step }) HBK.out HX.out ((Fr.refl _ _).put 4 (.int .i64 e.step)) (Blk.cast ((((HB1.out.alloc (.cells e.val.cells 52)).drewN (nq + 1)).set 4 (.int .i64 e.step))) (by simp [Lf.cells]))
    have h4 := h3.popOpen (n := n) HN2.out.symm
    rw [HAo.out] at h4
    refine ⟨rfl, F, rfl, ?_, ?_, fun j hj => .inl hj⟩
    · have hf3 : Fr F.foot w ((w.alloc (.cells e.val.cells 52)).drewN (nq + 1)) := ((Fr.refl _ _).alloc _).drewN _
      have hf4 := Fr.setCell (a := ⟨k, 4, none⟩) hf3 (.inl (.inr (.inr (.inr (List.mem_of_getElem? HBK.out))))) (.int .i64 e.step)
      exact Fr.setCell (a := ⟨F.f, 0, none⟩) hf4 (.inl (.inl rfl)) _
    · have e5 : s.close e = { lf := s.lf.set s.last { x with ended := e.step }, op := s.op.take n } := by unfold St.close; rw [HEX.out, HN2.out]; rfl
      rw [e5]
      exact h4
end Go.Proofs.YtnloffjjlhhanaaDoor
