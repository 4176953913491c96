/- Pages and Open, of the program and of the reference. -/
import Derived.Test.YtnloffjjlhhanaaAskedC
set_option linter.unusedVariables false
set_option linter.unusedSimpArgs false
namespace Go.Proofs.Ytnloffjjlhhanaa
open Go.RowKit
open Go.Proofs

theorem runs_inv : ∀ (fuel : Nat) (s : St) (m : Nat) (l : List Ev) (tr : List (St × Int)), Inv s → Bd m s → runs fuel s l = some tr → ∀ x ∈ tr, Inv x.1 := by
  intro fuel
  induction fuel with
  | zero => intro s m l tr hi hb hr; simp [runs] at hr
  | succ fuel ih =>
    intro s m l tr hi hb hr
    cases l with
    | nil => simp only [runs, Option.some.injEq] at hr; subst hr; intro x hx; cases hx
    | cons e r =>
      simp only [runs] at hr
      split at hr
      · cases hr
      split at hr
      · cases hr
      rename_i s' n hn
      cases hr2 : runs fuel s' ((e :: r).drop n) with
      | none => rw [hr2] at hr; cases hr
      | some tr' =>
        rw [hr2] at hr
        simp only [Option.map_some, Option.some.injEq] at hr
        subst hr
        have hi' := next_inv hi hb hn
        intro x hx
        rcases List.mem_cons.1 hx with rfl | hx
        · exact hi'
        · exact ih s' (m + n) _ tr' hi' (next_bd hb hn).1 hr2 x hx
theorem lastSt_mem : ∀ (tr : List (St × Int)) (s : St), lastSt s tr = s ∨ ∃ x ∈ tr, lastSt s tr = x.1
  | [], s => .inl rfl
  | x :: tr, s => by
    simp only [lastSt]
    rcases lastSt_mem tr x.1 with h | ⟨y, hy, h⟩
    · exact .inr ⟨x, List.mem_cons_self, h⟩
    · exact .inr ⟨y, List.mem_cons_of_mem _ hy, h⟩
theorem nowOf_inv {l : List Ev} {tr : List (St × Int)} (hl : l.length ≤ 2000) (h : playP l = some tr) (st : Int) : Inv (nowOf st tr) := by
  rw [nowOf_play hl h]
  have hall : ∀ x ∈ tr, Inv x.1 := by
    unfold playP at h
    split at h
    · exact runs_inv _ _ 0 l tr Inv.init Bd.init h
    · cases h
  rcases lastSt_mem (tr.takeWhile fun y => decide (y.2 ≤ st)) St.init with h1 | ⟨x, hx, h1⟩
  · rw [h1]; exact Inv.init
  · rw [h1]; exact hall x ((List.takeWhile_prefix _).subset hx)
theorem nowOf_adds {l : List Ev} {tr : List (St × Int)} (hl : l.length ≤ 2000) (h : playP l = some tr) {st : Int} (hst : 0 ≤ st) : ∃ room' st', Tr.init.adds (upto l st) = some (Tr.of (nowOf st tr) room' st') := by
  obtain ⟨r, s, h1⟩ := (play_good hl h).upto st hst
  rw [nowOf_play hl h]
  exact ⟨r, s, h1⟩
theorem nowOf_bd {l : List Ev} {tr : List (St × Int)} (hl : l.length ≤ 2000) (h : playP l = some tr) {st : Int} (hst : 0 ≤ st) : Bd 2000 (nowOf st tr) := by
  obtain ⟨r, s, h1⟩ := nowOf_adds hl h hst
  have h2 := (adds_ok _ 0 _ _ Tr.init_ok h1).bd
  have hlen : (upto l st).length ≤ l.length := (List.takeWhile_prefix _).length_le
  exact Bd.mono h2 (by omega)
theorem snapAll_len (s : St) : (snapAll s).length = s.op.length := snap_len s (Nat.le_refl _)
theorem snapAll_sum (s : St) : ((snapAll s).map Lf.now).sum = s.pages := by unfold snapAll snapOf St.pages; rw [List.take_length, List.map_map]; rfl
theorem snapAll_bd {m : Nat} {s : St} (h : Bd m s) : ∀ x ∈ snapAll s, 0 ≤ x.fin ∧ x.fin ≤ 64 * m := by
  intro x hx
  unfold snapAll snapOf at hx
  rw [List.take_length, List.mem_map] at hx
  obtain ⟨i, hi, rfl⟩ := hx
  have := h.lives _ (getD_mem (h.opens i hi))
  omega
/-- The lives that are open, as numbers. -/
def nums (s : St) : List Int := s.op.map fun i : Nat => (i : Int) + 1
theorem nums_num (s : St) : (nums s).map numI = s.op.map num := by unfold nums; rw [List.map_map]; rfl
theorem snapAll_life {m : Nat} {s : St} (hi : Inv s) (hb : Bd m s) : (snapAll s).map Lf.life = nums s := by
  unfold snapAll snapOf nums
  rw [List.take_length, List.map_map]
  refine List.map_congr_left fun i hii => ?_
  exact hi.life i (hb.opens i hii)

def pgsN (l : List Ev) (st : Int) : Int := match playP l with | none => 0 | some tr => if st < 0 then 0 else (nowOf st tr).pages
def pgsE (l : List Ev) (st : Int) : Int := match playP l with | none => 100 | some _ => if st < 0 then 2 else 0
def opnN (l : List Ev) (st : Int) : List Int := match playP l with | none => [] | some tr => if st < 0 then [] else nums (nowOf st tr)
def OpenPost (w : World) (l : List Ev) (st : Int) (en : Ending) (w' : World) : Prop :=
  Fr No w w' ∧ ∃ A c B, en = .returned (.tuple #[.slice A (opnN l st).length c, .int .i64 (pgsE l st)]) ∧ w'.ownsRow B 3 1 (.slice A (opnN l st).length c) (opnN l st).length ((opnN l st).map numI) ∧ (opnN l st).length ≤ 4000

set_option maxRecDepth 100000 in
set_option maxHeartbeats 2000000 in
theorem progPages (w : World) (A : Option Addr) (cap : Nat) (l : List Ev) (st : Int) (hev : Evs w.heap.size w A l) (hl : l.length ≤ 2000) (hcap : l.length ≤ cap) :
    Calls Try.prog 24 #[.slice A l.length cap, .int .i64 st] w fun e w' => Fr No w w' ∧ e = .returned (.tuple #[.int .i64 (pgsN l st), .int .i64 (pgsE l st)]) := by
  have HA := Lib.hid (asked_any w A cap l st hev hl hcap)
  have HL := Lib.hid hl
  clear hev
  go_enter Try.func24, Try.ntmps24
  go_wp2_with fail
  refine HA.out.mono ?_
  intro en w1 hp
  unfold AskedPost at hp
  have HF1 := Lib.hid hp.1
  cases hpl : playP l with
  | none =>
    have HV : Hid (pgsN l st = 0 ∧ pgsE l st = 100) := by unfold Hid pgsN pgsE; rw [hpl]; exact ⟨rfl, rfl⟩
    rw [hpl] at hp
    obtain ⟨-, rfl⟩ := hp
    clear hpl
    go_wp2_with fail
    go_ret2
    exact ⟨HF1.out, by rw [HV.out.1, HV.out.2]; rfl⟩
  | some tr =>
    rw [hpl] at hp
    by_cases hst : st < 0
    · have HV : Hid (pgsN l st = 0 ∧ pgsE l st = 2) := by unfold Hid pgsN pgsE; rw [hpl]; simp only [if_pos hst]; exact ⟨trivial, trivial⟩
      simp only [if_pos hst] at hp
      obtain ⟨-, rfl⟩ := hp
      clear hpl
      go_wp2_with fail
      go_ret2
      exact ⟨HF1.out, by rw [HV.out.1, HV.out.2]; rfl⟩
    · have HV : Hid (pgsN l st = (nowOf st tr).pages ∧ pgsE l st = 0) := by unfold Hid pgsN pgsE; rw [hpl]; simp only [if_neg hst]; exact ⟨trivial, trivial⟩
      simp only [if_neg hst] at hp
      obtain ⟨-, b3, b6, fb, A1, c1, bl1, rfl, hS⟩ := hp
      have hb := nowOf_bd HL.out hpl (st := st) (by omega)
      have HP := Lib.hid (snap_pages hS (by rw [snapAll_len]; have := hb.op; omega) (fun x hx => by have := snapAll_bd hb x hx; omega))
      rw [snapAll_sum] at HP
      clear hpl hS hb
      go_wp2_with fail
      refine HP.out.mono ?_
      rintro en w2 ⟨rfl, rfl⟩
      go_wp2_with fail
      go_ret2
      exact ⟨HF1.out, by rw [HV.out.1, HV.out.2]; rfl⟩

set_option maxRecDepth 100000 in
set_option maxHeartbeats 2000000 in
theorem progOpen (w : World) (A : Option Addr) (cap : Nat) (l : List Ev) (st : Int) (hev : Evs w.heap.size w A l) (hl : l.length ≤ 2000) (hcap : l.length ≤ cap) :
    Calls Try.prog 26 #[.slice A l.length cap, .int .i64 st] w (OpenPost w l st) := by
  obtain ⟨i0, hi, hz0, hz1, hz2⟩ := info_parts info_int
  have HA := Lib.hid (asked_any w A cap l st hev hl hcap)
  have HL := Lib.hid hl
  clear hev
  go_enter Try.func26, Try.ntmps26
  go_wp2_with fail
  refine HA.out.mono ?_
  intro en w1 hp
  unfold AskedPost at hp
  have HF1 := Lib.hid hp.1
  cases hpl : playP l with
  | none =>
    have HV : Hid (∀ en w', Fr No w w' → en = .returned (.tuple #[.slice none 0 0, .int .i64 100]) → OpenPost w l st en w') := by
      intro en w' hf he
      unfold OpenPost opnN pgsE
      rw [hpl]
      exact ⟨hf, none, 0, 0, he, World.ownsRow_nil _ _ _ _, by simp⟩
    rw [hpl] at hp
    obtain ⟨-, rfl⟩ := hp
    clear hpl
    go_wp2_with fail
    go_ret2
    exact HV.out _ _ HF1.out rfl
  | some tr =>
    rw [hpl] at hp
    by_cases hst : st < 0
    · have HV : Hid (∀ en w', Fr No w w' → en = .returned (.tuple #[.slice none 0 0, .int .i64 2]) → OpenPost w l st en w') := by
        intro en w' hf he
        unfold OpenPost opnN pgsE
        rw [hpl]
        simp only [if_pos hst]
        exact ⟨hf, none, 0, 0, he, World.ownsRow_nil _ _ _ _, by simp⟩
      simp only [if_pos hst] at hp
      obtain ⟨-, rfl⟩ := hp
      clear hpl
      go_wp2_with fail
      go_ret2
      exact HV.out _ _ HF1.out rfl
    · simp only [if_neg hst] at hp
      obtain ⟨-, b3, b6, fb, A1, c1, bl1, rfl, hS⟩ := hp
      have hb := nowOf_bd HL.out hpl (st := st) (by omega)
      have hlife := snapAll_life (nowOf_inv HL.out hpl st) hb
      have hlen : (nums (nowOf st tr)).length = (snapAll (nowOf st tr)).length := by rw [← hlife]; simp
      have hlen4 : (snapAll (nowOf st tr)).length ≤ 4000 := by rw [snapAll_len]; have := hb.op; omega
      have HV : Hid (∀ en w', Fr No w w' → (∃ A c B, en = .returned (.tuple #[.slice A (snapAll (nowOf st tr)).length c, .int .i64 0]) ∧ w'.ownsRow B 3 1 (.slice A (snapAll (nowOf st tr)).length c) (snapAll (nowOf st tr)).length ((snapAll (nowOf st tr)).map fun x => numI x.life)) → OpenPost w l st en w') := by
        intro en w' hf he
        unfold OpenPost opnN pgsE
        rw [hpl]
        simp only [if_neg hst]
        rw [hlen]
        obtain ⟨A, c, B, h1, h2⟩ := he
        refine ⟨hf, A, c, B, h1, ?_, hlen4⟩
        rw [← hlife, List.map_map]
        exact h2
      generalize snapAll (nowOf st tr) = xs at *
      have c0 : w1.cell? ⟨fb, 0, none⟩ = some (.slice A1 xs.length c1) := hS.blk.cell 0
      have hfb := hS.blk.lt
      have HS := Lib.hid hS
      clear hpl hS hb hlife hlen
      go_wp2_with fail
      go_loopw [8, 25, 10] (fun ov iv _ wr => ∃ (k : Nat) (A : Option Addr) (c : Nat), iv = .int .i64 k ∧ k ≤ xs.length ∧ ov = .slice A k c ∧ Hid (wr.ownsRow w1.heap.size 3 1 (.slice A k c) k ((xs.take k).map fun x => numI x.life)) ∧ Hid (Fr No w1 wr)) (fun _ iv _ _ => xs.length - (intOf iv).toNat)
      case atStart => exact ⟨0, none, 0, rfl, by omega, rfl, World.ownsRow_nil _ _ _ _, Fr.refl _ _⟩
      case round =>
        obtain ⟨k, A', c, rfl, hk, rfl, R1, R2⟩ := hrel
        by_cases hlt2 : k < xs.length
        · have hx : xs[k]? = some (xs[k]'hlt2) := List.getElem?_eq_getElem _
          generalize (xs[k]'hlt2) = x at hx
          obtain ⟨g, q, hA, hc, hblk, hgl⟩ := (HS.out.fr fun j hj => R2.out.block j (HS.out.lt hj).2 (fun e => e.elim)).at_ hx
          subst hA
          have l2 : wr.cell? ⟨q, 2, none⟩ = some (.int .i64 x.life) := hblk.cell 2
          have hql := hblk.lt
          have HX := Lib.hid hx
          have hbase := R2.out.size
          clear hx hblk
          go_wp2_with (at_builtin; go_must (refine wpList_append_own_at _ rfl (.tmp 29) (.tmp 35) 42 rfl w1.heap.size 3 i0 (.int .i64 0) 1 8 Try.underlying42 hi hz0 hz1 hz2 rfl (by decide) (.slice A' k c) k ((xs.take k).map fun x => numI x.life) rfl ?hown ⟨wr.heap.size, 0, none⟩ 1 1 [numI x.life] rfl rfl ?c1 ?c2 ?c3 ?c4 ?c5 ?_))
          case hown => exact World.ownsRow.alloc R1.out _
          case c1 => first | exact cell_one_at _ _ _ _ rfl | exact fun j u h => h
          case c2 => simp [Value.oneCell', numI]
          case c3 => unfold maxLen; omega
          case c4 => omega
          case c5 => first | omega | (simp; omega)
          intro v' w2 hown hgrow _ hwhere
          obtain ⟨A2, c2, rfl, -⟩ := row_slice hown
          have hf2 : Fr No w1 w2 := by
            have hf := nums_grown hbase (m := w1.heap.size) (fun k hk => (R1.out.lt k hk).1) hbase hgrow
            exact R2.out.then hf fun i hi hi2 => absurd hi2 (by omega)
          have HF2 := Lib.hid hf2
          have HO : Hid (w2.ownsRow w1.heap.size 3 1 (.slice A2 (k + 1) c2) (k + 1) ((xs.take (k + 1)).map fun x => numI x.life)) := by
            unfold Hid
            rw [List.take_add_one, HX.out, List.map_append]
            simpa using hown
          clear hf2 hown hgrow hwhere
          go_wp2_with fail
          go_roundw
          case rel => exact ⟨k + 1, A2, c2, by go_num, by omega, rfl, HO, HF2.out⟩
          case measure => simp [intOf]; omega
        · have hk2 : k = xs.length := by omega
          have HK2 := Lib.hid hk2
          clear hk2
          go_wp2_with fail
          go_ret2
          have e2 := R1.out
          rw [HK2.out, List.take_length] at e2
          exact HV.out _ _ (HF1.out.trans R2.out) ⟨A', c, w1.heap.size, by rw [HK2.out]; rfl, e2⟩
end Go.Proofs.Ytnloffjjlhhanaa
