/- film.collect. -/
import Derived.Test.YtnloffjjlhhanaaDoorLives
set_option linter.unusedVariables false
set_option linter.unusedSimpArgs false
namespace Go.Proofs.YtnloffjjlhhanaaDoor
open Go.RowKit
open Go.Proofs

/-- Events that came in, below block B. -/
def Evs (B : Nat) (w : World) (A : Option Addr) (l : List Ev) : Prop := ∀ i e, l[i]? = some e → ∃ b off, A = some ⟨b, off, none⟩ ∧ b < B ∧ b < w.heap.size ∧
  w.cell? ⟨b, off + i * 4, none⟩ = some (.int .i64 e.step) ∧ w.cell? ⟨b, off + i * 4 + 1, none⟩ = some (.int .i64 e.life) ∧ w.cell? ⟨b, off + i * 4 + 2, none⟩ = some (.int .i64 e.words) ∧ w.cell? ⟨b, off + i * 4 + 3, none⟩ = some (.string e.act)
theorem Evs.fr {B : Nat} {w w' : World} {A : Option Addr} {l : List Ev} {S : Nat → Prop} (h : Evs B w A l) (hf : Fr S w w') (hs : ∀ k, S k → B ≤ k) : Evs B w' A l := by
  intro i e he
  obtain ⟨b, off, hA, hb, hbl, h0, h1, h2, h3⟩ := h i e he
  have hn : ¬ S b := fun hh => by have := hs b hh; omega
  exact ⟨b, off, hA, hb, by have := hf.size; omega, by rw [hf.cell hbl hn]; exact h0, by rw [hf.cell hbl hn]; exact h1, by rw [hf.cell hbl hn]; exact h2, by rw [hf.cell hbl hn]; exact h3⟩
theorem Evs.fr0 {B : Nat} {w w' : World} {A : Option Addr} {l : List Ev} (h : Evs B w A l) (hf : Fr No w w') : Evs B w' A l := h.fr hf fun _ h => h.elim

def isLeft (e : Ev) : Bool := e.act.toList == [108, 101, 102, 116]
/-- Is e what must be left of x, behind a collect at a step? -/
def okLeft (st : Int) (e : Ev) (x : Lf) : Bool := isLeft e && e.step == st && e.life == x.life && decide (0 ≤ e.words) && decide (e.words ≤ x.fin)
def okLefts (s : St) (st : Int) : List Ev → List Nat → Bool
  | _, [] => true
  | [], _ :: _ => false
  | e :: l, i :: r => okLeft st e (s.lf.getD i default) && okLefts s st l r
def setFins (lf : List Lf) : List Ev → List Nat → List Lf
  | _, [] => lf
  | [], _ :: _ => lf
  | e :: l, i :: r => setFins (lf.set i { lf.getD i default with fin := e.words }) l r
def canCollect (s : St) (e : Ev) (l : List Ev) : Bool := e.life == 0 && e.words == 0 && decide (s.inf.length ≤ l.length) && okLefts s e.step l s.inf

theorem okLefts_at (s : St) (st : Int) : ∀ (l : List Ev) (r : List Nat), (∀ (i : Nat) (e : Ev) (k : Nat), l[i]? = some e → r[i]? = some k → okLeft st e (s.lf.getD k default) = true) → r.length ≤ l.length → okLefts s st l r = true := by
  intro l r
  induction r generalizing l with
  | nil => intro _ _; cases l <;> rfl
  | cons k r ih =>
    intro h hl
    cases l with
    | nil => simp at hl
    | cons e l =>
      simp only [okLefts, Bool.and_eq_true]
      exact ⟨h 0 e k rfl rfl, ih l (fun i e k h1 h2 => h (i + 1) e k (by simpa using h1) (by simpa using h2)) (by simpa using hl)⟩
theorem okLefts_no (s : St) (st : Int) : ∀ (l : List Ev) (r : List Nat) (i : Nat) (e : Ev) (k : Nat), l[i]? = some e → r[i]? = some k → okLeft st e (s.lf.getD k default) = false → okLefts s st l r = false := by
  intro l r
  induction r generalizing l with
  | nil => intro i e k _ h2; simp at h2
  | cons k r ih =>
    intro i e k' h1 h2 h3
    cases l with
    | nil => simp at h1
    | cons e' l =>
      cases i with
      | zero =>
        simp only [List.getElem?_cons_zero, Option.some.injEq] at h1 h2
        subst h1 h2
        simp only [okLefts, h3, Bool.false_and]
      | succ i => simp only [okLefts]; rw [ih l i e k' (by simpa using h1) (by simpa using h2) h3]; simp

theorem setFins_take (l : List Ev) (r : List Nat) (k : Nat) (e : Ev) (j : Nat) : ∀ (lf : List Lf), l[k]? = some e → r[k]? = some j → setFins lf (l.take (k + 1)) (r.take (k + 1)) = (setFins lf (l.take k) (r.take k)).set j { (setFins lf (l.take k) (r.take k)).getD j default with fin := e.words } := by
  induction k generalizing l r with
  | zero =>
    intro lf h1 h2
    cases l with
    | nil => simp at h1
    | cons a l =>
      cases r with
      | nil => simp at h2
      | cons b r =>
        simp only [List.getElem?_cons_zero, Option.some.injEq] at h1 h2
        subst h1 h2
        cases l <;> simp [setFins]
  | succ k ih =>
    intro lf h1 h2
    cases l with
    | nil => simp at h1
    | cons a l =>
      cases r with
      | nil => simp at h2
      | cons b r =>
        simp only [List.take_succ_cons, setFins]
        exact ih l r _ (by simpa using h1) (by simpa using h2)
theorem setFins_len (l : List Ev) : ∀ (r : List Nat) (lf : List Lf), (setFins lf l r).length = lf.length := by
  induction l with
  | nil => intro r lf; cases r <;> rfl
  | cons e l ih => intro r lf; cases r with
    | nil => rfl
    | cons i r => simp only [setFins]; rw [ih]; simp
theorem setFins_all (l : List Ev) : ∀ (r : List Nat) (lf : List Lf), setFins lf (l.take r.length) r = setFins lf l r := by
  induction l with
  | nil => intro r lf; cases r <;> rfl
  | cons e l ih => intro r lf; cases r with
    | nil => simp [setFins]
    | cons i r => simp only [List.length_cons, List.take_succ_cons, setFins]; exact ih r _
theorem okLeft_no (st : Int) (e : Ev) (x : Lf) (h : okLeft st e x = false) :
    (e.act.toList == [108, 101, 102, 116]) = false ∨ ((e.act.toList == [108, 101, 102, 116]) = true ∧ (e.step != st) = true) ∨ ((e.act.toList == [108, 101, 102, 116]) = true ∧ (e.step != st) = false ∧ (e.life != x.life) = true) ∨
      ((e.act.toList == [108, 101, 102, 116]) = true ∧ (e.step != st) = false ∧ (e.life != x.life) = false ∧ (decide (0 ≤ e.words) && decide (e.words ≤ x.fin)) = false) := by
  unfold okLeft isLeft at h
  by_cases h1 : (e.act.toList == [108, 101, 102, 116]) = true <;> by_cases h2 : e.step = st <;> by_cases h3 : e.life = x.life <;> simp_all
theorem okLeft_yes (st : Int) (e : Ev) (x : Lf) (h : okLeft st e x = true) :
    (e.act.toList == [108, 101, 102, 116]) = true ∧ (e.step != st) = false ∧ (e.life != x.life) = false ∧ (decide (0 ≤ e.words) && decide (e.words ≤ x.fin)) = true := by
  unfold okLeft isLeft at h
  simp_all

set_option maxRecDepth 100000 in
set_option maxHeartbeats 4000000 in
theorem film_collect (B : Nat) (w : World) (F : Film) (s : St) (A : Option Addr) (cap : Nat) (e : Ev) (l : List Ev) (h : FilmAt B w F s) (hop : s.op.length ≤ 10000) (hev : Evs B w A (e :: l)) (hl : l.length ≤ 10000) :
    Calls Tryd.prog 58 #[.pointer (some ⟨F.f, 0, none⟩), .slice A (e :: l).length cap] w fun en w' =>
      (canCollect s e l = false ∧ en = .returned (.int .i64 0) ∧ Fr No w w') ∨
      (canCollect s e l = true ∧ en = .returned (.int .i64 (s.inf.length + 1)) ∧ Fr F.foot w w' ∧ FilmAt B w' F { s with lf := setFins s.lf l s.inf }) := by
  have hil : s.inf.length ≤ 10000 := Nat.le_trans (List.length_filter_le _ _) hop
  rw [List.length_cons]
  go_enter Tryd.func58, Tryd.ntmps58
  go_wp2_with fail
  refine (film_infinite B w F s h hop).mono ?_
  rintro en w1 ⟨A', cap', rfl, hf1, hinf⟩
  have h1 := h.fr0 hf1
  have hev1 := hev.fr0 hf1
  obtain ⟨b, off, rfl, hbB, hbl, e0, e1, e2, -⟩ := hev1 0 e rfl
  simp only [Nat.zero_mul, Nat.add_zero] at e0 e1 e2
  have HF1 := Lib.hid hf1
  have HI := Lib.hid hinf
  have H1 := Lib.hid h1
  have HE := Lib.hid hev1
  clear hf1 hinf h1 hev1 hev
  have H0 := Lib.hid h
  clear h
  by_cases g1 : e.life = 0
  · by_cases g2 : e.words = 0
    · by_cases g3 : l.length + 1 ≤ s.inf.length
      · have HN : Hid (canCollect s e l = false) := by unfold Hid canCollect; rw [decide_eq_false (by omega)]; simp
        go_wp2_with fail
        go_ret
        exact .inl ⟨HN.out, rfl, HF1.out⟩
      · have g1' : (e.life == 0) = true := by simpa using g1
        have g2' : (e.words == 0) = true := by simpa using g2
        have g1'' : (e.life != 0) = false := by simpa using g1
        have g2'' : (e.words != 0) = false := by simpa using g2
        have g3' : decide ((l.length : Int) + 1 ≤ (s.inf.length : Int)) = false := by simp; omega
        have HG : Hid (canCollect s e l = okLefts s e.step l s.inf) := by unfold Hid canCollect; rw [decide_eq_true (by omega : s.inf.length ≤ l.length)]; simp [g1', g2']
        clear g1 g2
        go_wp2_with fail
        go_loopw [34, 6, 7, 8] (fun iv _ _ _ wr => ∃ k : Nat, iv = .int .i64 k ∧ k ≤ s.inf.length ∧ Hid (Fr No w1 wr) ∧ Hid (∀ (i : Nat) (e' : Ev) (j : Nat), i < k → l[i]? = some e' → s.inf[i]? = some j → okLeft e.step e' (s.lf.getD j default) = true)) (fun iv _ _ _ _ => s.inf.length - (intOf iv).toNat)
        case atStart => exact ⟨0, rfl, by omega, Fr.refl _ _, Lib.hid (fun i _ _ hi => by omega)⟩
        case round =>
          obtain ⟨k, rfl, hk, R1, R2⟩ := hrel
          by_cases hlt : k < s.inf.length
          · have hj : s.inf[k]? = some (s.inf[k]'hlt) := List.getElem?_eq_getElem _
            generalize (s.inf[k]'hlt) = j at hj
            have hx : l[k]? = some (l[k]'(by omega)) := List.getElem?_eq_getElem _
            generalize (l[k]'(by omega)) = e' at hx
            obtain ⟨b', rfl, -, hc⟩ := HI.out k j hj
            obtain ⟨b2, off2, hb2, hb2B, hb2l, f0, f1, f2, f3⟩ := HE.out.fr0 R1.out (k + 1) e' (by simpa using hx)
            simp only [Option.some.injEq, Addr.mk.injEq, and_true] at hb2
            obtain ⟨rfl, rfl⟩ := hb2
            have hr := H1.out.fr0 R1.out
            obtain ⟨kk, hkk⟩ : ∃ kk, s.op[kk]? = some j := List.getElem?_of_mem (List.mem_filter.1 (List.mem_of_getElem? hj)).1
            obtain ⟨-, kb, x, -, -, -, hbk, hxl, hblk, -⟩ := hr.open_at hkk
            have ebl : F.bl.getD j 0 = kb := by rw [List.getD_eq_getElem?_getD, hbk]; rfl
            have exl : s.lf.getD j default = x := by rw [List.getD_eq_getElem?_getD, hxl]; rfl
            rw [ebl] at hc
            have hc' : wr.cell? ⟨b', k, none⟩ = some (.pointer (some ⟨kb, 0, none⟩)) := by rw [R1.out.cell (World.block_lt_of_cell? w1 _ hc) (fun hh => hh)]; exact hc
            have e0' : wr.cell? ⟨b, off, none⟩ = some (.int .i64 e.step) := by rw [R1.out.cell hbl (fun hh => hh)]; exact e0
            have x1 : wr.cell? ⟨kb, 1, none⟩ = some (.int .i64 x.fin) := hblk.cell 1
            have x2 : wr.cell? ⟨kb, 2, none⟩ = some (.int .i64 x.life) := hblk.cell 2
            have hkb := hblk.lt
            have hb'l := World.block_lt_of_cell? wr _ hc'
            have hbl' := World.block_lt_of_cell? wr _ e0'
            have HX := Lib.hid hx
            have HJ := Lib.hid hj
            have HXL := Lib.hid exl
            clear hc hr hkk hbk hxl hblk ebl hx hj exl e0 e1 e2
            cases hok : okLeft e.step e' x with
            | true =>
              obtain ⟨p1, p2, p3, p4⟩ := okLeft_yes _ _ _ hok
              have HP := Lib.hid p4
              have HOK := Lib.hid hok
              clear p4 hok
              go_wp2_with fail
              go_quiet ((go_at_call 28; exact between_q _ _ _ _ HP.out _ _))
              go_wp2_with fail
              go_roundw
              case rel =>
                refine ⟨k + 1, by go_num, by omega, (R1.out.alloc _).drewN _, Lib.hid fun i e'' j' hi h1 h2 => ?_⟩
                rcases Nat.lt_succ_iff_lt_or_eq.1 hi with hi | rfl
                · exact R2.out i e'' j' hi h1 h2
                · rw [HX.out] at h1
                  rw [HJ.out] at h2
                  simp only [Option.some.injEq] at h1 h2
                  subst h1 h2
                  rw [HXL.out]
                  exact HOK.out
              case measure => simp [intOf]; omega
            | false =>
              have HN : Hid (canCollect s e l = false) := by
                unfold Hid
                rw [HG.out]
                exact okLefts_no s e.step l s.inf k e' j HX.out HJ.out (by rw [HXL.out]; exact hok)
              rcases okLeft_no _ _ _ hok with p1 | ⟨p1, p2⟩ | ⟨p1, p2, p3⟩ | ⟨p1, p2, p3, p4⟩
              case inr.inr.inr =>
                have HP := Lib.hid p4
                clear p4 hok
                go_wp2_with fail
                go_quiet ((go_at_call 28; exact between_q _ _ _ _ HP.out _ _))
                go_wp2_with fail
                go_ret
                exact .inl ⟨HN.out, rfl, (HF1.out.trans (R1.out.alloc _)).drewN _⟩
              all_goals
                clear hok
                go_wp2_with fail
                go_quiet (fail)
                go_wp2_with fail
                go_ret
                exact .inl ⟨HN.out, rfl, (HF1.out.trans (R1.out.alloc _)).drewN _⟩
          · have hkl : k = s.inf.length := by omega
            have HKL := Lib.hid hkl
            have HY : Hid (canCollect s e l = true) := by
              unfold Hid
              rw [HG.out]
              exact okLefts_at s e.step l s.inf (fun i e' j h1 h2 => R2.out i e' j (by have := (List.getElem?_eq_some_iff.1 h2).1; omega) h1 h2) (by omega)
            clear hkl e0 e1 e2
            obtain ⟨wo, rfl⟩ : ∃ wo : World, wo = wr := ⟨_, rfl⟩
            have H2 := Lib.hid (H1.out.fr0 R1.out)
            go_wp2_with fail
            go_loopw [79, 9, 10] (fun iv _ _ wx => ∃ k2 : Nat, iv = .int .i64 k2 ∧ k2 ≤ s.inf.length ∧ Hid (Fr (fun j => j ∈ F.bl) wo wx) ∧ Hid (FilmAt B wx F { s with lf := setFins s.lf (l.take k2) (s.inf.take k2) })) (fun iv _ _ _ => s.inf.length - (intOf iv).toNat)
            case atStart => exact ⟨0, rfl, by omega, Fr.refl _ _, by simpa [setFins, Hid] using H2.out⟩
            case round =>
              obtain ⟨k2, rfl, hk2, R3, R4⟩ := hrel
              by_cases hlt2 : k2 < s.inf.length
              · have hj : s.inf[k2]? = some (s.inf[k2]'hlt2) := List.getElem?_eq_getElem _
                generalize (s.inf[k2]'hlt2) = j at hj
                have hx : l[k2]? = some (l[k2]'(by omega)) := List.getElem?_eq_getElem _
                generalize (l[k2]'(by omega)) = e' at hx
                obtain ⟨b', rfl, hb'n, hc⟩ := HI.out k2 j hj
                have hbl0 : ∀ i, i ∈ F.bl → B ≤ i ∧ i < w.heap.size := fun i hi => H0.out.foot_lt (.inr (.inr (.inr hi)))
                have hc0 := (HE.out.fr0 R1.out).fr R3.out (fun i hi => (hbl0 i hi).1)
                obtain ⟨b2, off2, hb2, hb2B, hb2l, -, -, f2, -⟩ := hc0 (k2 + 1) e' (by simpa using hx)
                simp only [Option.some.injEq, Addr.mk.injEq, and_true] at hb2
                obtain ⟨rfl, rfl⟩ := hb2
                obtain ⟨kk, hkk⟩ : ∃ kk, s.op[kk]? = some j := List.getElem?_of_mem (List.mem_filter.1 (List.mem_of_getElem? hj)).1
                obtain ⟨-, kb, x, -, -, -, hbk, hxl, hblk, -⟩ := R4.out.open_at hkk
                have ebl : F.bl.getD j 0 = kb := by rw [List.getD_eq_getElem?_getD, hbk]; rfl
                have exl : (setFins s.lf (l.take k2) (s.inf.take k2)).getD j default = x := by rw [List.getD_eq_getElem?_getD, hxl]; rfl
                rw [ebl] at hc
                have hb'l := World.block_lt_of_cell? w1 _ hc
                have hcw : wo.cell? ⟨b', k2, none⟩ = some (.pointer (some ⟨kb, 0, none⟩)) := by rw [R1.out.cell hb'l (fun hh => hh)]; exact hc
                have hc' : wr.cell? ⟨b', k2, none⟩ = some (.pointer (some ⟨kb, 0, none⟩)) := by
                  rw [R3.out.cell (World.block_lt_of_cell? wo _ hcw) (fun hh => absurd (hbl0 b' hh).2 (by omega))]; exact hcw
                have x1 : wr.cell? ⟨kb, 1, none⟩ = some (.int .i64 x.fin) := hblk.cell 1
                have z1 := hblk.free 1
                have hkb := hblk.lt
                have HX := Lib.hid hx
                have HJ := Lib.hid hj
                have HXL := Lib.hid exl
                have HBL := Lib.hid hblk
                have HBK := Lib.hid hbk
                have HLX := Lib.hid hxl
                clear hc hcw hkk hbk hxl hblk ebl hx hj exl hc0 hbl0
                go_wp2_with fail
                go_roundw
                case rel =>
                  refine ⟨k2 + 1, by go_num, by omega, Fr.setCell (a := ⟨kb, 1, none⟩) R3.out (.inl (List.mem_of_getElem? HBK.out)) _, ?_⟩
                  unfold Hid
                  rw [setFins_take l s.inf k2 e' j s.lf HX.out HJ.out, HXL.out]
                  exact R4.out.setLife HBK.out HLX.out ((Fr.refl _ _).put 1 _) (Blk.cast (HBL.out.set 1 _) (by simp [Lf.cells]))
                case measure => simp [intOf]; omega
              · have hkl2 : k2 = s.inf.length := by omega
                have HKL2 := Lib.hid hkl2
                clear hkl2
                go_wp2_with fail
                go_ret
                refine .inr ⟨HY.out, rfl, (HF1.out.trans R1.out).then0 R3.out (fun i _ hi => .inr (.inr (.inr hi))), ?_⟩
                have := R4.out
                rw [HKL2.out, List.take_length, setFins_all] at this
                exact this
    · have g2' : (e.words != 0) = true := by simpa using g2
      have HN : Hid (canCollect s e l = false) := by unfold Hid canCollect; rw [show (e.words == 0) = false by simpa using g2]; simp
      clear g2
      go_wp2_with fail
      go_ret
      exact .inl ⟨HN.out, rfl, HF1.out⟩
  · have g1' : (e.life != 0) = true := by simpa using g1
    have HN : Hid (canCollect s e l = false) := by unfold Hid canCollect; rw [show (e.life == 0) = false by simpa using g1]; simp
    clear g1
    go_wp2_with fail
    go_ret
    exact .inl ⟨HN.out, rfl, HF1.out⟩
end Go.Proofs.YtnloffjjlhhanaaDoor
