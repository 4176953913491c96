/- Longest, of the program and of the reference. -/
import Derived.Test.YtnloffjjlhhanaaDoorLines
import Derived.Test.YtnloffjjlhhanaaDoorReads
set_option linter.unusedVariables false
set_option linter.unusedSimpArgs false
namespace Go.Proofs.YtnloffjjlhhanaaDoor
open Go.RowKit
open Go.Proofs

/-! The steps of lifelines. -/
def Obd (lf : List Lf) : Prop := ∀ x ∈ lf, 0 ≤ x.opened ∧ x.opened ≤ 20000 ∧ -1 ≤ x.ended ∧ x.ended ≤ 20000
theorem Obd.set {lf : List Lf} {i : Nat} {y : Lf} (h : Obd lf) (hy : 0 ≤ y.opened ∧ y.opened ≤ 20000 ∧ -1 ≤ y.ended ∧ y.ended ≤ 20000) : Obd (lf.set i y) := fun x hx => by
  rcases List.mem_or_eq_of_mem_set hx with hx | rfl
  · exact h x hx
  · exact hy
theorem Obd.getD {lf : List Lf} (h : Obd lf) (i : Nat) (hi : i < lf.length) : 0 ≤ (lf.getD i default).opened ∧ (lf.getD i default).opened ≤ 20000 ∧ -1 ≤ (lf.getD i default).ended ∧ (lf.getD i default).ended ≤ 20000 := h _ (getD_mem hi)
theorem Obd.opened {t : Tr} {e : Ev} (h : Obd t.st.lf) (h0 : 0 ≤ e.step) (h1 : e.step ≤ 20000) : Obd (t.opened e).st.lf := by
  have hn : Obd (t.st.lf ++ [newLf e]) := fun x hx => by
    rcases List.mem_append.1 hx with hx | hx
    · exact h x hx
    · simp at hx; subst hx; exact ⟨h0, h1, by simp [newLf], by simp [newLf]⟩
  unfold Tr.opened
  split
  · exact hn
  · exact hn
theorem add_obd {m : Nat} {t t' : Tr} {e : Ev} (hok : TrOk m t) (h : Obd t.st.lf) (h0 : 0 ≤ t.step) (ha : t.add e = some t') : Obd t'.st.lf ∧ 0 ≤ t'.step := by
  have hst := add_step ha
  have hb := hok.bd
  refine ⟨?_, by omega⟩
  unfold Tr.add at ha
  split at ha
  · cases ha
  split at ha
  · split at ha
    · simp only [Option.some.injEq] at ha
      subst ha
      exact Obd.opened (t := { t with step := e.step }) h (by omega) (by omega)
    · cases ha
  split at ha
  · split at ha
    · simp only [Option.some.injEq] at ha
      subst ha
      exact h
    · cases ha
  split at ha
  · split at ha
    · rename_i hc
      simp only [Option.some.injEq] at ha
      subst ha
      simp only [Bool.and_eq_true, decide_eq_true_eq] at hc
      have hd := hb.opens _ (due_mem hok hc.1.1.1)
      exact h.set (by have := h.getD _ hd; exact this)
    · cases ha
  split at ha
  · cases ha
  rename_i hpl
  obtain ⟨j, hj⟩ : ∃ j : Nat, t.place e.life = j := ⟨(t.place e.life).toNat, by omega⟩
  obtain ⟨i, hi, -, -⟩ := place_at hj
  have ei : t.st.op.getD (t.place e.life).toNat 0 = i := by rw [hj, Int.toNat_natCast, List.getD_eq_getElem?_getD, hi]; rfl
  have hil := hb.opens i (List.mem_of_getElem? hi)
  have hg := h.getD i hil
  simp only [ei] at ha
  split at ha
  · split at ha
    · simp only [Option.some.injEq] at ha
      subst ha
      exact h.set (by unfold Tr.life Lf.put; exact hg)
    · cases ha
  split at ha
  · split at ha
    · simp only [Option.some.injEq] at ha
      subst ha
      exact h.set (by unfold Tr.life; simp only; omega)
    · cases ha
  split at ha
  · split at ha
    · simp only [Option.some.injEq] at ha
      subst ha
      exact h.set (by unfold Tr.life; simp only; omega)
    · cases ha
  · cases ha
theorem adds_obd : ∀ (l : List Ev) (m : Nat) (t t' : Tr), TrOk m t → Obd t.st.lf → 0 ≤ t.step → t.adds l = some t' → Obd t'.st.lf
  | [], m, t, t', hok, h, h0, ha => by simp only [Tr.adds, Option.some.injEq] at ha; subst ha; exact h
  | e :: l, m, t, t', hok, h, h0, ha => by
    obtain ⟨u, h1, h2⟩ := adds_cons_inv ha
    have h3 := add_obd hok h h0 h1
    exact adds_obd l (m + 1) u t' (add_ok hok h1) h3.1 h3.2 h2
theorem final_obd {l : List Ev} {tr : List (St × Int)} (hl : l.length ≤ 2000) (h : playP l = some tr) : Obd (finalOf tr).lf := by
  obtain ⟨r, s, hfin⟩ := (play_good hl h).fin
  rw [lastSt_final] at hfin
  exact adds_obd l 0 _ _ Tr.init_ok (fun x hx => absurd hx (by show ¬ x ∈ ([] : List Lf); simp)) (Int.le_refl _) hfin
theorem final_bdD {l : List Ev} {tr : List (St × Int)} (hl : l.length ≤ 2000) (h : playP l = some tr) : Bd l.length (finalOf tr) := by
  obtain ⟨r, s, hfin⟩ := (play_good hl h).fin
  have h2 := adds_ok l 0 Tr.init _ Tr.init_ok hfin
  rw [lastSt_final, Nat.zero_add] at h2
  exact h2.bd
theorem final_nil {l : List Ev} {tr : List (St × Int)} (hl : l.length ≤ 2000) (h : playP l = some tr) (hn : l = []) : (finalOf tr).lf = [] := by
  have := (final_bdD hl h).lf
  rw [hn] at this
  exact List.eq_nil_of_length_eq_zero (by simpa using this)

/-! Which one is longest. -/
def Lf.zero : Lf := ⟨0, 0, 0, 0, 0, 0, 0, 0, false⟩
def lastStep (l : List Ev) : Int := match l.getLast? with | none => 0 | some e => e.step
def Lf.till (d : Int) (x : Lf) : Int := if x.ended < 0 then d else x.ended
def longTo (d : Int) (lf : List Lf) : Nat → Lf × Int
  | 0 => (Lf.zero, -1)
  | k + 1 => match lf[k]? with
    | none => longTo d lf k
    | some x => if (longTo d lf k).2 < x.till d - x.opened then (x, x.till d - x.opened) else longTo d lf k
theorem longTo_succ {d : Int} {lf : List Lf} {k : Nat} {x : Lf} (h : lf[k]? = some x) : longTo d lf (k + 1) = if (longTo d lf k).2 < x.till d - x.opened then (x, x.till d - x.opened) else longTo d lf k := by
  simp only [longTo, h]
theorem longTo_bd {d : Int} {lf : List Lf} (h : Obd lf) (hd : 0 ≤ d ∧ d ≤ 20000) : ∀ k, -30000 ≤ (longTo d lf k).2 ∧ (longTo d lf k).2 ≤ 30000
  | 0 => by simp [longTo]
  | k + 1 => by
    have ih := longTo_bd h hd k
    cases hx : lf[k]? with
    | none => simp only [longTo, hx]; exact ih
    | some x =>
      rw [longTo_succ hx]
      split
      · have := h x (List.mem_of_getElem? hx)
        unfold Lf.till
        simp only
        split <;> omega
      · exact ih
def longE (l : List Ev) : Int := match playP l with | none => 100 | some tr => if (finalOf tr).lf.length = 0 then 2 else 0
def longL (l : List Ev) : Lf := match playP l with | none => Lf.zero | some tr => if (finalOf tr).lf.length = 0 then Lf.zero else (longTo (lastStep l) (finalOf tr).lf (finalOf tr).lf.length).1

section
variable {w w' : World} {b : Nat} {t : TypeId} {a0 a1 a2 a3 a4 a5 a6 a7 a8 : Value}
theorem Blk.put7 (h : Blk w b #[a0, a1, a2, a3, a4, a5, a6] t) (v0 v1 v2 v3 v4 v5 v6 : Value) : Blk (((((((w.setCell ⟨b, 0, none⟩ v0).setCell ⟨b, 1, none⟩ v1).setCell ⟨b, 2, none⟩ v2).setCell ⟨b, 3, none⟩ v3).setCell ⟨b, 4, none⟩ v4).setCell ⟨b, 5, none⟩ v5).setCell ⟨b, 6, none⟩ v6) b #[v0, v1, v2, v3, v4, v5, v6] t :=
  by have := ((((((h.set 0 v0).set 1 v1).set 2 v2).set 3 v3).set 4 v4).set 5 v5).set 6 v6; simpa using this
theorem Blk.put9 (h : Blk w b #[a0, a1, a2, a3, a4, a5, a6, a7, a8] t) (v0 v1 v2 v3 v4 v5 v6 v7 v8 : Value) : Blk (((((((((w.setCell ⟨b, 0, none⟩ v0).setCell ⟨b, 1, none⟩ v1).setCell ⟨b, 2, none⟩ v2).setCell ⟨b, 3, none⟩ v3).setCell ⟨b, 4, none⟩ v4).setCell ⟨b, 5, none⟩ v5).setCell ⟨b, 6, none⟩ v6).setCell ⟨b, 7, none⟩ v7).setCell ⟨b, 8, none⟩ v8) b #[v0, v1, v2, v3, v4, v5, v6, v7, v8] t :=
  by have := ((((((((h.set 0 v0).set 1 v1).set 2 v2).set 3 v3).set 4 v4).set 5 v5).set 6 v6).set 7 v7).set 8 v8; simpa using this
theorem Fr.put7 {S : Nat → Prop} (h : Fr S w w') (hb : S b ∨ w.heap.size ≤ b) (v0 v1 v2 v3 v4 v5 v6 : Value) : Fr S w (((((((w'.setCell ⟨b, 0, none⟩ v0).setCell ⟨b, 1, none⟩ v1).setCell ⟨b, 2, none⟩ v2).setCell ⟨b, 3, none⟩ v3).setCell ⟨b, 4, none⟩ v4).setCell ⟨b, 5, none⟩ v5).setCell ⟨b, 6, none⟩ v6) :=
  ((((((h.setCell (a := ⟨b, 0, none⟩) hb _).setCell (a := ⟨b, 1, none⟩) hb _).setCell (a := ⟨b, 2, none⟩) hb _).setCell (a := ⟨b, 3, none⟩) hb _).setCell (a := ⟨b, 4, none⟩) hb _).setCell (a := ⟨b, 5, none⟩) hb _).setCell (a := ⟨b, 6, none⟩) hb _
theorem Fr.put9 {S : Nat → Prop} (h : Fr S w w') (hb : S b ∨ w.heap.size ≤ b) (v0 v1 v2 v3 v4 v5 v6 v7 v8 : Value) : Fr S w (((((((((w'.setCell ⟨b, 0, none⟩ v0).setCell ⟨b, 1, none⟩ v1).setCell ⟨b, 2, none⟩ v2).setCell ⟨b, 3, none⟩ v3).setCell ⟨b, 4, none⟩ v4).setCell ⟨b, 5, none⟩ v5).setCell ⟨b, 6, none⟩ v6).setCell ⟨b, 7, none⟩ v7).setCell ⟨b, 8, none⟩ v8) :=
  ((Fr.put7 h hb v0 v1 v2 v3 v4 v5 v6).setCell (a := ⟨b, 7, none⟩) hb _).setCell (a := ⟨b, 8, none⟩) hb _
end
theorem Blk.drew {w : World} {k : Nat} {cs : Array Value} {t : TypeId} (h : Blk w k cs t) : Blk w.drew k cs t := h
def lineCells (x : Lf) : Array Value := #[.int .i64 x.life, .int .i64 x.opened, .int .i64 x.ended, .int .i64 x.objs, .int .i64 x.wds, .int .i64 x.pages, .bool x.bounded]
def LongS (bx : Nat) (x : Lf) (W : World) : Prop :=
  W.cell? ⟨bx, 0, none⟩ = some (.int .i64 x.life) ∧ W.cell? ⟨bx, 1, none⟩ = some (.int .i64 x.opened) ∧ W.cell? ⟨bx, 2, none⟩ = some (.int .i64 x.ended) ∧ W.cell? ⟨bx, 3, none⟩ = some (.int .i64 x.objs) ∧ W.cell? ⟨bx, 4, none⟩ = some (.int .i64 x.wds) ∧ W.cell? ⟨bx, 5, none⟩ = some (.int .i64 x.pages) ∧ W.cell? ⟨bx, 6, none⟩ = some (.bool x.bounded)
theorem LongS.of {bx : Nat} {x : Lf} {W : World} {t : TypeId} (h : Blk W bx (lineCells x) t) : LongS bx x W := ⟨h.cell 0, h.cell 1, h.cell 2, h.cell 3, h.cell 4, h.cell 5, h.cell 6⟩
def rowCells (x : Lf) : Array Value := #[.int .i64 x.life, .int .i64 x.opened, .int .i64 x.ended, .int .i64 x.objs, .int .i64 x.wds, .int .i64 x.pages, .bool x.bounded, .int .i64 x.words, .int .i64 x.fin]

set_option maxRecDepth 100000 in
set_option maxHeartbeats 600000 in
theorem progLongest (w : World) (A : Option Addr) (cap : Nat) (l : List Ev) (hev : Evs w.heap.size w A l) (hl : l.length ≤ 2000) (hcap : l.length ≤ cap) :
    Calls Tryd.prog 7 #[.slice A l.length cap] w fun e w' => Fr No w w' ∧ e = .returned (.tuple #[.agg #[.int .i64 (longL l).life, .int .i64 (longL l).opened, .int .i64 (longL l).ended, .int .i64 (longL l).objs, .int .i64 (longL l).wds, .int .i64 (longL l).pages, .bool (longL l).bounded], .int .i64 (longE l)]) := by
  have hal : Fr No w (w.alloc (.cells #[.int .i64 0, .int .i64 0, .int .i64 0, .int .i64 0, .int .i64 0, .int .i64 0, .bool false] 26)) := (Fr.refl _ _).alloc _
  have HLN := Lib.hid (lines_any _ A cap l (hev.rebase hal) hl hcap)
  have HE := Lib.hid hev
  have HL := Lib.hid hl
  have HAL := Lib.hid hal
  clear hev hal
  go_enter Tryd.func7, Tryd.ntmps7
  go_wp2_with fail
  refine HLN.out.mono ?_
  intro en w1 hp
  unfold LinesPost at hp
  have hfr := HAL.out.trans hp.1
  have HFR := Lib.hid hfr
  have hbx : Blk w1 w.heap.size #[.int .i64 0, .int .i64 0, .int .i64 0, .int .i64 0, .int .i64 0, .int .i64 0, .bool false] 26 := hp.1.blk (Blk.new _ _ _) (fun e => e.elim)
  have HBX := Lib.hid hbx
  have hrl := hbx.lt
  have z0 := hbx.free 0
  have z1 := hbx.free 1
  have z2 := hbx.free 2
  have z3 := hbx.free 3
  have z4 := hbx.free 4
  have z5 := hbx.free 5
  have z6 := hbx.free 6
  have c0 : w1.cell? ⟨w.heap.size, 0, none⟩ = some (.int .i64 0) := hbx.cell 0
  have c1 : w1.cell? ⟨w.heap.size, 1, none⟩ = some (.int .i64 0) := hbx.cell 1
  have c2 : w1.cell? ⟨w.heap.size, 2, none⟩ = some (.int .i64 0) := hbx.cell 2
  have c3 : w1.cell? ⟨w.heap.size, 3, none⟩ = some (.int .i64 0) := hbx.cell 3
  have c4 : w1.cell? ⟨w.heap.size, 4, none⟩ = some (.int .i64 0) := hbx.cell 4
  have c5 : w1.cell? ⟨w.heap.size, 5, none⟩ = some (.int .i64 0) := hbx.cell 5
  have c6 : w1.cell? ⟨w.heap.size, 6, none⟩ = some (.bool false) := hbx.cell 6
  have HPUT := Lib.hid (fun v0 v1 v2 v3 v4 v5 v6 => And.intro (hbx.put7 v0 v1 v2 v3 v4 v5 v6) (hfr.put7 (b := w.heap.size) (.inr (Nat.le_refl _)) v0 v1 v2 v3 v4 v5 v6))
  cases hpl : playP l with
  | none =>
    have HV : Hid (longL l = Lf.zero ∧ longE l = 100) := by unfold Hid longL longE; rw [hpl]; exact ⟨rfl, rfl⟩
    rw [hpl] at hp
    obtain ⟨-, rfl⟩ := hp
    clear hpl hfr hbx
    go_wp2_with fail
    obtain ⟨hb2, hf2⟩ := HPUT.out (.int .i64 0) (.int .i64 0) (.int .i64 0) (.int .i64 0) (.int .i64 0) (.int .i64 0) (.bool false)
    have d0 := hb2.cell 0
    have d1 := hb2.cell 1
    have d2 := hb2.cell 2
    have d3 := hb2.cell 3
    have d4 := hb2.cell 4
    have d5 := hb2.cell 5
    have d6 := hb2.cell 6
    simp only [List.getElem?_toArray, List.getElem?_cons_zero, List.getElem?_cons_succ] at d0 d1 d2 d3 d4 d5 d6
    generalize hw2 : World.setCell _ ⟨w.heap.size, 6, none⟩ _ = w2 at *
    refine bodyPost_ret (v := .tuple #[.agg #[.int .i64 0, .int .i64 0, .int .i64 0, .int .i64 0, .int .i64 0, .int .i64 0, .bool false], .int .i64 100]) (by simp [results, Tryd.results7, go_sem, d0, d1, d2, d3, d4, d5, d6]) rfl ⟨hf2, by rw [HV.out.1, HV.out.2]; rfl⟩
  | some tr =>
    have hob := final_obd HL.out hpl
    have hlb := (final_bdD HL.out hpl).lf
    rw [hpl] at hp
    obtain ⟨-, A1, c9, B1, hB1, rfl, hrow⟩ := hp
    by_cases hz : (finalOf tr).lf.length = 0
    · have HV : Hid (longL l = Lf.zero ∧ longE l = 2) := by unfold Hid longL longE; rw [hpl]; simp only [if_pos hz]; exact ⟨trivial, trivial⟩
      rw [hz]
      clear hpl hfr hbx hrow hob hlb hz
      go_wp2_with fail
      obtain ⟨hb2, hf2⟩ := HPUT.out (.int .i64 0) (.int .i64 0) (.int .i64 0) (.int .i64 0) (.int .i64 0) (.int .i64 0) (.bool false)
      have d0 := hb2.cell 0
      have d1 := hb2.cell 1
      have d2 := hb2.cell 2
      have d3 := hb2.cell 3
      have d4 := hb2.cell 4
      have d5 := hb2.cell 5
      have d6 := hb2.cell 6
      simp only [List.getElem?_toArray, List.getElem?_cons_zero, List.getElem?_cons_succ] at d0 d1 d2 d3 d4 d5 d6
      generalize hw2 : World.setCell _ ⟨w.heap.size, 6, none⟩ _ = w2 at *
      refine bodyPost_ret (v := .tuple #[.agg #[.int .i64 0, .int .i64 0, .int .i64 0, .int .i64 0, .int .i64 0, .int .i64 0, .bool false], .int .i64 2]) (by simp [results, Tryd.results7, go_sem, d0, d1, d2, d3, d4, d5, d6]) rfl ⟨hf2, by rw [HV.out.1, HV.out.2]; rfl⟩
    · have HV : Hid (longL l = (longTo (lastStep l) (finalOf tr).lf (finalOf tr).lf.length).1 ∧ longE l = 0) := by unfold Hid longL longE; rw [hpl]; simp only [if_neg hz]; exact ⟨trivial, trivial⟩
      have hne : l ≠ [] := fun hn => hz (by rw [final_nil HL.out hpl hn]; rfl)
      obtain ⟨el, hel⟩ : ∃ el, l.getLast? = some el := by
        cases h : l.getLast? with
        | none => exact absurd (List.getLast?_eq_none_iff.1 h) hne
        | some e => exact ⟨e, rfl⟩
      have hss : 0 ≤ el.step ∧ el.step ≤ 20000 := by
        have hall : ∀ (l : List Ev) (p : Int), stepsFrom p l = true → ∀ x ∈ l, 0 ≤ x.step ∧ x.step ≤ 20000 := by
          intro l
          induction l with
          | nil => intro p _ x hx; cases hx
          | cons a l ih =>
            intro p hp x hx
            simp only [stepsFrom, Bool.and_eq_true, decide_eq_true_eq] at hp
            rcases List.mem_cons.1 hx with rfl | hx
            · exact ⟨hp.1.1.2, hp.1.2⟩
            · exact ih _ hp.2 x hx
        have hst : stepsFrom 0 l = true := by
          unfold playP at hpl
          split at hpl
          · assumption
          · cases hpl
        exact hall l 0 hst el (List.mem_of_getLast? hel)
      have hlast : lastStep l = el.step := by unfold lastStep; rw [hel]
      obtain ⟨N, hN⟩ : ∃ N, l.length = N + 1 := ⟨l.length - 1, by have := List.length_pos_iff.2 hne; omega⟩
      have helN : l[N]? = some el := by rw [List.getLast?_eq_getElem?, hN] at hel; exact hel
      have HEL := Lib.hid helN
      rw [hlast] at HV
      generalize hd : el.step = d at *
      have HD := Lib.hid hd
      generalize hlf : (finalOf tr).lf = lf at *
      have HOB := Lib.hid hob
      have HROW := Lib.hid hrow
      have HN := Lib.hid hN
      have hlf4 : lf.length ≤ 4000 := by omega
      rw [hN] at hl hcap ⊢
      have hz' : ((lf.length : Int) == 0) = false := beq_eq_false_iff_ne.2 (by omega)
      have hbx2 := hbx
      clear hpl hfr hbx hrow hob hz hne hel hlast helN hd hlf hN
      go_wp2_with fail
      go_loopw [29, 7, 9, 10, 37, 38, 39, 40, 41, 42, 43, 50, 51, 52, 53, 54] (fun iv mv _ _ _ _ _ _ _ _ _ _ _ _ _ _ wr => ∃ k : Nat, iv = .int .i64 k ∧ k ≤ lf.length ∧ mv = .int .i64 (longTo d lf k).2 ∧ Hid (Blk wr w1.heap.size (lineCells (longTo d lf k).1) 26 ∧ Fr (fun j => j = w1.heap.size) (w1.alloc (.cells (lineCells Lf.zero) 26)) wr)) (fun iv _ _ _ _ _ _ _ _ _ _ _ _ _ _ _ _ => lf.length - (intOf iv).toNat)
      case atStart => exact ⟨0, rfl, by omega, rfl, Lib.hid ⟨Blk.new _ _ _, Fr.refl _ _⟩⟩
      case round =>
        obtain ⟨k, rfl, hk, rfl, R1⟩ := hrel
        have hfw : Fr No w1 wr := ((Fr.refl No w1).alloc _).then R1.out.2 fun i hi hh => by have : i = w1.heap.size := hh; omega
        have hbd := longTo_bd HOB.out hss k
        by_cases hlt : k < lf.length
        · have hx : lf[k]? = some (lf[k]'hlt) := List.getElem?_eq_getElem _
          generalize (lf[k]'hlt) = x at hx
          have hxo := HOB.out x (List.mem_of_getElem? hx)
          have HXO := Lib.hid hxo
          have q1 := row_stays HROW.out fun j hj => hfw.block j (HROW.out.lt j hj).2 (fun e => e.elim)
          obtain ⟨g1, hA1, hc1, hg1⟩ := row_gflat line_len (by omega) q1 hx
          subst hA1
          have a0 := hc1 0 _ (by omega) rfl
          have a1 := hc1 1 _ (by omega) rfl
          have a2 := hc1 2 _ (by omega) rfl
          have a3 := hc1 3 _ (by omega) rfl
          have a4 := hc1 4 _ (by omega) rfl
          have a5 := hc1 5 _ (by omega) rfl
          have a6 := hc1 6 _ (by omega) rfl
          simp only [Nat.add_zero] at a0
          obtain ⟨b', off', hA', -, hbl', x0, -, -, -⟩ := ((HE.out.fr0 HFR.out).fr0 hfw) N el HEL.out
          rw [HD.out] at x0
          subst hA'
          have HSU := Lib.hid (longTo_succ (d := d) hx)
          have hbk := R1.out.1
          have e0 := hbk.cell 0
          have e1 := hbk.cell 1
          have e2 := hbk.cell 2
          have e3 := hbk.cell 3
          have e4 := hbk.cell 4
          have e5 := hbk.cell 5
          have e6 := hbk.cell 6
          have y0 := hbk.free 0
          have y1 := hbk.free 1
          have y2 := hbk.free 2
          have y3 := hbk.free 3
          have y4 := hbk.free 4
          have y5 := hbk.free 5
          have y6 := hbk.free 6
          have hbkl := hbk.lt
          unfold lineCells at e0 e1 e2 e3 e4 e5 e6
          simp only [List.getElem?_toArray, List.getElem?_cons_zero, List.getElem?_cons_succ] at e0 e1 e2 e3 e4 e5 e6
          have hal : Fr No wr (wr.alloc (.cells (lineCells x) 26)) := (Fr.refl _ _).alloc _
          have hka := hbk.alloc (.cells #[.int .i64 x.life, .int .i64 x.opened, .int .i64 x.ended, .int .i64 x.objs, .int .i64 x.wds, .int .i64 x.pages, .bool x.bounded] 26)
          have hfa := R1.out.2.alloc (.cells #[.int .i64 x.life, .int .i64 x.opened, .int .i64 x.ended, .int .i64 x.objs, .int .i64 x.wds, .int .i64 x.pages, .bool x.bounded] 26)
          have HK := Lib.hid (And.intro hka hfa)
          have hkl := hbk
          unfold lineCells at hkl
          have HPX := Lib.hid (And.intro ((hkl.put7 (.int .i64 x.life) (.int .i64 x.opened) (.int .i64 x.ended) (.int .i64 x.objs) (.int .i64 x.wds) (.int .i64 x.pages) (.bool x.bounded)).alloc (.cells #[.int .i64 x.life, .int .i64 x.opened, .int .i64 x.ended, .int .i64 x.objs, .int .i64 x.wds, .int .i64 x.pages, .bool x.bounded] 26))
            ((R1.out.2.put7 (b := w1.heap.size) (.inl rfl) (.int .i64 x.life) (.int .i64 x.opened) (.int .i64 x.ended) (.int .i64 x.objs) (.int .i64 x.wds) (.int .i64 x.pages) (.bool x.bounded)).alloc (.cells #[.int .i64 x.life, .int .i64 x.opened, .int .i64 x.ended, .int .i64 x.objs, .int .i64 x.wds, .int .i64 x.pages, .bool x.bounded] 26)))
          have HBN : Hid (∀ W : World, W.heap.size = wr.heap.size → LongS wr.heap.size x (W.alloc (.cells #[.int .i64 x.life, .int .i64 x.opened, .int .i64 x.ended, .int .i64 x.objs, .int .i64 x.wds, .int .i64 x.pages, .bool x.bounded] 26)).drew) := fun W hW => LongS.of (Blk.new' W (lineCells x) 26 wr.heap.size hW.symm).drew
          clear hka hfa hkl
          generalize hp : longTo d lf k = p at *
          obtain ⟨best, most⟩ := p
          simp only at e0 e1 e2 e3 e4 e5 e6 hbd
          obtain ⟨e, hte, hcase⟩ : ∃ e, x.till d = e ∧ ((x.ended < 0 ∧ e = d) ∨ (¬ x.ended < 0 ∧ e = x.ended)) := by
            unfold Lf.till
            by_cases h : x.ended < 0
            · exact ⟨d, by rw [if_pos h], .inl ⟨h, rfl⟩⟩
            · exact ⟨x.ended, by rw [if_neg h], .inr ⟨h, rfl⟩⟩
          rw [hte] at HSU
          clear hx hc1 q1 hbk hal hte hp
          rcases hcase with ⟨hen, hed⟩ | ⟨hen, rfl⟩
          · have hen' : decide (x.ended < 0) = true := decide_eq_true hen
            subst hed
            by_cases hgt : most < e - x.opened
            · have hg : decide (most < e - x.opened) = true := decide_eq_true hgt
              rw [if_pos hgt] at HSU
              go_wp2_with fail
              refine region_reads (LongS wr.heap.size x) [0, 1, 2, 3, 4] [5, 6] 6 (by kernel_rfl) (by kernel_rfl) (LongS.of (Blk.new wr (lineCells x) 26).drew) ?_
              simp only [picks, picksN, List.filterMap_cons, List.getElem?_cons_zero, List.getElem?_cons_succ, List.filterMap_nil, Option.map_some]
              repeat
                refine wpHeld_want ?_ (by rfl) (fun W hW => ?_) ?_
                rotate_left
                · unfold LongS at hW
                  go_simp
                  try with_reducible rfl
                simp only [Act.put, List.setIfInBounds_toArray, List.set_cons_zero, List.set_cons_succ]
              refine wpHeld_nil ?_
              refine wpKeepL_step rfl (fun K hK => ?_)
              go_simp
              refine hK _ _ (fun _ => HBN.out _ (by simp)) ?_
              clear hK K
              refine wpKeepL_step rfl (fun K hK => ?_)
              go_simp
              refine hK _ _ (fun h => absurd h (by omega)) ?_
              clear hK K
              refine wpKeepL_nil ?_
              refine NoPanic.normal ?_
              go_wp2_with fail
              go_roundw
              case rel =>
                refine ⟨k + 1, by go_num, by omega, (by rw [HSU.out]; have h1 := HXO.out; rw [IntKind.wrap_i64]; simp only; congr 1; omega), Lib.hid ⟨by rw [HSU.out]; exact HPX.out.1.drew, HPX.out.2.drew⟩⟩
              case measure => simp [intOf]; omega
            · have hg : decide (most < e - x.opened) = false := decide_eq_false hgt
              rw [if_neg hgt] at HSU
              go_wp2_with fail
              go_roundw
              case rel => exact ⟨k + 1, by go_num, by omega, by rw [HSU.out], Lib.hid ⟨by rw [HSU.out]; exact HK.out.1, HK.out.2⟩⟩
              case measure => simp [intOf]; omega
          · have hen' : decide (x.ended < 0) = false := decide_eq_false hen
            by_cases hgt : most < x.ended - x.opened
            · have hg : decide (most < x.ended - x.opened) = true := decide_eq_true hgt
              rw [if_pos hgt] at HSU
              go_wp2_with fail
              refine region_reads (LongS wr.heap.size x) [0, 1, 2, 3, 4] [5, 6] 6 (by kernel_rfl) (by kernel_rfl) (LongS.of (Blk.new wr (lineCells x) 26).drew) ?_
              simp only [picks, picksN, List.filterMap_cons, List.getElem?_cons_zero, List.getElem?_cons_succ, List.filterMap_nil, Option.map_some]
              repeat
                refine wpHeld_want ?_ (by rfl) (fun W hW => ?_) ?_
                rotate_left
                · unfold LongS at hW
                  go_simp
                  try with_reducible rfl
                simp only [Act.put, List.setIfInBounds_toArray, List.set_cons_zero, List.set_cons_succ]
              refine wpHeld_nil ?_
              refine wpKeepL_step rfl (fun K hK => ?_)
              go_simp
              refine hK _ _ (fun _ => HBN.out _ (by simp)) ?_
              clear hK K
              refine wpKeepL_step rfl (fun K hK => ?_)
              go_simp
              refine hK _ _ (fun h => absurd h (by omega)) ?_
              clear hK K
              refine wpKeepL_nil ?_
              refine NoPanic.normal ?_
              go_wp2_with fail
              go_roundw
              case rel =>
                refine ⟨k + 1, by go_num, by omega, (by rw [HSU.out]; have h1 := HXO.out; rw [IntKind.wrap_i64]; simp only; congr 1; omega), Lib.hid ⟨by rw [HSU.out]; exact HPX.out.1.drew, HPX.out.2.drew⟩⟩
              case measure => simp [intOf]; omega
            · have hg : decide (most < x.ended - x.opened) = false := decide_eq_false hgt
              rw [if_neg hgt] at HSU
              go_wp2_with fail
              go_roundw
              case rel => exact ⟨k + 1, by go_num, by omega, by rw [HSU.out], Lib.hid ⟨by rw [HSU.out]; exact HK.out.1, HK.out.2⟩⟩
              case measure => simp [intOf]; omega
        · have hk2 : k = lf.length := by omega
          have hbk := R1.out.1
          rw [hk2] at hbk
          generalize hp : (longTo d lf lf.length).1 = best at *
          have HP := Lib.hid hp
          have e0 := hbk.cell 0
          have e1 := hbk.cell 1
          have e2 := hbk.cell 2
          have e3 := hbk.cell 3
          have e4 := hbk.cell 4
          have e5 := hbk.cell 5
          have e6 := hbk.cell 6
          have hbkl := hbk.lt
          unfold lineCells at e0 e1 e2 e3 e4 e5 e6
          simp only [List.getElem?_toArray, List.getElem?_cons_zero, List.getElem?_cons_succ] at e0 e1 e2 e3 e4 e5 e6
          have hrb : Blk wr w.heap.size #[.int .i64 0, .int .i64 0, .int .i64 0, .int .i64 0, .int .i64 0, .int .i64 0, .bool false] 26 := hfw.blk hbx2 (fun e => e.elim)
          have hfz := HFR.out.trans hfw
          have HPUT2 := Lib.hid (And.intro (hrb.put7 (.int .i64 best.life) (.int .i64 best.opened) (.int .i64 best.ended) (.int .i64 best.objs) (.int .i64 best.wds) (.int .i64 best.pages) (.bool best.bounded)) (hfz.put7 (b := w.heap.size) (.inr (Nat.le_refl _)) (.int .i64 best.life) (.int .i64 best.opened) (.int .i64 best.ended) (.int .i64 best.objs) (.int .i64 best.wds) (.int .i64 best.pages) (.bool best.bounded)))
          have y0 := hrb.free 0
          have y1 := hrb.free 1
          have y2 := hrb.free 2
          have y3 := hrb.free 3
          have y4 := hrb.free 4
          have y5 := hrb.free 5
          have y6 := hrb.free 6
          have x0 : wr.cell? ⟨w.heap.size, 0, none⟩ = some (.int .i64 0) := hrb.cell 0
          have x1 : wr.cell? ⟨w.heap.size, 1, none⟩ = some (.int .i64 0) := hrb.cell 1
          have x2 : wr.cell? ⟨w.heap.size, 2, none⟩ = some (.int .i64 0) := hrb.cell 2
          have x3 : wr.cell? ⟨w.heap.size, 3, none⟩ = some (.int .i64 0) := hrb.cell 3
          have x4 : wr.cell? ⟨w.heap.size, 4, none⟩ = some (.int .i64 0) := hrb.cell 4
          have x5 : wr.cell? ⟨w.heap.size, 5, none⟩ = some (.int .i64 0) := hrb.cell 5
          have x6 : wr.cell? ⟨w.heap.size, 6, none⟩ = some (.bool false) := hrb.cell 6
          have hrl2 := hrb.lt
          clear hbk hrb hbx2 hfz hp hfw
          go_wp2_with fail
          obtain ⟨hb2, hf2⟩ := HPUT2.out
          have d0 := hb2.cell 0
          have d1 := hb2.cell 1
          have d2 := hb2.cell 2
          have d3 := hb2.cell 3
          have d4 := hb2.cell 4
          have d5 := hb2.cell 5
          have d6 := hb2.cell 6
          simp only [List.getElem?_toArray, List.getElem?_cons_zero, List.getElem?_cons_succ] at d0 d1 d2 d3 d4 d5 d6
          generalize hw2 : World.setCell _ ⟨w.heap.size, 6, none⟩ _ = w2 at *
          refine bodyPost_ret (v := .tuple #[.agg #[.int .i64 best.life, .int .i64 best.opened, .int .i64 best.ended, .int .i64 best.objs, .int .i64 best.wds, .int .i64 best.pages, .bool best.bounded], .int .i64 0]) (by simp [results, Tryd.results7, go_sem, d0, d1, d2, d3, d4, d5, d6]) rfl ⟨hf2, by rw [HV.out.1, HV.out.2]; (try rw [HP.out])⟩
end Go.Proofs.YtnloffjjlhhanaaDoor
