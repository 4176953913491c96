/- The reference's Longest. -/
import Derived.Test.YtnloffjjlhhanaaDoorLongest
set_option linter.unusedVariables false
set_option linter.unusedSimpArgs false
namespace Go.Proofs.YtnloffjjlhhanaaDoor
open Go.RowKit
open Go.Proofs

/-- What gone leaves of all events. -/
def GoneAll (w : World) (l : List Ev) (en : Ending) (w' : World) : Prop :=
  Fr No w w' ∧ match playP l with
  | none => ∃ v, en = .returned (.tuple #[.pointer v, .bool false])
  | some tr => ∃ rt A c B, en = .returned (.tuple #[.pointer (some ⟨rt, 0, none⟩), .bool true]) ∧ w'.cell? ⟨rt, 0, none⟩ = some (.slice A (finalOf tr).lf.length c) ∧ rt < w'.heap.size ∧ w'.ownsRow B 31 9 (.slice A (finalOf tr).lf.length c) (finalOf tr).lf.length ((finalOf tr).lf.flatMap Lf.row)
theorem goneAll (w : World) (A : Option Addr) (cap : Nat) (l : List Ev) (hev : Evs w.heap.size w A l) (hl : l.length ≤ 2000) (hcap : l.length ≤ cap) :
    Calls Tryd.prog 22 #[.slice A l.length cap, .int .i64 (-1)] w (GoneAll w l) := by
  refine (gone_any w A cap l (-1) hev hl hcap).mono ?_
  intro en w' h
  unfold GonePost at h
  refine ⟨h.1, ?_⟩
  cases hp : playP l with
  | none =>
    have hr := right_same hl
    rw [hp] at hr
    unfold rightR at hr
    cases ha : Tr.init.adds l with
    | none => rw [ha] at h; exact ⟨_, h.2⟩
    | some t =>
      rw [ha] at h hr
      obtain ⟨-, R, tb, -, h2, -⟩ := h
      simp only [Option.isSome_none] at hr
      rw [hr] at h2
      exact ⟨_, h2⟩
  | some tr =>
    obtain ⟨r, s, hfin⟩ := (play_good hl hp).fin
    have hfin' : Tr.init.adds l = some (Tr.of (lastSt St.init tr) r s) := hfin
    rw [hfin'] at h
    obtain ⟨-, R, tb, h1, h2, h3, h4⟩ := h
    rw [upto_neg l (by omega), hfin', lastSt_final] at h1
    simp only [Option.some.injEq] at h1
    subst h1
    exact ⟨R.t, R.Al, R.cl, w.heap.size, h2, h3.blk.cell 0, h3.blk.lt, h3.rowl⟩
def LongS9 (bx : Nat) (x : Lf) (W : World) : Prop :=
  W.cell? ⟨bx, 0, none⟩ = some (.int .i64 x.life) ∧ W.cell? ⟨bx, 1, none⟩ = some (.int .i64 x.opened) ∧ W.cell? ⟨bx, 2, none⟩ = some (.int .i64 x.ended) ∧ W.cell? ⟨bx, 3, none⟩ = some (.int .i64 x.objs) ∧ W.cell? ⟨bx, 4, none⟩ = some (.int .i64 x.wds) ∧ W.cell? ⟨bx, 5, none⟩ = some (.int .i64 x.pages) ∧ W.cell? ⟨bx, 6, none⟩ = some (.bool x.bounded) ∧ W.cell? ⟨bx, 7, none⟩ = some (.int .i64 x.words) ∧ W.cell? ⟨bx, 8, none⟩ = some (.int .i64 x.fin)
theorem LongS9.of {bx : Nat} {x : Lf} {W : World} {t : TypeId} (h : Blk W bx (rowCells x) t) : LongS9 bx x W := ⟨h.cell 0, h.cell 1, h.cell 2, h.cell 3, h.cell 4, h.cell 5, h.cell 6, h.cell 7, h.cell 8⟩

set_option maxRecDepth 100000 in
set_option maxHeartbeats 600000 in
theorem refLongest (w : World) (A : Option Addr) (cap : Nat) (l : List Ev) (hev : Evs w.heap.size w A l) (hl : l.length ≤ 2000) (hcap : l.length ≤ cap) :
    Calls Tryd.prog 8 #[.slice A l.length cap] w fun e w' => Fr No w w' ∧ e = .returned (.tuple #[.agg #[.int .i64 (longL l).life, .int .i64 (longL l).opened, .int .i64 (longL l).ended, .int .i64 (longL l).objs, .int .i64 (longL l).wds, .int .i64 (longL l).pages, .bool (longL l).bounded, .int .i64 (longL l).words, .int .i64 (longL l).fin], .int .i64 (longE l)]) := by
  have hal : Fr No w (w.alloc (.cells #[.int .i64 0, .int .i64 0, .int .i64 0, .int .i64 0, .int .i64 0, .int .i64 0, .bool false, .int .i64 0, .int .i64 0] 31)) := (Fr.refl _ _).alloc _
  have HLN := Lib.hid (goneAll _ A cap l (hev.rebase hal) hl hcap)
  have HE := Lib.hid hev
  have HL := Lib.hid hl
  have HAL := Lib.hid hal
  clear hev hal
  go_enter Tryd.func8, Tryd.ntmps8
  go_wp2_with fail
  refine HLN.out.mono ?_
  intro en w1 hp
  unfold GoneAll at hp
  have hfr := HAL.out.trans hp.1
  have HFR := Lib.hid hfr
  have hbx : Blk w1 w.heap.size #[.int .i64 0, .int .i64 0, .int .i64 0, .int .i64 0, .int .i64 0, .int .i64 0, .bool false, .int .i64 0, .int .i64 0] 31 := hp.1.blk (Blk.new _ _ _) (fun e => e.elim)
  have HBX := Lib.hid hbx
  have hrl := hbx.lt
  have z0 := hbx.free 0
  have z1 := hbx.free 1
  have z2 := hbx.free 2
  have z3 := hbx.free 3
  have z4 := hbx.free 4
  have z5 := hbx.free 5
  have z6 := hbx.free 6
  have z7 := hbx.free 7
  have z8 := hbx.free 8
  have c0 : w1.cell? ⟨w.heap.size, 0, none⟩ = some (.int .i64 0) := hbx.cell 0
  have c1 : w1.cell? ⟨w.heap.size, 1, none⟩ = some (.int .i64 0) := hbx.cell 1
  have c2 : w1.cell? ⟨w.heap.size, 2, none⟩ = some (.int .i64 0) := hbx.cell 2
  have c3 : w1.cell? ⟨w.heap.size, 3, none⟩ = some (.int .i64 0) := hbx.cell 3
  have c4 : w1.cell? ⟨w.heap.size, 4, none⟩ = some (.int .i64 0) := hbx.cell 4
  have c5 : w1.cell? ⟨w.heap.size, 5, none⟩ = some (.int .i64 0) := hbx.cell 5
  have c6 : w1.cell? ⟨w.heap.size, 6, none⟩ = some (.bool false) := hbx.cell 6
  have c7 : w1.cell? ⟨w.heap.size, 7, none⟩ = some (.int .i64 0) := hbx.cell 7
  have c8 : w1.cell? ⟨w.heap.size, 8, none⟩ = some (.int .i64 0) := hbx.cell 8
  have HPUT := Lib.hid (fun v0 v1 v2 v3 v4 v5 v6 v7 v8 => And.intro (hbx.put9 v0 v1 v2 v3 v4 v5 v6 v7 v8) (hfr.put9 (b := w.heap.size) (.inr (Nat.le_refl _)) v0 v1 v2 v3 v4 v5 v6 v7 v8))
  cases hpl : playP l with
  | none =>
    have HV : Hid (longL l = Lf.zero ∧ longE l = 100) := by unfold Hid longL longE; rw [hpl]; exact ⟨rfl, rfl⟩
    rw [hpl] at hp
    obtain ⟨-, v, rfl⟩ := hp
    clear hpl hfr hbx
    go_wp2_with fail
    obtain ⟨hb2, hf2⟩ := HPUT.out (.int .i64 0) (.int .i64 0) (.int .i64 0) (.int .i64 0) (.int .i64 0) (.int .i64 0) (.bool false) (.int .i64 0) (.int .i64 0)
    have d0 := hb2.cell 0
    have d1 := hb2.cell 1
    have d2 := hb2.cell 2
    have d3 := hb2.cell 3
    have d4 := hb2.cell 4
    have d5 := hb2.cell 5
    have d6 := hb2.cell 6
    have d7 := hb2.cell 7
    have d8 := hb2.cell 8
    simp only [List.getElem?_toArray, List.getElem?_cons_zero, List.getElem?_cons_succ] at d0 d1 d2 d3 d4 d5 d6 d7 d8
    generalize hw2 : World.setCell _ ⟨w.heap.size, 8, none⟩ _ = w2 at *
    refine bodyPost_ret (v := .tuple #[.agg #[.int .i64 0, .int .i64 0, .int .i64 0, .int .i64 0, .int .i64 0, .int .i64 0, .bool false, .int .i64 0, .int .i64 0], .int .i64 100]) (by simp [results, Tryd.results8, go_sem, d0, d1, d2, d3, d4, d5, d6, d7, d8]) rfl ⟨hf2, by rw [HV.out.1, HV.out.2]; rfl⟩
  | some tr =>
    have hob := final_obd HL.out hpl
    have hlb := (final_bdD HL.out hpl).lf
    rw [hpl] at hp
    obtain ⟨-, rt, A1, c9, B1, rfl, ht0, htl, hrow⟩ := hp
    by_cases hz : (finalOf tr).lf.length = 0
    · have HV : Hid (longL l = Lf.zero ∧ longE l = 2) := by unfold Hid longL longE; rw [hpl]; simp only [if_pos hz]; exact ⟨trivial, trivial⟩
      rw [hz] at ht0
      clear hpl hfr hbx hrow hob hlb hz
      go_wp2_with fail
      obtain ⟨hb2, hf2⟩ := HPUT.out (.int .i64 0) (.int .i64 0) (.int .i64 0) (.int .i64 0) (.int .i64 0) (.int .i64 0) (.bool false) (.int .i64 0) (.int .i64 0)
      have d0 := hb2.cell 0
      have d1 := hb2.cell 1
      have d2 := hb2.cell 2
      have d3 := hb2.cell 3
      have d4 := hb2.cell 4
      have d5 := hb2.cell 5
      have d6 := hb2.cell 6
      have d7 := hb2.cell 7
      have d8 := hb2.cell 8
      simp only [List.getElem?_toArray, List.getElem?_cons_zero, List.getElem?_cons_succ] at d0 d1 d2 d3 d4 d5 d6 d7 d8
      generalize hw2 : World.setCell _ ⟨w.heap.size, 8, none⟩ _ = w2 at *
      refine bodyPost_ret (v := .tuple #[.agg #[.int .i64 0, .int .i64 0, .int .i64 0, .int .i64 0, .int .i64 0, .int .i64 0, .bool false, .int .i64 0, .int .i64 0], .int .i64 2]) (by simp [results, Tryd.results8, go_sem, d0, d1, d2, d3, d4, d5, d6, d7, d8]) rfl ⟨hf2, by rw [HV.out.1, HV.out.2]; rfl⟩
    · have HV : Hid (longL l = (longTo (lastStep l) (finalOf tr).lf (finalOf tr).lf.length).1 ∧ longE l = 0) := by unfold Hid longL longE; rw [hpl]; simp only [if_neg hz]; exact ⟨trivial, trivial⟩
      have hne : l ≠ [] := fun hn => hz (by rw [final_nil HL.out hpl hn]; rfl)
      obtain ⟨el, hel⟩ : ∃ el, l.getLast? = some el := by
        cases h : l.getLast? with
        | none => exact absurd (List.getLast?_eq_none_iff.1 h) hne
        | some e => exact ⟨e, rfl⟩
      have hss : 0 ≤ el.step ∧ el.step ≤ 20000 := by
        have hall : ∀ (l : List Ev) (p : Int), stepsFrom p l = true → ∀ x ∈ l, 0 ≤ x.step ∧ x.step ≤ 20000 := by
          intro l
          induction l with
          | nil => intro p _ x hx; cases hx
          | cons a l ih =>
            intro p hp x hx
            simp only [stepsFrom, Bool.and_eq_true, decide_eq_true_eq] at hp
            rcases List.mem_cons.1 hx with rfl | hx
            · exact ⟨hp.1.1.2, hp.1.2⟩
            · exact ih _ hp.2 x hx
        have hst : stepsFrom 0 l = true := by
          unfold playP at hpl
          split at hpl
          · assumption
          · cases hpl
        exact hall l 0 hst el (List.mem_of_getLast? hel)
      have hlast : lastStep l = el.step := by unfold lastStep; rw [hel]
      obtain ⟨N, hN⟩ : ∃ N, l.length = N + 1 := ⟨l.length - 1, by have := List.length_pos_iff.2 hne; omega⟩
      have helN : l[N]? = some el := by rw [List.getLast?_eq_getElem?, hN] at hel; exact hel
      have HEL := Lib.hid helN
      rw [hlast] at HV
      generalize hd : el.step = d at *
      have HD := Lib.hid hd
      generalize hlf : (finalOf tr).lf = lf at *
      have HOB := Lib.hid hob
      have HROW := Lib.hid hrow
      have HN := Lib.hid hN
      have hlf4 : lf.length ≤ 4000 := by omega
      rw [hN] at hl hcap ⊢
      have hz' : ((lf.length : Int) == 0) = false := beq_eq_false_iff_ne.2 (by omega)
      have hbx2 := hbx
      clear hpl hfr hbx hrow hob hz hne hel hlast helN hd hlf hN
      go_wp2_with fail
      go_loopw [34, 7, 9, 10, 42, 43, 44, 45, 46, 47, 48, 55, 56, 57, 58, 59] (fun iv mv _ _ _ _ _ _ _ _ _ _ _ _ _ _ wr => ∃ k : Nat, iv = .int .i64 k ∧ k ≤ lf.length ∧ mv = .int .i64 (longTo d lf k).2 ∧ Hid (Blk wr w1.heap.size (rowCells (longTo d lf k).1) 31 ∧ Fr (fun j => j = w1.heap.size) (w1.alloc (.cells (rowCells Lf.zero) 31)) wr)) (fun iv _ _ _ _ _ _ _ _ _ _ _ _ _ _ _ _ => lf.length - (intOf iv).toNat)
      case atStart => exact ⟨0, rfl, by omega, rfl, Lib.hid ⟨Blk.new _ _ _, Fr.refl _ _⟩⟩
      case round =>
        obtain ⟨k, rfl, hk, rfl, R1⟩ := hrel
        have hfw : Fr No w1 wr := ((Fr.refl No w1).alloc _).then R1.out.2 fun i hi hh => by have : i = w1.heap.size := hh; omega
        have hbd := longTo_bd HOB.out hss k
        by_cases hlt : k < lf.length
        · have hx : lf[k]? = some (lf[k]'hlt) := List.getElem?_eq_getElem _
          generalize (lf[k]'hlt) = x at hx
          have hxo := HOB.out x (List.mem_of_getElem? hx)
          have HXO := Lib.hid hxo
          have q1 := row_stays HROW.out fun j hj => hfw.block j (HROW.out.lt j hj).2 (fun e => e.elim)
          obtain ⟨g1, hA1, hc1, hg1⟩ := row_gflat row_len (by omega) q1 hx
          subst hA1
          have a0 := hc1 0 _ (by omega) rfl
          have a1 := hc1 1 _ (by omega) rfl
          have a2 := hc1 2 _ (by omega) rfl
          have a3 := hc1 3 _ (by omega) rfl
          have a4 := hc1 4 _ (by omega) rfl
          have a5 := hc1 5 _ (by omega) rfl
          have a6 := hc1 6 _ (by omega) rfl
          have a7 := hc1 7 _ (by omega) rfl
          have a8 := hc1 8 _ (by omega) rfl
          simp only [Nat.add_zero] at a0
          obtain ⟨b', off', hA', -, hbl', x0, -, -, -⟩ := ((HE.out.fr0 HFR.out).fr0 hfw) N el HEL.out
          rw [HD.out] at x0
          subst hA'
          have HSU := Lib.hid (longTo_succ (d := d) hx)
          have hbk := R1.out.1
          have e0 := hbk.cell 0
          have e1 := hbk.cell 1
          have e2 := hbk.cell 2
          have e3 := hbk.cell 3
          have e4 := hbk.cell 4
          have e5 := hbk.cell 5
          have e6 := hbk.cell 6
          have e7 := hbk.cell 7
          have e8 := hbk.cell 8
          have y0 := hbk.free 0
          have y1 := hbk.free 1
          have y2 := hbk.free 2
          have y3 := hbk.free 3
          have y4 := hbk.free 4
          have y5 := hbk.free 5
          have y6 := hbk.free 6
          have y7 := hbk.free 7
          have y8 := hbk.free 8
          have hbkl := hbk.lt
          unfold rowCells at e0 e1 e2 e3 e4 e5 e6 e7 e8
          simp only [List.getElem?_toArray, List.getElem?_cons_zero, List.getElem?_cons_succ] at e0 e1 e2 e3 e4 e5 e6 e7 e8
          have hal : Fr No wr (wr.alloc (.cells (rowCells x) 31)) := (Fr.refl _ _).alloc _
          have hka := hbk.alloc (.cells #[.int .i64 x.life, .int .i64 x.opened, .int .i64 x.ended, .int .i64 x.objs, .int .i64 x.wds, .int .i64 x.pages, .bool x.bounded, .int .i64 x.words, .int .i64 x.fin] 31)
          have hfa := R1.out.2.alloc (.cells #[.int .i64 x.life, .int .i64 x.opened, .int .i64 x.ended, .int .i64 x.objs, .int .i64 x.wds, .int .i64 x.pages, .bool x.bounded, .int .i64 x.words, .int .i64 x.fin] 31)
          have HK := Lib.hid (And.intro hka hfa)
          have hkl := hbk
          unfold rowCells at hkl
          have HPX := Lib.hid (And.intro ((hkl.put9 (.int .i64 x.life) (.int .i64 x.opened) (.int .i64 x.ended) (.int .i64 x.objs) (.int .i64 x.wds) (.int .i64 x.pages) (.bool x.bounded) (.int .i64 x.words) (.int .i64 x.fin)).alloc (.cells #[.int .i64 x.life, .int .i64 x.opened, .int .i64 x.ended, .int .i64 x.objs, .int .i64 x.wds, .int .i64 x.pages, .bool x.bounded, .int .i64 x.words, .int .i64 x.fin] 31))
            ((R1.out.2.put9 (b := w1.heap.size) (.inl rfl) (.int .i64 x.life) (.int .i64 x.opened) (.int .i64 x.ended) (.int .i64 x.objs) (.int .i64 x.wds) (.int .i64 x.pages) (.bool x.bounded) (.int .i64 x.words) (.int .i64 x.fin)).alloc (.cells #[.int .i64 x.life, .int .i64 x.opened, .int .i64 x.ended, .int .i64 x.objs, .int .i64 x.wds, .int .i64 x.pages, .bool x.bounded, .int .i64 x.words, .int .i64 x.fin] 31)))
          have HBN : Hid (∀ W : World, W.heap.size = wr.heap.size → LongS9 wr.heap.size x (W.alloc (.cells #[.int .i64 x.life, .int .i64 x.opened, .int .i64 x.ended, .int .i64 x.objs, .int .i64 x.wds, .int .i64 x.pages, .bool x.bounded, .int .i64 x.words, .int .i64 x.fin] 31)).drew) := fun W hW => LongS9.of (Blk.new' W (rowCells x) 31 wr.heap.size hW.symm).drew
          clear hka hfa hkl
          generalize hp : longTo d lf k = p at *
          obtain ⟨best, most⟩ := p
          simp only at e0 e1 e2 e3 e4 e5 e6 e7 e8 hbd
          obtain ⟨e, hte, hcase⟩ : ∃ e, x.till d = e ∧ ((x.ended < 0 ∧ e = d) ∨ (¬ x.ended < 0 ∧ e = x.ended)) := by
            unfold Lf.till
            by_cases h : x.ended < 0
            · exact ⟨d, by rw [if_pos h], .inl ⟨h, rfl⟩⟩
            · exact ⟨x.ended, by rw [if_neg h], .inr ⟨h, rfl⟩⟩
          rw [hte] at HSU
          clear hx hc1 q1 hbk hal hte hp
          rcases hcase with ⟨hen, hed⟩ | ⟨hen, rfl⟩
          · have hen' : decide (x.ended < 0) = true := decide_eq_true hen
            subst hed
            by_cases hgt : most < e - x.opened
            · have hg : decide (most < e - x.opened) = true := decide_eq_true hgt
              rw [if_pos hgt] at HSU
              go_wp2_with fail
              refine region_reads (LongS9 wr.heap.size x) [0, 1, 2, 3, 4] [5, 6] 6 (by kernel_rfl) (by kernel_rfl) (LongS9.of (Blk.new wr (rowCells x) 31).drew) ?_
              simp only [picks, picksN, List.filterMap_cons, List.getElem?_cons_zero, List.getElem?_cons_succ, List.filterMap_nil, Option.map_some]
              repeat
                refine wpHeld_want ?_ (by rfl) (fun W hW => ?_) ?_
                rotate_left
                · unfold LongS9 at hW
                  go_simp
                  try with_reducible rfl
                simp only [Act.put, List.setIfInBounds_toArray, List.set_cons_zero, List.set_cons_succ]
              refine wpHeld_nil ?_
              refine wpKeepL_step rfl (fun K hK => ?_)
              go_simp
              refine hK _ _ (fun _ => HBN.out _ (by simp)) ?_
              clear hK K
              refine wpKeepL_step rfl (fun K hK => ?_)
              go_simp
              refine hK _ _ (fun h => absurd h (by omega)) ?_
              clear hK K
              refine wpKeepL_nil ?_
              refine NoPanic.normal ?_
              go_wp2_with fail
              go_roundw
              case rel =>
                refine ⟨k + 1, by go_num, by omega, (by rw [HSU.out]; have h1 := HXO.out; rw [IntKind.wrap_i64]; simp only; congr 1; omega), Lib.hid ⟨by rw [HSU.out]; exact HPX.out.1.drew, HPX.out.2.drew⟩⟩
              case measure => simp [intOf]; omega
            · have hg : decide (most < e - x.opened) = false := decide_eq_false hgt
              rw [if_neg hgt] at HSU
              go_wp2_with fail
              go_roundw
              case rel => exact ⟨k + 1, by go_num, by omega, by rw [HSU.out], Lib.hid ⟨by rw [HSU.out]; exact HK.out.1, HK.out.2⟩⟩
              case measure => simp [intOf]; omega
          · have hen' : decide (x.ended < 0) = false := decide_eq_false hen
            by_cases hgt : most < x.ended - x.opened
            · have hg : decide (most < x.ended - x.opened) = true := decide_eq_true hgt
              rw [if_pos hgt] at HSU
              go_wp2_with fail
              refine region_reads (LongS9 wr.heap.size x) [0, 1, 2, 3, 4] [5, 6] 6 (by kernel_rfl) (by kernel_rfl) (LongS9.of (Blk.new wr (rowCells x) 31).drew) ?_
              simp only [picks, picksN, List.filterMap_cons, List.getElem?_cons_zero, List.getElem?_cons_succ, List.filterMap_nil, Option.map_some]
              repeat
                refine wpHeld_want ?_ (by rfl) (fun W hW => ?_) ?_
                rotate_left
                · unfold LongS9 at hW
                  go_simp
                  try with_reducible rfl
                simp only [Act.put, List.setIfInBounds_toArray, List.set_cons_zero, List.set_cons_succ]
              refine wpHeld_nil ?_
              refine wpKeepL_step rfl (fun K hK => ?_)
              go_simp
              refine hK _ _ (fun _ => HBN.out _ (by simp)) ?_
              clear hK K
              refine wpKeepL_step rfl (fun K hK => ?_)
              go_simp
              refine hK _ _ (fun h => absurd h (by omega)) ?_
              clear hK K
              refine wpKeepL_nil ?_
              refine NoPanic.normal ?_
              go_wp2_with fail
              go_roundw
              case rel =>
                refine ⟨k + 1, by go_num, by omega, (by rw [HSU.out]; have h1 := HXO.out; rw [IntKind.wrap_i64]; simp only; congr 1; omega), Lib.hid ⟨by rw [HSU.out]; exact HPX.out.1.drew, HPX.out.2.drew⟩⟩
              case measure => simp [intOf]; omega
            · have hg : decide (most < x.ended - x.opened) = false := decide_eq_false hgt
              rw [if_neg hgt] at HSU
              go_wp2_with fail
              go_roundw
              case rel => exact ⟨k + 1, by go_num, by omega, by rw [HSU.out], Lib.hid ⟨by rw [HSU.out]; exact HK.out.1, HK.out.2⟩⟩
              case measure => simp [intOf]; omega
        · have hk2 : k = lf.length := by omega
          have hbk := R1.out.1
          rw [hk2] at hbk
          generalize hp : (longTo d lf lf.length).1 = best at *
          have HP := Lib.hid hp
          have e0 := hbk.cell 0
          have e1 := hbk.cell 1
          have e2 := hbk.cell 2
          have e3 := hbk.cell 3
          have e4 := hbk.cell 4
          have e5 := hbk.cell 5
          have e6 := hbk.cell 6
          have e7 := hbk.cell 7
          have e8 := hbk.cell 8
          have hbkl := hbk.lt
          unfold rowCells at e0 e1 e2 e3 e4 e5 e6 e7 e8
          simp only [List.getElem?_toArray, List.getElem?_cons_zero, List.getElem?_cons_succ] at e0 e1 e2 e3 e4 e5 e6 e7 e8
          have hrb : Blk wr w.heap.size #[.int .i64 0, .int .i64 0, .int .i64 0, .int .i64 0, .int .i64 0, .int .i64 0, .bool false, .int .i64 0, .int .i64 0] 31 := hfw.blk hbx2 (fun e => e.elim)
          have hfz := HFR.out.trans hfw
          have HPUT2 := Lib.hid (And.intro (hrb.put9 (.int .i64 best.life) (.int .i64 best.opened) (.int .i64 best.ended) (.int .i64 best.objs) (.int .i64 best.wds) (.int .i64 best.pages) (.bool best.bounded) (.int .i64 best.words) (.int .i64 best.fin)) (hfz.put9 (b := w.heap.size) (.inr (Nat.le_refl _)) (.int .i64 best.life) (.int .i64 best.opened) (.int .i64 best.ended) (.int .i64 best.objs) (.int .i64 best.wds) (.int .i64 best.pages) (.bool best.bounded) (.int .i64 best.words) (.int .i64 best.fin)))
          have y0 := hrb.free 0
          have y1 := hrb.free 1
          have y2 := hrb.free 2
          have y3 := hrb.free 3
          have y4 := hrb.free 4
          have y5 := hrb.free 5
          have y6 := hrb.free 6
          have y7 := hrb.free 7
          have y8 := hrb.free 8
          have x0 : wr.cell? ⟨w.heap.size, 0, none⟩ = some (.int .i64 0) := hrb.cell 0
          have x1 : wr.cell? ⟨w.heap.size, 1, none⟩ = some (.int .i64 0) := hrb.cell 1
          have x2 : wr.cell? ⟨w.heap.size, 2, none⟩ = some (.int .i64 0) := hrb.cell 2
          have x3 : wr.cell? ⟨w.heap.size, 3, none⟩ = some (.int .i64 0) := hrb.cell 3
          have x4 : wr.cell? ⟨w.heap.size, 4, none⟩ = some (.int .i64 0) := hrb.cell 4
          have x5 : wr.cell? ⟨w.heap.size, 5, none⟩ = some (.int .i64 0) := hrb.cell 5
          have x6 : wr.cell? ⟨w.heap.size, 6, none⟩ = some (.bool false) := hrb.cell 6
          have x7 : wr.cell? ⟨w.heap.size, 7, none⟩ = some (.int .i64 0) := hrb.cell 7
          have x8 : wr.cell? ⟨w.heap.size, 8, none⟩ = some (.int .i64 0) := hrb.cell 8
          have hrl2 := hrb.lt
          clear hbk hrb hbx2 hfz hp hfw
          go_wp2_with fail
          obtain ⟨hb2, hf2⟩ := HPUT2.out
          have d0 := hb2.cell 0
          have d1 := hb2.cell 1
          have d2 := hb2.cell 2
          have d3 := hb2.cell 3
          have d4 := hb2.cell 4
          have d5 := hb2.cell 5
          have d6 := hb2.cell 6
          have d7 := hb2.cell 7
          have d8 := hb2.cell 8
          simp only [List.getElem?_toArray, List.getElem?_cons_zero, List.getElem?_cons_succ] at d0 d1 d2 d3 d4 d5 d6 d7 d8
          generalize hw2 : World.setCell _ ⟨w.heap.size, 8, none⟩ _ = w2 at *
          refine bodyPost_ret (v := .tuple #[.agg #[.int .i64 best.life, .int .i64 best.opened, .int .i64 best.ended, .int .i64 best.objs, .int .i64 best.wds, .int .i64 best.pages, .bool best.bounded, .int .i64 best.words, .int .i64 best.fin], .int .i64 0]) (by simp [results, Tryd.results8, go_sem, d0, d1, d2, d3, d4, d5, d6, d7, d8]) rfl ⟨hf2, by rw [HV.out.1, HV.out.2]; (try rw [HP.out])⟩
end Go.Proofs.YtnloffjjlhhanaaDoor
