/- The reference's graph. -/
import Derived.Test.YtnloffjjlhhanaaPureF
set_option linter.unusedVariables false
set_option linter.unusedSimpArgs false
namespace Go.Proofs.Ytnloffjjlhhanaa
open Go.RowKit
open Go.Proofs

/-- How many points a graph has. -/
def stepsN (d s : Nat) : Nat := (d + s - 1) / s + 1
theorem stepsN_is {d s j : Nat} (hs : 0 < s) (h1 : d ≤ j * s) (h2 : j = 0 ∨ j * s < d + s) : stepsN d s = j + 1 := by
  unfold stepsN
  congr 1
  refine Nat.div_eq_of_lt_le ?_ ?_
  · rcases h2 with rfl | h2
    · omega
    · omega
  · rw [Nat.succ_mul]; omega
def pts (l : List Ev) (s j : Nat) : List Int := (List.range j).map fun i => pgAt l ((i * s : Nat) : Int)
theorem pts_len (l : List Ev) (s j : Nat) : (pts l s j).length = j := by simp [pts]
theorem pts_succ (l : List Ev) (s j : Nat) : pts l s (j + 1) = pts l s j ++ [pgAt l ((j * s : Nat) : Int)] := by simp [pts, List.range_succ]
def graphOf (l : List Ev) (s : Nat) : List Int := match l.getLast? with | none => [] | some e => pts l s (stepsN e.step.toNat s)

theorem upto_at : ∀ (l : List Ev) (s : Int) (a : Nat), a ≤ l.length → (∀ i e, i < a → l[i]? = some e → passes s e = true) → (∀ e, l[a]? = some e → passes s e = false) → upto l s = l.take a
  | [], s, a, ha, _, _ => by simp [upto]
  | x :: l, s, 0, ha, _, h2 => by
    have := h2 x rfl
    unfold upto
    rw [List.takeWhile_cons, this]
    rfl
  | x :: l, s, a + 1, ha, h1, h2 => by
    have h3 := h1 0 x (by omega) rfl
    have := upto_at l s a (by simpa using ha) (fun i e hi he => h1 (i + 1) e (by omega) (by simpa using he)) (fun e he => h2 e (by simpa using he))
    unfold upto at this ⊢
    rw [List.takeWhile_cons, h3, List.take_succ_cons]
    simp only [if_true]
    rw [this]

structure GrRel (w : World) (l : List Ev) (s r a j S : Nat) (A : Option Addr) (c : Nat) (wr : World) (R : Loc) (t : Tr) : Prop where
  at' : R.t = r
  fr : Fr No w wr
  tr : TrAt w.heap.size wr R t
  adds : Tr.init.adds (l.take a) = some t
  ok : TrOk a t
  row : wr.ownsRow w.heap.size 3 1 (.slice A j c) j ((pts l s j).map numI)
  apart : ∀ k, (Value.slice A 0 0).ownBlock = some k → ¬ R.foot k
  past : ∀ i e, i < a → l[i]? = some e → e.step ≤ (S : Int)
theorem GrRel.fr0 {w wr wr' : World} {l : List Ev} {s r a j S : Nat} {A : Option Addr} {c : Nat} {R : Loc} {t : Tr} (h : GrRel w l s r a j S A c wr R t) (hf : Fr No wr wr') : GrRel w l s r a j S A c wr' R t :=
  ⟨h.at', h.fr.trans hf, h.tr.fr0 hf, h.adds, h.ok, row_stays h.row fun k hk => hf.block k (h.row.lt k hk).2 (fun e => e.elim), h.apart, h.past⟩
/-- An event more. -/
theorem GrRel.next {w wr w2 : World} {l : List Ev} {s r a j S : Nat} {A : Option Addr} {c : Nat} {R R' : Loc} {t t' : Tr} {e : Ev} (h : GrRel w l s r a j S A c wr R t) (he : l[a]? = some e) (hst : e.step ≤ (S : Int)) (hadd : t.add e = some t') (hadds : Tr.init.adds (l.take (a + 1)) = some t')
    (hf : Fr R.foot wr w2) (ht : R'.t = R.t) (hT : TrAt w.heap.size w2 R' t') (hft : ∀ k, R'.foot k → R.foot k ∨ wr.heap.size ≤ k) : GrRel w l s r (a + 1) j S A c w2 R' t' := by
  refine ⟨ht.trans h.at', h.fr.then hf fun i hi hS => by have := (h.tr.foot_lt hS).1; omega, hT, hadds, add_ok h.ok hadd, row_stays h.row fun k hk => hf.block k (h.row.lt k hk).2 (h.apart k (own_eq.1 hk)), fun k hk hk2 => ?_, fun i e' hi he' => ?_⟩
  · rcases hft k hk2 with h1 | h1
    · exact h.apart k hk h1
    · have := (h.row.lt k (own_eq.2 hk)).2; omega
  · by_cases hia : i < a
    · exact h.past i e' hia he'
    · obtain rfl : i = a := by omega
      rw [he] at he'
      simp only [Option.some.injEq] at he'
      subst he'
      exact hst
/-- A point more. -/
theorem GrRel.point {w wr w2 : World} {l : List Ev} {s r a j S : Nat} {A A2 : Option Addr} {c c2 : Nat} {R : Loc} {t : Tr} {o : Obj} (h : GrRel w l s r a j S A c wr R t) (hS : S = j * s) (ha : a ≤ l.length) (hstop : ∀ e, l[a]? = some e → (S : Int) < e.step)
    (hown : w2.ownsRow w.heap.size 3 1 (.slice A2 (j + 1) c2) (j + 1) ((pts l s j).map numI ++ [numI t.pages])) (hg : (wr.alloc o).grownBy w2 (Value.slice A j c).ownBlock)
    (hw : (Value.slice A2 (j + 1) c2).ownBlock = (Value.slice A j c).ownBlock ∨ (Value.slice A2 (j + 1) c2).ownBlock = some (wr.heap.size + 1)) : GrRel w l s r a (j + 1) (S + s) A2 c2 w2 R t := by
  have hf2 : Fr (fun k => (Value.slice A 0 0).ownBlock = some k) wr w2 := Fr.grown ((Fr.refl _ _).alloc _) hg (fun k hk => .inl (own_eq.1 hk))
  have hpg : pgAt l ((j * s : Nat) : Int) = t.pages := by
    have hu : upto l ((j * s : Nat) : Int) = l.take a := upto_at l _ a ha (fun i e hi he => by have := h.past i e hi he; unfold passes; simp only [Bool.or_eq_true, decide_eq_true_eq]; omega) (fun e he => by
      have := hstop e he
      unfold passes
      simp only [Bool.or_eq_false_iff, decide_eq_false_iff_not]; omega)
    unfold pgAt
    rw [hu, h.adds]
  refine ⟨h.at', h.fr.then hf2 fun i hi hh => by have := (h.row.lt i (own_eq.2 hh)).1; omega, h.tr.fr hf2 fun k hk => h.apart k hk, h.adds, h.ok, ?_, fun k hk hk2 => ?_, fun i e hi he => by have := h.past i e hi he; omega⟩
  · rw [pts_succ, hpg, List.map_append]; exact hown
  · rw [own_is (A := A2) (n := j + 1), own_is (A := A) (n := j)] at hw
    rcases hw with h1 | h1
    · rw [h1] at hk; exact h.apart k hk hk2
    · rw [h1] at hk
      simp only [Option.some.injEq] at hk
      have := (h.tr.foot_lt hk2).2
      omega

set_option maxRecDepth 100000 in
set_option maxHeartbeats 4000000 in
theorem refgraph (w : World) (A : Option Addr) (cap : Nat) (l : List Ev) (s : Nat) (tr : List (St × Int)) (hev : Evs w.heap.size w A l) (hl : l.length ≤ 2000) (hcap : l.length ≤ cap) (hp : playP l = some tr) (hs0 : 0 < s) (hs1 : s ≤ 20000) :
    Calls Try.prog 35 #[.slice A l.length cap, .int .i64 s] w fun en w' => Fr No w w' ∧ ∃ A' c, en = .returned (.slice A' (graphOf l s).length c) ∧ w'.ownsRow w.heap.size 3 1 (.slice A' (graphOf l s).length c) (graphOf l s).length ((graphOf l s).map numI) ∧ (graphOf l s).length ≤ 40002 := by
  obtain ⟨i0, hi, hz0, hz1, hz2⟩ := info_parts info_int
  cases hg : l.getLast? with
  | none =>
    have hn : l = [] := List.getLast?_eq_none_iff.1 hg
    subst hn
    have HG : Hid (graphOf ([] : List Ev) s = []) := by unfold Hid graphOf; rfl
    clear hg hev hp
    simp only [List.length_nil]
    go_enter Try.func35, Try.ntmps35
    go_wp2_with fail
    go_ret
    rw [HG.out]
    exact ⟨Fr.refl _ _, none, 0, rfl, World.ownsRow_nil _ _ _ _, by simp⟩
  | some el =>
    have hlen : 0 < l.length := by
      cases l with
      | nil => cases hg
      | cons a l => simp
    have hel : l[l.length - 1]? = some el := by rw [← List.getLast?_eq_getElem?]; exact hg
    obtain ⟨hd0, hd1, -, -⟩ := outP_at hl hp hg
    obtain ⟨D, hD⟩ : ∃ D : Nat, el.step = D := ⟨el.step.toNat, by omega⟩
    have HG : Hid (graphOf l s = pts l s (stepsN D s)) := by unfold Hid graphOf; rw [hg]; simp only; rw [hD, Int.toNat_natCast]
    obtain ⟨rm, st, hfin⟩ := (play_good hl hp).fin
    have hfin' : Tr.init.adds l = some (Tr.of (lastSt St.init tr) rm st) := hfin
    have HFIN := Lib.hid hfin'
    obtain ⟨N, hN⟩ : ∃ N, l.length = N + 1 := ⟨l.length - 1, by omega⟩
    have HN := Lib.hid hN
    have hel' : l[N]? = some el := by rw [hN] at hel; exact hel
    have hE0 := hev N el hel'
    have HEL := Lib.hid hel'
    have HD := Lib.hid hD
    clear hel'
    obtain ⟨b, off, hA, hbB, hbl, x0, -, -, -⟩ := hE0
    subst hA
    rw [hD] at x0
    have HE := Lib.hid hev
    have hDl : D ≤ 20000 := by omega
    rw [hN] at hl hcap ⊢
    clear hg hel hd0 hd1 hfin hfin' hp hev hD hN hlen
    go_enter Try.func35, Try.ntmps35
    go_wp2_with fail
    go_loopw [5, 7, 8, 22, 23, 24, 25, 26, 27, 28] (fun ov av sv _ _ _ _ _ _ _ wr => ∃ (j a S : Nat) (A' : Option Addr) (c : Nat), ov = .slice A' j c ∧ av = .int .i64 a ∧ sv = .int .i64 S ∧ a ≤ N + 1 ∧ S ≤ 40000 ∧ j ≤ S ∧ (j = 0 ∨ S < D + s) ∧ Hid (S = j * s) ∧ Hid (∃ R t, GrRel w l s w.heap.size a j S A' c wr R t)) (fun _ _ sv _ _ _ _ _ _ _ _ => D + 1 - (intOf sv).toNat)
    case atStart =>
      exact ⟨0, 0, 0, none, 0, rfl, rfl, rfl, by omega, by omega, by omega, .inl rfl, Lib.hid (by simp), Lib.hid ⟨⟨w.heap.size, none, 0, none, 0⟩, Tr.init, rfl, (Fr.refl _ _).alloc _, TrAt.new (Nat.le_refl _) (Blk.new _ _ _), rfl, Tr.init_ok, World.ownsRow_nil _ _ _ _, fun k hk => by simp [Value.ownBlock] at hk, fun i e hi => by omega⟩⟩
    case round =>
      obtain ⟨j, a, S, A', c, rfl, rfl, rfl, ha, hS, hjS, hjD, HSJ, RR⟩ := hrel
      go_wp2_with fail
      go_loopw [7, 22, 23, 24, 25, 26, 27, 28] (fun av _ _ _ _ _ _ _ wx => ∃ a2 : Nat, av = .int .i64 a2 ∧ a2 ≤ N + 1 ∧ Hid (∃ R t, GrRel w l s w.heap.size a2 j S A' c wx R t)) (fun av _ _ _ _ _ _ _ _ => N + 1 - (intOf av).toNat)
      case atStart => exact ⟨a, rfl, ha, RR⟩
      case round =>
        obtain ⟨a2, rfl, ha2, R2⟩ := hrel
        obtain ⟨R, t, hG⟩ := R2.out
        by_cases hgo : ∃ e, l[a2]? = some e ∧ e.step ≤ (S : Int)
        · obtain ⟨e, hx, hst⟩ := hgo
          have hlt : a2 < N + 1 := by rw [← HN.out]; exact (List.getElem?_eq_some_iff.1 hx).1
          obtain ⟨b', off', hbb, -, hbl2, e0, e1, e2, e3⟩ := (HE.out.fr0 hG.fr) a2 e hx
          simp only [Option.some.injEq, Addr.mk.injEq, and_true] at hbb
          obtain ⟨rfl, rfl⟩ := hbb
          obtain ⟨t', hadd', hadds'⟩ := adds_next HFIN.out hG.adds hx
          have hadd := trAdd w.heap.size _ R t e a2 hG.tr hG.ok (by omega) hG.fr.size
          rw [hG.at'] at hadd
          unfold Ev.val AddPost at hadd
          rw [hadd'] at hadd
          have HADD := Lib.hid hadd
          have HNX := Lib.hid (fun w2 R' => hG.next (w2 := w2) (R' := R') hx hst hadd' hadds')
          clear hadd hx hG hadd' hadds'
          go_wp2_with fail
          refine HADD.out.mono ?_
          rintro en w2 ⟨hf2, rfl, R', ht', hT', hft'⟩
          have hG2 := HNX.out w2 R' hf2 ht' hT' hft'
          have HG2 := Lib.hid hG2
          clear hf2 ht' hT' hft' hG2
          go_wp2_with fail
          go_roundw
          case rel =>
            refine ⟨_, _, _, _, _, _, _, _, _, _, _, _, _, _, _, _, _, _, _, _, _, _, ?_, rfl⟩
            exact ⟨a2 + 1, by go_num, by omega, Lib.hid ⟨R', t', HG2.out⟩⟩
          case measure => simp [intOf]; omega
        · have hstop : ∀ e, l[a2]? = some e → (S : Int) < e.step := fun e he => Int.not_le.1 fun hh => hgo ⟨e, he, hh⟩
          have HSTOP := Lib.hid hstop
          have HGG := Lib.hid hG
          have hpages := trPages w.heap.size _ R t a2 hG.tr hG.ok.bd (by omega)
          rw [hG.at'] at hpages
          have HPAGES := Lib.hid hpages
          have hpb := trPages_bd hG.ok.bd (by omega)
          obtain ⟨b', off', hbb, -, hbl2, x0', -, -, -⟩ := (HE.out.fr0 hG.fr) N el HEL.out
          simp only [Option.some.injEq, Addr.mk.injEq, and_true] at hbb
          obtain ⟨rfl, rfl⟩ := hbb
          rw [HD.out] at x0'
          clear hgo hpages
          by_cases hlt : a2 < N + 1
          all_goals
            first
            | (have hx : l[a2]? = some (l[a2]'(by rw [HN.out]; exact hlt)) := List.getElem?_eq_getElem _
               generalize (l[a2]'(by rw [HN.out]; exact hlt)) = e at hx
               obtain ⟨b', off', hbb, -, -, e0, -, -, -⟩ := (HE.out.fr0 hG.fr) a2 e hx
               simp only [Option.some.injEq, Addr.mk.injEq, and_true] at hbb
               obtain ⟨rfl, rfl⟩ := hbb
               have hst := hstop e hx
               have hst2 : decide (e.step ≤ (S : Int)) = false := decide_eq_false (by omega)
               clear hx hG hstop hst
               go_wp2_with fail)
            | (clear hG hstop
               go_wp2_with fail)
            refine HPAGES.out.mono ?_
            rintro en w3 ⟨rfl, hf3⟩
            have hG3 := HGG.out.fr0 hf3
            have y0 : w3.cell? ⟨b, off + N * 4, none⟩ = some (.int .i64 (D : Int)) := by rw [hf3.cell hbl2 (fun e => e.elim)]; exact x0'
            have hbl3 : b < w3.heap.size := by have := hf3.size; omega
            have hbase := hG3.fr.size
            have HG3 := Lib.hid hG3
            clear hf3 hG3 x0'
            go_wp2_with (at_builtin; go_must (refine wpList_append_own_at _ rfl (.tmp 38) (.tmp 41) 42 rfl w.heap.size 3 i0 (.int .i64 0) 1 8 Try.underlying42 hi hz0 hz1 hz2 rfl (by decide) (.slice A' j c) j ((pts l s j).map numI) rfl ?hown ⟨w3.heap.size, 0, none⟩ 1 1 [numI t.pages] rfl rfl ?c1 ?c2 ?c3 ?c4 ?c5 ?_))
            case hown => exact World.ownsRow.alloc HG3.out.row _
            case c1 => first | exact cell_one_at _ _ _ _ rfl | exact fun j u h => h
            case c2 => simp [Value.oneCell', numI]
            case c3 => unfold maxLen; omega
            case c4 => omega
            case c5 => first | omega | (simp; omega)
            intro v' w4 hown hgrow _ hwhere
            obtain ⟨A2, c2, rfl, -⟩ := row_slice hown
            have hpt := HG3.out.point (A2 := A2) (c2 := c2) HSJ.out (by rw [HN.out]; exact ha2) HSTOP.out hown hgrow hwhere
            have hf4 : Fr No w w4 := hpt.fr
            have z0 : w4.cell? ⟨b, off + N * 4, none⟩ = some (.int .i64 (D : Int)) := by rw [hf4.cell hbl (fun e => e.elim)]; exact x0
            have hbl4 : b < w4.heap.size := by have := hf4.size; omega
            have HPT := Lib.hid hpt
            clear hown hgrow hwhere hpt hf4 y0
            by_cases hend : D ≤ S
            · have hj1 : stepsN D s = j + 1 := by
                refine stepsN_is hs0 (by rw [← HSJ.out]; exact hend) ?_
                rw [← HSJ.out]
                exact hjD
              have hgl : graphOf l s = pts l s (j + 1) := by rw [HG.out, hj1]
              have HGL := Lib.hid hgl
              clear hj1 hgl
              have hend' : decide ((D : Int) ≤ (S : Int)) = true := decide_eq_true (by omega)
              go_wp2_with fail
              go_ret
              rw [HGL.out, pts_len]
              exact ⟨HPT.out.fr, A2, c2, rfl, HPT.out.row, by omega⟩
            · have hend' : decide ((D : Int) ≤ (S : Int)) = false := decide_eq_false (by omega)
              have HSJ2 : Hid (S + s = (j + 1) * s) := by unfold Hid; rw [Nat.succ_mul, HSJ.out]
              go_wp2_with fail
              go_roundw
              case rel =>
                refine ⟨_, _, _, _, _, _, _, _, _, _, _, _, _, _, _, _, _, _, _, _, _, _, _, _, _, _, _, _, _, _, _, _, _, _, _, _, _, _, _, _, _, _, _, ?_, rfl⟩
                exact ⟨j + 1, a2, S + s, A2, c2, rfl, rfl, by first | rfl | go_num, ha2, by omega, by omega, .inr (by omega), HSJ2, Lib.hid ⟨R, t, HPT.out⟩⟩
              case measure => simp [intOf]; omega
end Go.Proofs.Ytnloffjjlhhanaa
