/- The program's Lines, and whether two lifelines are the same. -/
import Derived.Test.YtnloffjjlhhanaaDoorRight
set_option linter.unusedVariables false
set_option linter.unusedSimpArgs false
namespace Go.Proofs.YtnloffjjlhhanaaDoor
open Go.RowKit
open Go.Proofs

/-! Rows of things of several cells each. -/
theorem gflat_len {α : Type} {f : α → List Value} {s : Nat} (hf : ∀ x, (f x).length = s) : ∀ l : List α, (l.flatMap f).length = l.length * s
  | [] => by simp
  | x :: l => by rw [List.flatMap_cons, List.length_append, gflat_len hf l, hf, List.length_cons, Nat.add_mul]; omega
theorem gflat_at {α : Type} {f : α → List Value} {s : Nat} (hf : ∀ x, (f x).length = s) : ∀ (l : List α) (i j : Nat) (x : α), l[i]? = some x → j < s → (l.flatMap f)[i * s + j]? = (f x)[j]?
  | [], _, _, _, h, _ => by simp at h
  | y :: l, 0, j, x, h, hj => by
    simp only [List.getElem?_cons_zero, Option.some.injEq] at h
    subst h
    rw [List.flatMap_cons, List.getElem?_append_left (by rw [hf]; omega)]
    congr 1
    omega
  | y :: l, i + 1, j, x, h, hj => by
    rw [List.flatMap_cons, List.getElem?_append_right (by rw [hf, Nat.add_mul]; omega), hf]
    have e : (i + 1) * s + j - s = i * s + j := by rw [Nat.add_mul]; omega
    rw [e]
    exact gflat_at hf l i j x (by simpa using h) hj
theorem row_gflat {α : Type} {f : α → List Value} {s : Nat} (hf : ∀ x, (f x).length = s) (hs : 0 < s) {w : World} {B n c : Nat} {e : TypeId} {A : Option Addr} {l : List α} (h : w.ownsRow B e s (.slice A n c) n (l.flatMap f)) {i : Nat} {x : α} (hx : l[i]? = some x) :
    ∃ g, A = some ⟨g, 0, none⟩ ∧ (∀ j v, j < s → (f x)[j]? = some v → w.cell? ⟨g, i * s + j, none⟩ = some v) ∧ g < w.heap.size := by
  have hv : ∀ j, j < s → ∃ v, (f x)[j]? = some v := fun j hj => ⟨_, List.getElem?_eq_getElem (by rw [hf]; exact hj)⟩
  obtain ⟨v0, hv0⟩ := hv 0 hs
  obtain ⟨g, hg, hc0, -⟩ := row_cell h (i * s + 0) v0 (by rw [gflat_at hf l i 0 x hx hs]; exact hv0)
  refine ⟨g, hg, fun j v hj hjv => ?_, World.block_lt_of_cell? w _ hc0⟩
  obtain ⟨g', hg', hc, -⟩ := row_cell h (i * s + j) v (by rw [gflat_at hf l i j x hx hj]; exact hjv)
  rw [hg] at hg'
  simp only [Option.some.injEq, Addr.mk.injEq, and_true] at hg'
  subst hg'
  exact hc

/-- A lifeline, as the program lays it. -/
def Lf.line (x : Lf) : List Value := [.int .i64 x.life, .int .i64 x.opened, .int .i64 x.ended, .int .i64 x.objs, .int .i64 x.wds, .int .i64 x.pages, .bool x.bounded]
theorem line_len (x : Lf) : x.line.length = 7 := rfl
theorem info_pline : (Tryd.prog.info? 26).map (fun i => (i.zero, i.size, i.bytes)) = some (some (.agg #[.int .i64 0, .int .i64 0, .int .i64 0, .int .i64 0, .int .i64 0, .int .i64 0, .bool false]), 7, 56) := by kernel_rfl

set_option maxRecDepth 100000 in
theorem same_line (x : Lf) (w : World) :
    Calls Tryd.prog 11 #[.agg #[.int .i64 x.life, .int .i64 x.opened, .int .i64 x.ended, .int .i64 x.objs, .int .i64 x.wds, .int .i64 x.pages, .bool x.bounded], .agg #[.int .i64 x.life, .int .i64 x.opened, .int .i64 x.ended, .int .i64 x.objs, .int .i64 x.wds, .int .i64 x.pages, .bool x.bounded, .int .i64 x.words, .int .i64 x.fin]] w fun e w' => e = .returned (.bool true) ∧ Fr No w w' := by
  have b1 : (x.life == x.life) = true := by simp
  have b2 : (x.opened == x.opened) = true := by simp
  have b3 : (x.ended == x.ended) = true := by simp
  have b4 : (x.objs == x.objs) = true := by simp
  have b5 : (x.wds == x.wds) = true := by simp
  have b6 : (x.pages == x.pages) = true := by simp
  have b7 : (x.bounded == x.bounded) = true := by simp
  go_enter Tryd.func11, Tryd.ntmps11
  go_wp2_with fail
  go_ret
  exact ⟨rfl, ((Fr.refl _ _).alloc _).alloc _⟩

theorem FilmAt.all_at {B : Nat} {w : World} {F : Film} {s : St} (h : FilmAt B w F s) {i : Nat} {x : Lf} (hx : s.lf[i]? = some x) : ∃ g k, F.Aa = some ⟨g, 0, none⟩ ∧ w.cell? ⟨g, i, none⟩ = some (.pointer (some ⟨k, 0, none⟩)) ∧ Blk w k x.cells 80 ∧ g < w.heap.size := by
  have hi : i < F.bl.length := by rw [h.len]; exact (List.getElem?_eq_some_iff.1 hx).1
  have hk : F.bl[i]? = some (F.bl[i]'hi) := List.getElem?_eq_getElem _
  obtain ⟨g, hg, hc, -⟩ := row_cell h.rowa i (ptr (F.bl[i]'hi)) (by simp [hk])
  exact ⟨g, _, hg, hc, (h.lives i _ x hk hx).2, World.block_lt_of_cell? w _ hc⟩

/-- What Lines leaves. -/
def LinesPost (w : World) (l : List Ev) (en : Ending) (w' : World) : Prop :=
  Fr No w w' ∧ match playP l with
  | none => en = .returned (.tuple #[.slice none 0 0, .int .i64 100])
  | some tr => ∃ A c B, w.heap.size ≤ B ∧ en = .returned (.tuple #[.slice A (finalOf tr).lf.length c, .int .i64 0]) ∧ w'.ownsRow B 26 7 (.slice A (finalOf tr).lf.length c) (finalOf tr).lf.length ((finalOf tr).lf.flatMap Lf.line)
set_option maxRecDepth 100000 in
set_option maxHeartbeats 2000000 in
theorem lines_any (w : World) (A : Option Addr) (cap : Nat) (l : List Ev) (hev : Evs w.heap.size w A l) (hl : l.length ≤ 2000) (hcap : l.length ≤ cap) :
    Calls Tryd.prog 15 #[.slice A l.length cap] w (LinesPost w l) := by
  obtain ⟨i0, hi, hz0, hz1, hz2⟩ := info_parts info_pline
  have HPL := Lib.hid (play_any w.heap.size w A cap l .nilFunc (fun _ J _ => ∀ k, ¬ J k) No ⟨fun w J tr h k hk => absurd hk (h k), fun w w' J tr h _ _ => h, .inl ⟨rfl, fun w J tr x h => h⟩⟩ hev hl hcap (Nat.le_refl _) (fun k hk => hk))
  clear hev
  go_enter Tryd.func15, Tryd.ntmps15
  go_wp2_with fail
  refine HPL.out.mono ?_
  intro en w1 hp
  unfold PlayPost at hp
  have HFR := Lib.hid hp.1
  have HPO : Hid (∀ en w', (Fr No w w' ∧ match playP l with
  | none => en = .returned (.tuple #[.slice none 0 0, .int .i64 100])
  | some tr => ∃ A c B, w.heap.size ≤ B ∧ en = .returned (.tuple #[.slice A (finalOf tr).lf.length c, .int .i64 0]) ∧ w'.ownsRow B 26 7 (.slice A (finalOf tr).lf.length c) (finalOf tr).lf.length ((finalOf tr).lf.flatMap Lf.line)) → LinesPost w l en w') := fun en w' h => h
  cases hpl : playP l with
  | none =>
    rw [hpl] at hp HPO
    obtain ⟨-, rfl⟩ := hp
    clear hpl
    go_wp2_with fail
    go_ret2
    exact HPO.out _ _ ⟨HFR.out, rfl⟩
  | some tr =>
    rw [hpl] at hp HPO
    obtain ⟨-, F, J, rfl, hF, ⟨m, hm, hb⟩, -⟩ := hp
    clear hpl
    generalize hs : finalOf tr = s at hF hb
    have HS := Lib.hid hs
    clear hs
    have c1 : w1.cell? ⟨F.f, 1, none⟩ = some (.slice F.Aa s.lf.length F.ca) := hF.blk.cell 1
    have hlt := hF.blk.lt
    have hlf := hb.lf
    have HF := Lib.hid hF
    clear hF hb
    obtain ⟨f, Ao, co, Aa, ca, bl⟩ := F
    simp only at c1 hlt
    go_wp2_with fail
    go_loopw [6, 21, 8] (fun ov iv _ wr => ∃ (k : Nat) (A : Option Addr) (c : Nat), iv = .int .i64 k ∧ k ≤ s.lf.length ∧ ov = .slice A k c ∧ Hid (wr.ownsRow w1.heap.size 26 7 (.slice A k c) k ((s.lf.take k).flatMap Lf.line)) ∧ Hid (Fr No w1 wr)) (fun _ iv _ _ => s.lf.length - (intOf iv).toNat)
    case atStart => exact ⟨0, none, 0, rfl, by omega, rfl, World.ownsRow_nil _ _ _ _, Fr.refl _ _⟩
    case round =>
      obtain ⟨k, A, c, rfl, hk, rfl, R1, R2⟩ := hrel
      by_cases hlt2 : k < s.lf.length
      · have hx : s.lf[k]? = some (s.lf[k]'hlt2) := List.getElem?_eq_getElem _
        generalize (s.lf[k]'hlt2) = x at hx
        obtain ⟨g, q, hA, hc, hblk, hgl⟩ := (HF.out.fr0 R2.out).all_at hx
        simp only at hA
        subst hA
        have l2 : wr.cell? ⟨q, 2, none⟩ = some (.int .i64 x.life) := hblk.cell 2
        have l3 : wr.cell? ⟨q, 3, none⟩ = some (.int .i64 x.opened) := hblk.cell 3
        have l4 : wr.cell? ⟨q, 4, none⟩ = some (.int .i64 x.ended) := hblk.cell 4
        have l5 : wr.cell? ⟨q, 5, none⟩ = some (.int .i64 x.objs) := hblk.cell 5
        have l6 : wr.cell? ⟨q, 6, none⟩ = some (.int .i64 x.wds) := hblk.cell 6
        have l7 : wr.cell? ⟨q, 7, none⟩ = some (.int .i64 x.pages) := hblk.cell 7
        have l8 : wr.cell? ⟨q, 8, none⟩ = some (.bool x.bounded) := hblk.cell 8
        have hql := hblk.lt
        have HX := Lib.hid hx
        have hbase := R2.out.size
        clear hx hblk
        go_wp2_with (at_builtin; go_must (refine wpList_append_own_at _ rfl (.tmp 25) (.tmp 30) 42 rfl w1.heap.size 26 i0 _ 7 56 Tryd.underlying42 hi hz0 hz1 hz2 rfl (by decide) (.slice A k c) k ((s.lf.take k).flatMap Lf.line) rfl ?hown ⟨wr.heap.size, 0, none⟩ 1 1 x.line rfl rfl ?c1 ?c2 ?c3 ?c4 ?c5 ?_))
        case hown => exact World.ownsRow.alloc R1.out _
        case c1 => exact World.news_of_block (heap_alloc_new wr _)
        case c2 => simp [Value.oneCell', Lf.line]
        case c3 => unfold maxLen; omega
        case c4 => omega
        case c5 => first | omega | (simp; omega)
        intro v' w2 hown hgrow _ hwhere
        obtain ⟨A2, c2, rfl, -⟩ := row_slice hown
        have hf2 : Fr No w1 w2 := by
          have hf := nums_grown hbase (m := w1.heap.size) (fun k hk => (R1.out.lt k hk).1) hbase hgrow
          exact R2.out.then hf fun i hi hi2 => absurd hi2 (by omega)
        have HF2 := Lib.hid hf2
        have HO := Lib.hid hown
        clear hf2 hown hgrow hwhere
        go_wp2_with fail
        go_roundw
        case rel =>
          refine ⟨k + 1, A2, c2, by go_num, by omega, rfl, ?_, HF2.out⟩
          unfold Hid
          rw [List.take_add_one, HX.out, List.flatMap_append]
          simp only [Option.toList_some, List.flatMap_cons, List.flatMap_nil, List.append_nil]
          exact HO.out
        case measure => simp [intOf]; omega
      · have hk2 : k = s.lf.length := by omega
        have HK2 := Lib.hid hk2
        clear hk2
        go_wp2_with fail
        go_ret2
        have e2 := R1.out
        rw [HK2.out, List.take_length] at e2
        exact HPO.out _ _ ⟨HFR.out.trans R2.out, A, c, w1.heap.size, HFR.out.size, by rw [HS.out, HK2.out]; rfl, by rw [HS.out]; exact e2⟩
end Go.Proofs.YtnloffjjlhhanaaDoor
