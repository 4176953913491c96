/- The reference's lives that are open, and its pages. -/
import Derived.Test.YtnloffjjlhhanaaTraceB
set_option linter.unusedVariables false
set_option linter.unusedSimpArgs false
namespace Go.Proofs.Ytnloffjjlhhanaa
open Go.RowKit
open Go.Proofs

def Tr.livesTo (t : Tr) (k : Nat) : List Nat := (keptN (fun p : Nat × Nat => t.hole == (p.2 : Int) + 1) t.st.op.zipIdx k).map (·.1)
def Tr.lives (t : Tr) : List Nat := t.livesTo t.st.op.length
theorem livesTo_succ (t : Tr) (k i : Nat) (h : t.st.op[k]? = some i) : t.livesTo (k + 1) = t.livesTo k ++ (if (t.hole == (k : Int) + 1) = true then [] else [i]) := by
  unfold Tr.livesTo
  rw [keptN_succ _ _ _ _ (zip_at h)]
  cases hb : (t.hole == (k : Int) + 1) <;> simp [hb]
theorem livesTo_len (t : Tr) (k : Nat) : (t.livesTo k).length ≤ k := by
  unfold Tr.livesTo
  rw [List.length_map]
  exact keptN_len _ _ _
theorem lives_sub (t : Tr) : ∀ i ∈ t.lives, i ∈ t.st.op := by
  intro i hi
  unfold Tr.lives Tr.livesTo keptN at hi
  simp only [List.mem_map, List.mem_filter] at hi
  obtain ⟨p, ⟨hp, -⟩, rfl⟩ := hi
  have := List.mem_of_mem_take hp
  obtain ⟨j, hj, he⟩ := List.mem_iff_getElem.1 this
  rw [← he, List.getElem_zipIdx]
  exact List.getElem_mem _

set_option maxRecDepth 100000 in
set_option maxHeartbeats 1000000 in
theorem trLives (B : Nat) (w : World) (R : Loc) (t : Tr) (h : TrAt B w R t) (hop : t.st.op.length ≤ 10000) :
    Calls Try.prog 38 #[.pointer (some ⟨R.t, 0, none⟩)] w fun e w' => ∃ A c, e = .returned (.slice A t.lives.length c) ∧ Fr No w w' ∧ w'.ownsRow w.heap.size 3 1 (.slice A t.lives.length c) t.lives.length (t.lives.map num) := by
  obtain ⟨i0, hi, hz0, hz1, hz2⟩ := info_parts info_int
  have c1 : w.cell? ⟨R.t, 1, none⟩ = some (.slice R.Ao t.st.op.length R.co) := h.blk.cell 1
  have hl := h.blk.lt
  have H := Lib.hid h
  clear h
  obtain ⟨rt, Al, cl, Ao, co⟩ := R
  simp only at c1 hl
  go_enter Try.func38, Try.ntmps38
  go_wp2_with fail
  go_loopw [3, 11, 4, 5, 23, 24, 25, 26] (fun ov iv _ _ _ _ _ _ wr => ∃ (k n : Nat) (A : Option Addr) (c : Nat), iv = .int .i64 k ∧ k ≤ t.st.op.length ∧ ov = .slice A n c ∧ n ≤ k ∧ Hid (n = (t.livesTo k).length) ∧ Hid (wr.ownsRow w.heap.size 3 1 (.slice A n c) n ((t.livesTo k).map num)) ∧ Hid (Fr No w wr)) (fun _ iv _ _ _ _ _ _ _ => t.st.op.length - (intOf iv).toNat)
  case atStart => exact ⟨0, 0, none, 0, rfl, by omega, rfl, by omega, rfl, World.ownsRow_nil _ _ _ _, Fr.refl _ _⟩
  case round =>
    obtain ⟨k, n, A, c, rfl, hk, rfl, hnk, R1, R2, R3⟩ := hrel
    by_cases hlt : k < t.st.op.length
    · have hj : t.st.op[k]? = some (t.st.op[k]'hlt) := List.getElem?_eq_getElem _
      generalize (t.st.op[k]'hlt) = i at hj
      have hil := H.out.opens i (List.mem_of_getElem? hj)
      have h1 := H.out.fr0 R3.out
      obtain ⟨g, x, hA, hc, -, -, hgl⟩ := h1.open_at hj
      simp only at hA
      subst hA
      have hc' : wr.cell? ⟨g, k, none⟩ = some (.int .i64 ((i : Int) + 1)) := hc
      have c2' : wr.cell? ⟨rt, 2, none⟩ = some (.int .i64 t.hole) := h1.blk.cell 2
      have hl' := h1.blk.lt
      have hsucc := Lib.hid (livesTo_succ t k i hj)
      have hbase := R3.out.size
      clear hj hc h1
      cases hb : (t.hole == (k : Int) + 1)
      · rw [hb] at hsucc
        have hb' : (t.hole != (k : Int) + 1) = true := by simpa [bne] using hb
        clear hb
        go_wp2_with (at_builtin; go_must (refine wpList_append_own_at _ rfl (.tmp 23) (.tmp 25) 42 rfl w.heap.size 3 i0 (.int .i64 0) 1 8 Try.underlying42 hi hz0 hz1 hz2 rfl (by decide) (.slice A n c) n ((t.livesTo k).map num) rfl ?hown ⟨wr.heap.size, 0, none⟩ 1 1 [num i] rfl rfl ?c1 ?c2 ?c3 ?c4 ?c5 ?_))
        case hown => exact World.ownsRow.alloc R2.out _
        case c1 => first | exact cell_one_at _ _ _ _ rfl | exact fun j u h => h
        case c2 => simp [Value.oneCell', num]
        case c3 => unfold maxLen; omega
        case c4 => omega
        case c5 => first | omega | (simp; omega)
        intro v' w2 hown hgrow _ hwhere
        obtain ⟨A2, c2, rfl, -⟩ := row_slice hown
        have hf2 : Fr No w w2 := by
          have hf := nums_grown hbase (m := w.heap.size) (fun k hk => (R2.out.lt k hk).1) hbase hgrow
          exact R3.out.then hf fun i hi hi2 => absurd hi2 (by omega)
        have HF2 := Lib.hid hf2
        have HO := Lib.hid hown
        clear hf2 hown hgrow hwhere
        go_wp2_with fail
        go_roundw
        case rel =>
          refine ⟨k + 1, n + 1, A2, c2, by go_num, by omega, rfl, by omega, ?_, ?_, HF2.out⟩
          · unfold Hid; rw [hsucc.out, List.length_append, ← R1.out]; rfl
          · unfold Hid; rw [hsucc.out, List.map_append]; exact HO.out
        case measure => simp [intOf]; omega
      · rw [hb] at hsucc
        have hb' : (t.hole != (k : Int) + 1) = false := by simpa [bne] using hb
        clear hb
        go_wp2_with fail
        go_roundw
        case rel =>
          refine ⟨k + 1, n, A, c, by go_num, by omega, rfl, by omega, ?_, ?_, R3.out⟩
          · unfold Hid; rw [hsucc.out, List.length_append, ← R1.out]; rfl
          · unfold Hid; rw [hsucc.out]; simpa using R2.out
        case measure => simp [intOf]; omega
    · have hk2 : k = t.st.op.length := by omega
      have HK2 := Lib.hid hk2
      clear hk2
      go_wp2_with fail
      go_ret
      have e := R1.out
      have e2 := R2.out
      rw [HK2.out] at e e2
      exact ⟨A, c, by unfold Tr.lives; rw [← e]; rfl, R3.out, by unfold Tr.lives; rw [← e]; exact e2⟩

/-- How many pages are in use. -/
def Tr.pagesTo (t : Tr) (n : Nat) : Int := ((t.lives.take n).map fun i => (t.st.lf.getD i default).now).sum
def Tr.pages (t : Tr) : Int := (t.lives.map fun i => (t.st.lf.getD i default).now).sum
theorem trPagesTo_succ (t : Tr) (n i : Nat) (h : t.lives[n]? = some i) : t.pagesTo (n + 1) = t.pagesTo n + (t.st.lf.getD i default).now := by
  unfold Tr.pagesTo; rw [List.take_add_one, h]; simp
theorem trPagesTo_bd (t : Tr) (hs : ∀ i ∈ t.st.op, 0 ≤ (t.st.lf.getD i default).now ∧ (t.st.lf.getD i default).now ≤ 90000) (n : Nat) : 0 ≤ t.pagesTo n ∧ t.pagesTo n ≤ n * 90000 := by
  induction n with
  | zero => simp [Tr.pagesTo]
  | succ n ih =>
    cases e : t.lives[n]? with
    | none =>
      have : t.pagesTo (n + 1) = t.pagesTo n := by unfold Tr.pagesTo; rw [List.take_add_one, e]; simp
      rw [this]; omega
    | some i =>
      rw [trPagesTo_succ _ _ _ e]
      have := hs i (lives_sub t i (List.mem_of_getElem? e))
      omega
theorem trPages_bd {m : Nat} {t : Tr} (h : Bd m t.st) (hm : m ≤ 4000) : 0 ≤ t.pages ∧ t.pages ≤ 360000000 := by
  have h1 := trPagesTo_bd t (h.nows hm) t.lives.length
  have h2 : t.pagesTo t.lives.length = t.pages := by unfold Tr.pagesTo Tr.pages; rw [List.take_length]
  have h3 := livesTo_len t t.st.op.length
  have := h.op
  rw [h2] at h1
  unfold Tr.lives at h1
  omega

set_option maxRecDepth 100000 in
set_option maxHeartbeats 1000000 in
theorem trPages (B : Nat) (w : World) (R : Loc) (t : Tr) (m : Nat) (h : TrAt B w R t) (hb : Bd m t.st) (hm : m ≤ 4000) :
    Calls Try.prog 33 #[.pointer (some ⟨R.t, 0, none⟩)] w fun e w' => e = .returned (.int .i64 t.pages) ∧ Fr No w w' := by
  have hop := hb.op
  have hlf := hb.lf
  have hle := livesTo_len t t.st.op.length
  have hle' : t.lives.length ≤ 4000 := by unfold Tr.lives; omega
  have H := Lib.hid h
  have HB := Lib.hid hb
  clear h hb hle
  go_enter Try.func33, Try.ntmps33
  go_wp2_with fail
  refine (trLives B w R t H.out (by omega)).mono ?_
  rintro e w1 ⟨A, c, rfl, hf1, hrow⟩
  have HF1 := Lib.hid hf1
  have HR := Lib.hid hrow
  clear hf1 hrow
  obtain ⟨rt, Al, cl, Ao, co⟩ := R
  go_wp2_with fail
  go_loopw [3, 9, 5] (fun sv i _ wr => ∃ k : Nat, k ≤ t.lives.length ∧ i = .int .i64 k ∧ sv = .int .i64 (t.pagesTo k) ∧ Hid (Fr No w1 wr)) (fun _ i _ _ => t.lives.length - (intOf i).toNat)
  case atStart => exact ⟨0, by omega, rfl, by simp [Tr.pagesTo], Fr.refl _ _⟩
  case round =>
    obtain ⟨k, hk, rfl, rfl, R1⟩ := hrel
    have hp := trPagesTo_bd t (HB.out.nows hm) k
    by_cases hlt : k < t.lives.length
    · have hj : t.lives[k]? = some (t.lives[k]'hlt) := List.getElem?_eq_getElem _
      generalize (t.lives[k]'hlt) = i at hj
      have hil := H.out.opens i (lives_sub t i (List.mem_of_getElem? hj))
      have h1 := (H.out.fr0 HF1.out).fr0 R1.out
      have hrow := row_stays HR.out fun j hj => R1.out.block j (HR.out.lt j hj).2 (fun e => e.elim)
      obtain ⟨g, hA, hc, -⟩ := row_cell hrow k (num i) (by simp [hj])
      have hx : t.st.lf[i]? = some (t.st.lf[i]'hil) := List.getElem?_eq_getElem _
      generalize (t.st.lf[i]'hil) = x at hx
      obtain ⟨gl, hAl, hcl, -, hgll⟩ := row_flat h1.rowl hx
      simp only at hAl
      subst hA hAl
      have hc' : wr.cell? ⟨g, k, none⟩ = some (.int .i64 ((i : Int) + 1)) := hc
      have hgl := World.block_lt_of_cell? wr _ hc
      have c0' : wr.cell? ⟨rt, 0, none⟩ = some (.slice (some ⟨gl, 0, none⟩) t.st.lf.length cl) := h1.blk.cell 0
      have hl' := h1.blk.lt
      have q0 : wr.cell? ⟨gl, i * 9, none⟩ = some (.int .i64 x.life) := hcl 0 _ (by omega) rfl
      have q1 : wr.cell? ⟨gl, i * 9 + 1, none⟩ = some (.int .i64 x.opened) := hcl 1 _ (by omega) rfl
      have q2 : wr.cell? ⟨gl, i * 9 + 2, none⟩ = some (.int .i64 x.ended) := hcl 2 _ (by omega) rfl
      have q3 : wr.cell? ⟨gl, i * 9 + 3, none⟩ = some (.int .i64 x.objs) := hcl 3 _ (by omega) rfl
      have q4 : wr.cell? ⟨gl, i * 9 + 4, none⟩ = some (.int .i64 x.wds) := hcl 4 _ (by omega) rfl
      have q5 : wr.cell? ⟨gl, i * 9 + 5, none⟩ = some (.int .i64 x.pages) := hcl 5 _ (by omega) rfl
      have q6 : wr.cell? ⟨gl, i * 9 + 6, none⟩ = some (.bool x.bounded) := hcl 6 _ (by omega) rfl
      have q7 : wr.cell? ⟨gl, i * 9 + 7, none⟩ = some (.int .i64 x.words) := hcl 7 _ (by omega) rfl
      have q8 : wr.cell? ⟨gl, i * 9 + 8, none⟩ = some (.int .i64 x.fin) := hcl 8 _ (by omega) rfl
      have hgood := Lib.hid (h1.good x (List.mem_of_getElem? hx))
      have ex : t.st.lf.getD i default = x := by rw [List.getD_eq_getElem?_getD, hx]; rfl
      have hxs := HB.out.lives x (List.mem_of_getElem? hx)
      have hs : Hid (t.pagesTo (k + 1) = t.pagesTo k + x.now) := by unfold Hid; rw [trPagesTo_succ t k i hj, ex]
      have hnb := now_bd hxs.2.2.1 (by omega)
      clear hj hc hcl hx h1 ex hrow
      go_wp2_with (go_at_call 45; refine (lineNow x _ hgood.out (by omega) (by omega)).mono ?_; rintro e w' ⟨rfl, hf2⟩)
      have HF2 := Lib.hid hf2
      clear hf2
      go_wp2_with fail
      go_roundw
      case rel => exact ⟨k + 1, by omega, by go_num, by rw [hs.out], R1.out.trans HF2.out⟩
      case measure => simp [intOf]; omega
    · have hk2 : k = t.lives.length := by omega
      have HK2 := Lib.hid hk2
      clear hk2
      go_wp2_with fail
      go_ret
      exact ⟨by rw [HK2.out]; unfold Tr.pagesTo Tr.pages; rw [List.take_length]; rfl, HF1.out.trans R1.out⟩
end Go.Proofs.Ytnloffjjlhhanaa
