/- The reference's lists of lives, and its pages. -/
import Derived.Test.YtnloffjjlhhanaaDoorTraceA
set_option linter.unusedVariables false
set_option linter.unusedSimpArgs false
namespace Go.Proofs.YtnloffjjlhhanaaDoor
open Go.RowKit
open Go.Proofs

/-- A list of numbers of the call's own. -/
def Nums (B : Nat) (w : World) (v : Value) (l : List Nat) : Prop := ∃ A c, v = .slice A l.length c ∧ w.ownsRow B 3 1 (.slice A l.length c) l.length (l.map num)
theorem nums_grown {B : Nat} {w w2 : World} {o : Obj} {A : Option Addr} {n c m : Nat} (hB : B ≤ w.heap.size) (hlt : ∀ k, (Value.slice A n c).ownBlock = some k → m ≤ k) (hm : m ≤ w.heap.size) (hg : (w.alloc o).grownBy w2 (Value.slice A n c).ownBlock) : Fr (fun k => m ≤ k) w w2 :=
  Fr.grown ((Fr.refl _ _).alloc o) hg (fun k hk => .inl (hlt k hk))

set_option maxRecDepth 100000 in
set_option maxHeartbeats 1000000 in
theorem trInf (B : Nat) (w : World) (R : Loc) (t : Tr) (h : TrAt B w R t) (hop : t.st.op.length ≤ 10000) (hlf : t.st.lf.length ≤ 10000) :
    Calls Tryd.prog 49 #[.pointer (some ⟨R.t, 0, none⟩)] w fun e w' => ∃ A c, e = .returned (.slice A t.st.inf.length c) ∧ Fr No w w' ∧ w'.ownsRow w.heap.size 3 1 (.slice A t.st.inf.length c) t.st.inf.length (t.st.inf.map num) := by
  obtain ⟨i0, hi, hz0, hz1, hz2⟩ := info_parts info_int
  have c1 : w.cell? ⟨R.t, 1, none⟩ = some (.slice R.Ao t.st.op.length R.co) := h.blk.cell 1
  have hl := h.blk.lt
  have H := Lib.hid h
  clear h
  obtain ⟨rt, Al, cl, Ao, co⟩ := R
  simp only at c1 hl
  have hend : Hid (keptN (fun i => decide ((t.st.lf.getD i default).words > 0)) t.st.op t.st.op.length = t.st.inf) := by unfold Hid keptN St.inf; rw [List.take_length]
  go_enter Tryd.func49, Tryd.ntmps49
  go_wp2_with fail
  go_loopw [3, 11, 5, 25, 26, 27, 28] (fun ov iv _ _ _ _ _ wr => ∃ (k n : Nat) (A : Option Addr) (c : Nat), iv = .int .i64 k ∧ k ≤ t.st.op.length ∧ ov = .slice A n c ∧ n ≤ k ∧ Hid (n = (keptN (fun i => decide ((t.st.lf.getD i default).words > 0)) t.st.op k).length) ∧ Hid (wr.ownsRow w.heap.size 3 1 (.slice A n c) n ((keptN (fun i => decide ((t.st.lf.getD i default).words > 0)) t.st.op k).map num)) ∧ Hid (Fr No w wr)) (fun _ iv _ _ _ _ _ _ => t.st.op.length - (intOf iv).toNat)
  case atStart => exact ⟨0, 0, none, 0, rfl, by omega, rfl, by omega, rfl, World.ownsRow_nil _ _ _ _, Fr.refl _ _⟩
  case round =>
    obtain ⟨k, n, A, c, rfl, hk, rfl, hnk, R1, R2, R3⟩ := hrel
    by_cases hlt : k < t.st.op.length
    · have hj : t.st.op[k]? = some (t.st.op[k]'hlt) := List.getElem?_eq_getElem _
      generalize (t.st.op[k]'hlt) = i at hj
      have hil := H.out.opens i (List.mem_of_getElem? hj)
      have h1 := H.out.fr0 R3.out
      obtain ⟨g, x, hA, hc, -, hx, hgl⟩ := h1.open_at hj
      obtain ⟨gl, hAl, hcl, -, hgll⟩ := row_flat h1.rowl hx
      simp only at hA hAl
      subst hA hAl
      have hc' : wr.cell? ⟨g, k, none⟩ = some (.int .i64 ((i : Int) + 1)) := hc
      have c0' : wr.cell? ⟨rt, 0, none⟩ = some (.slice (some ⟨gl, 0, none⟩) t.st.lf.length cl) := h1.blk.cell 0
      have hl' := h1.blk.lt
      have hb6 : wr.cell? ⟨gl, i * 9 + 6, none⟩ = some (.bool x.bounded) := hcl 6 _ (by omega) rfl
      have hgood := h1.good x (List.mem_of_getElem? hx)
      have e1 : t.st.lf.getD i default = x := by rw [List.getD_eq_getElem?_getD, hx]; rfl
      have hsucc : Hid (keptN (fun i => decide ((t.st.lf.getD i default).words > 0)) t.st.op (k + 1) = keptN (fun i => decide ((t.st.lf.getD i default).words > 0)) t.st.op k ++ (if x.bounded = true then [] else [i])) := by
        unfold Hid
        rw [keptN_succ _ _ _ _ hj, e1, ← hgood]
      have hbase := R3.out.size
      clear hj hc hcl hx h1 hgood e1
      cases hb : x.bounded
      · rw [hb] at hb6 hsucc
        clear hb
        go_wp2_with (at_builtin; go_must (refine wpList_append_own_at _ rfl (.tmp 25) (.tmp 27) 37 rfl w.heap.size 3 i0 (.int .i64 0) 1 8 Tryd.underlying37 hi hz0 hz1 hz2 rfl (by decide) (.slice A n c) n ((keptN (fun i => decide ((t.st.lf.getD i default).words > 0)) t.st.op k).map num) rfl ?hown ⟨wr.heap.size, 0, none⟩ 1 1 [num i] rfl rfl ?c1 ?c2 ?c3 ?c4 ?c5 ?_))
        case hown => exact World.ownsRow.alloc R2.out _
        case c1 => first | exact cell_one_at _ _ _ _ rfl | exact fun j u h => h
        case c2 => simp [Value.oneCell', num]
        case c3 => unfold maxLen; omega
        case c4 => omega
        case c5 => first | omega | (simp; omega)
        intro v' w2 hown hgrow _ hwhere
        obtain ⟨A2, c2, rfl, -⟩ := row_slice hown
        have hf2 : Fr No w w2 := by
          have hf := nums_grown hbase (m := w.heap.size) (fun k hk => (R2.out.lt k hk).1) hbase hgrow
          exact R3.out.then hf fun i hi hi2 => absurd hi2 (by omega)
        have HF2 := Lib.hid hf2
        have HO := Lib.hid hown
        clear hf2 hown hgrow hwhere
        go_wp2_with fail
        go_roundw
        case rel =>
          refine ⟨k + 1, n + 1, A2, c2, by go_num, by omega, rfl, by omega, ?_, ?_, HF2.out⟩
          · unfold Hid; rw [hsucc.out, List.length_append, ← R1.out]; rfl
          · unfold Hid; rw [hsucc.out, List.map_append]; exact HO.out
        case measure => simp [intOf]; omega
      · rw [hb] at hb6 hsucc
        clear hb
        go_wp2_with fail
        go_roundw
        case rel =>
          refine ⟨k + 1, n, A, c, by go_num, by omega, rfl, by omega, ?_, ?_, R3.out⟩
          · unfold Hid; rw [hsucc.out, List.length_append, ← R1.out]; rfl
          · unfold Hid; rw [hsucc.out]; simpa using R2.out
        case measure => simp [intOf]; omega
    · have hk2 : k = t.st.op.length := by omega
      have HK2 := Lib.hid hk2
      clear hk2
      go_wp2_with fail
      go_ret
      have e := R1.out
      have e2 := R2.out
      rw [HK2.out, hend.out] at e e2
      exact ⟨A, c, by rw [← e]; rfl, R3.out, by rw [← e]; exact e2⟩
end Go.Proofs.YtnloffjjlhhanaaDoor
