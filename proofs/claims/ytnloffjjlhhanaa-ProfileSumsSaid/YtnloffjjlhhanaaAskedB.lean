/- The program's asked: the closure. -/
import Derived.Test.YtnloffjjlhhanaaAsked
set_option linter.unusedVariables false
set_option linter.unusedSimpArgs false
namespace Go.Proofs.Ytnloffjjlhhanaa
open Go.RowKit
open Go.Proofs

/-- What holds where the closure goes round. -/
def SnapRel (B b3 b6 fb : Nat) (st : Int) (w : World) (J : Nat → Prop) (s : St) (k : Nat) (wr : World) : Prop :=
  ∃ A c bl, SnapAt B b3 b6 fb st wr A c bl (snapOf s k) ∧ Fr J w wr ∧ (∀ q, (Value.slice A 0 0).ownBlock = some q → w.heap.size ≤ q) ∧ (∀ q ∈ bl, w.heap.size ≤ q)
def SnapS (b6 fb : Nat) (v : Value) (W : World) : Prop := W.cell? ⟨b6, 0, none⟩ = some (.pointer (some ⟨fb, 0, none⟩)) ∧ W.cell? ⟨fb, 0, none⟩ = some v

set_option maxRecDepth 100000 in
set_option maxHeartbeats 2000000 in
theorem snap_closure (B b3 b6 fb : Nat) (st at' : Int) (w : World) (F : Film) (s : St) (m : Nat) (A : Option Addr) (c : Nat) (bl : List Nat) (xs : List Lf) (h : FilmAt B w F s) (hb : Bd m s) (hm : m ≤ 4000) (hB : B ≤ w.heap.size)
    (hS : SnapAt B b3 b6 fb st w A c bl xs) (hJ : ∀ k, SnapJ b3 b6 fb A bl k → ¬ F.foot k) (hle : at' ≤ st) :
    Calls Try.prog 47 #[.pointer (some ⟨F.f, 0, none⟩), .int .i64 at', .pointer (some ⟨b3, 0, none⟩), .pointer (some ⟨b6, 0, none⟩)] w fun e w' => e = .returned (.tuple #[]) ∧ Fr (SnapJ b3 b6 fb A bl) w w' ∧ ∃ A' c' bl', SnapAt B b3 b6 fb st w' A' c' bl' (snapOf s s.op.length) ∧ ∀ k, SnapJ b3 b6 fb A' bl' k → SnapJ b3 b6 fb A bl k ∨ w.heap.size ≤ k := by
  obtain ⟨i0, hi, hz0, hz1, hz2⟩ := info_parts info_life
  have x3 : w.cell? ⟨b3, 0, none⟩ = some (.int .i64 st) := hS.blk3.cell 0
  have x6 : w.cell? ⟨b6, 0, none⟩ = some (.pointer (some ⟨fb, 0, none⟩)) := hS.blk6.cell 0
  have hb3 := hS.blk3.lt
  have hb6 := hS.blk6.lt
  have hbf := hS.blk.lt
  have xf : w.cell? ⟨fb, 0, none⟩ = some (.slice A xs.length c) := hS.blk.cell 0
  have zf := hS.blk.free 0
  have hop := hb.op
  have hfl := h.blk.lt
  have y0 : w.cell? ⟨F.f, 0, none⟩ = some (.slice F.Ao s.op.length F.co) := h.blk.cell 0
  have hff : F.f ≠ fb := fun e => hJ fb (.inr (.inr (.inl rfl))) (.inl e.symm)
  have hrel0 : SnapRel B b3 b6 fb st w (SnapJ b3 b6 fb A bl) s 0 (w.setCell ⟨fb, 0, none⟩ (.slice none 0 0)) := ⟨none, 0, [], hS.empty, (Fr.refl _ _).setCell (.inl (.inr (.inr (.inl rfl)))) _, fun q hq => by simp [Value.ownBlock] at hq, fun q hq => by simp at hq⟩
  have hF0 : FilmAt B (w.setCell ⟨fb, 0, none⟩ (.slice none 0 0)) F s := h.fr ((Fr.refl (SnapJ b3 b6 fb A bl) _).setCell (.inl (.inr (.inr (.inl rfl)))) _) hJ
  have y1 : (w.setCell ⟨fb, 0, none⟩ (.slice none 0 0)).cell? ⟨F.f, 0, none⟩ = some (.slice F.Ao s.op.length F.co) := hF0.blk.cell 0
  have hfl1 := hF0.blk.lt
  have H := Lib.hid h
  have HREL0 := Lib.hid hrel0
  have HJ := Lib.hid hJ
  have hle' : decide (at' ≤ st) = true := decide_eq_true hle
  have HLE := Lib.hid hle
  clear hrel0 hF0 h hb hS hJ hle
  obtain ⟨f, Ao, co, Aa, ca, blF⟩ := F
  simp only at hff y0 y1 hfl hfl1
  go_enter Try.func47, Try.ntmps47
  go_wp2_with fail
  generalize hw0 : World.setCell w ⟨fb, 0, none⟩ (.slice none 0 0) = w0 at *
  go_wp2_with fail
  go_loopw [20, 7, 8] (fun iv _ _ wr => ∃ k : Nat, iv = .int .i64 k ∧ k ≤ s.op.length ∧ Hid (SnapRel B b3 b6 fb st w (SnapJ b3 b6 fb A bl) s k wr)) (fun iv _ _ _ => s.op.length - (intOf iv).toNat)
  case atStart => exact ⟨0, rfl, by omega, HREL0⟩
  case round =>
    obtain ⟨k, rfl, hk, R1⟩ := hrel
    obtain ⟨A1, c1, bl1, hS1, hf1, hA1, hbl1⟩ := R1.out
    by_cases hlt : k < s.op.length
    · have hj : s.op[k]? = some (s.op[k]'hlt) := List.getElem?_eq_getElem _
      generalize (s.op[k]'hlt) = i at hj
      have hF1 := H.out.fr hf1 HJ.out
      obtain ⟨g, q, x, hA, hc, -, -, hx, hblk, hgl⟩ := hF1.open_at hj
      simp only at hA
      subst hA
      have l0 : wr.cell? ⟨q, 0, none⟩ = some (.int .i64 x.words) := hblk.cell 0
      have l1 : wr.cell? ⟨q, 1, none⟩ = some (.int .i64 x.fin) := hblk.cell 1
      have l2 : wr.cell? ⟨q, 2, none⟩ = some (.int .i64 x.life) := hblk.cell 2
      have l3 : wr.cell? ⟨q, 3, none⟩ = some (.int .i64 x.opened) := hblk.cell 3
      have l4 : wr.cell? ⟨q, 4, none⟩ = some (.int .i64 x.ended) := hblk.cell 4
      have l5 : wr.cell? ⟨q, 5, none⟩ = some (.int .i64 x.objs) := hblk.cell 5
      have l6 : wr.cell? ⟨q, 6, none⟩ = some (.int .i64 x.wds) := hblk.cell 6
      have l7 : wr.cell? ⟨q, 7, none⟩ = some (.int .i64 x.pages) := hblk.cell 7
      have l8 : wr.cell? ⟨q, 8, none⟩ = some (.bool x.bounded) := hblk.cell 8
      have hql := hblk.lt
      have HS1 := Lib.hid hS1
      have HX := Lib.hid hx
      clear hx hblk hF1 hS1
      have hsn : (snapOf s k).length = k := snap_len s hk
      have hxd : s.lf.getD i default = x := by rw [List.getD_eq_getElem?_getD, HX.out]; rfl
      have hsuc : snapOf s (k + 1) = snapOf s k ++ [x] := by rw [snap_succ hj, hxd]
      have hal : Fr No wr (wr.alloc (.cells #[.int .i64 x.words, .int .i64 x.fin, .int .i64 x.life, .int .i64 x.opened, .int .i64 x.ended, .int .i64 x.objs, .int .i64 x.wds, .int .i64 x.pages, .bool x.bounded] 58)) := (Fr.refl _ _).alloc _
      have hSx := HS1.out.fr fun q hq => hal.block q (HS1.out.lt hq).2 (fun e => e.elim)
      have hfx := hf1.trans (hal.wider fun _ _ e => e.elim)
      have hbx : Blk (wr.alloc (.cells #[.int .i64 x.words, .int .i64 x.fin, .int .i64 x.life, .int .i64 x.opened, .int .i64 x.ended, .int .i64 x.objs, .int .i64 x.wds, .int .i64 x.pages, .bool x.bounded] 58)) wr.heap.size x.cells 58 := Blk.new _ _ _
      have hwr := hf1.size
      have HX2 := Lib.hid (And.intro hA1 hbl1)
      clear hj hA1 hbl1 hal HX hxd hf1
      go_wp2_with fail
      clear l0 l1 l2 l3 l4 l5 l6 l7 l8 hc y0 y1 x3 x6 xf zf
      generalize hwx : World.alloc wr (.cells #[.int .i64 x.words, .int .i64 x.fin, .int .i64 x.life, .int .i64 x.opened, .int .i64 x.ended, .int .i64 x.objs, .int .i64 x.wds, .int .i64 x.pages, .bool x.bounded] 58) = wx at *
      have x6 : wx.cell? ⟨b6, 0, none⟩ = some (.pointer (some ⟨fb, 0, none⟩)) := hSx.blk6.cell 0
      have xf : wx.cell? ⟨fb, 0, none⟩ = some (.slice A1 k c1) := by have := hSx.blk.cell 0; rw [hsn] at this; exact this
      have zf := hSx.blk.free 0
      have hb6x := hSx.blk6.lt
      have hbfx := hSx.blk.lt
      have hSS : SnapS b6 fb (.slice A1 k c1) wx.drew := ⟨x6, xf⟩
      have hrow : wx.ownsRow B 56 1 (.slice A1 k c1) k (bl1.map ptr) := by have := hSx.row; rw [hsn] at this; exact this
      have FOWN : Hid ((wx.alloc (.cells #[ptr wr.heap.size] 56)).drew.ownsRow B 56 1 (.slice A1 k c1) k (bl1.map ptr)) := World.ownsRow.alloc hrow _
      have FNEW : Hid (∀ j u, [ptr wr.heap.size][j]? = some u → (wx.alloc (.cells #[ptr wr.heap.size] 56)).drew.cell? ((⟨wx.heap.size, 0, none⟩ : Addr).add j) = some u) := cell_one_new wx _ _
      have FS2 : Hid (SnapS b6 fb (.slice A1 k c1) (wx.alloc (.cells #[ptr wr.heap.size] 56)).drew) := ⟨(hSx.blk6.alloc _).cell 0, by have := (hSx.blk.alloc (.cells #[ptr wr.heap.size] 56)).cell 0; rw [hsn] at this; exact this⟩
      have HSX := Lib.hid hSx
      have HFX := Lib.hid hfx
      have HBX := Lib.hid hbx
      have HSUC := Lib.hid hsuc
      have HSN := Lib.hid hsn
      have HWX := Lib.hid hwx
      have hxsz : wr.heap.size < wx.heap.size := hbx.lt
      have hBx : B ≤ wx.heap.size := by omega
      clear hSx hfx hbx hsuc hsn hrow hwx
      refine region_mid (SnapS b6 fb (.slice A1 k c1)) 5 7 (by kernel_rfl) (by kernel_rfl) hSS ?_
      simp only [List.take_succ_cons, List.take_zero, List.drop_succ_cons, List.drop_zero]
      clear hSS x6 xf
      repeat
        refine wpHeld_want ?_ (by rfl) (fun W hW => ?_) ?_
        rotate_left
        · unfold SnapS at hW
          go_simp
          try with_reducible rfl
        simp only [Act.put, List.setIfInBounds_toArray, List.set_cons_zero, List.set_cons_succ]
      refine wpHeld_nil ?_
      refine wpKeep_step rfl (fun K hK => ?_)
      go_simp
      refine hK _ _ FS2.out ?_
      clear hK K
      refine wpKeep_step rfl (fun K hK => ?_)
      refine wp_append_lies _ (.tmp 31) (.tmp 32) 53 rfl B 56 i0 _ 1 8 Try.underlying53 hi hz0 hz1 hz2 rfl (by decide) (.slice A1 k c1) k (bl1.map ptr) (by simp [Act.eval, Act.put]) FOWN.out ⟨wx.heap.size, 0, none⟩ 1 1 [ptr wr.heap.size] (by simp [Act.eval, Act.put]) rfl FNEW.out (by simp [ptr, Value.oneCell']) (by omega) (by unfold maxLen; omega) (by omega) (by simp; omega) (wx.heap.size + 1) (by simp) ?_
      intro g2 c2 w2 hown hgrow hat hlt2
      have hf2 : Fr (fun j => (Value.slice A1 0 0).ownBlock = some j) wx w2 := Fr.grown (((Fr.refl _ _).alloc _).drew) hgrow (fun k hk => .inl (own_eq.1 hk))
      have hno : ∀ q cs t, Blk wx q cs t → t ≠ 56 → ¬ (Value.slice A1 0 0).ownBlock = some q := fun q cs t hb ht e => row_ne HSX.out.row hb ht (own_eq.2 e)
      have hk6 := hf2.blk HSX.out.blk6 (hno _ _ _ HSX.out.blk6 (by decide))
      have hkf := hf2.blk HSX.out.blk (hno _ _ _ HSX.out.blk (by decide))
      have hkx := hf2.blk HBX.out (hno _ _ _ HBX.out (by decide))
      have hpush := HSX.out.push (A2 := some ⟨g2, 0, none⟩) (c2 := c2) (k := wr.heap.size) (x := x) hf2 (by omega) hkx (by rw [HSN.out]; exact hown)
      rw [HSN.out] at hpush
      have hx6 : w2.cell? ⟨b6, 0, none⟩ = some (.pointer (some ⟨fb, 0, none⟩)) := hk6.cell 0
      have hxf : w2.cell? ⟨fb, 0, none⟩ = some (.slice A1 k c1) := by have := hkf.cell 0; rw [HSN.out] at this; exact this
      refine hK _ _ ⟨hx6, hxf⟩ ?_
      clear hK K
      refine wpKeep_rest _ _ _ _ (by omega) ?_
      have r1 := hkf.free 0
      have r2 := hkf.lt
      have hrelN : SnapRel B b3 b6 fb st w (SnapJ b3 b6 fb A bl) s (k + 1) (w2.setCell ⟨fb, 0, none⟩ (.slice (some ⟨g2, 0, none⟩) (k + 1) c2)) := by
        refine ⟨_, c2, _, by rw [HSUC.out]; exact hpush, ?_, ?_, ?_⟩
        · refine Fr.setCell (HFX.out.then hf2 fun i hi hh => ?_) (.inl (.inr (.inr (.inl rfl)))) _
          have := HX2.out.1 i hh
          omega
        · intro q hq
          simp only [Value.ownBlock, Option.some.injEq] at hq
          subst hq
          rcases hat with h5 | h5
          · exact HX2.out.1 _ (own_eq.1 h5)
          · omega
        · intro q hq
          rcases List.mem_append.1 hq with hq | hq
          · exact HX2.out.2 q hq
          · simp at hq; omega
      have HREL := Lib.hid hrelN
      clear hrelN hown hgrow hat hf2 hno hk6 hkf hkx hpush
      go_wp2_with fail
      refine NoPanic.normal ?_
      go_wp2_with fail
      go_roundw
      case rel => exact ⟨k + 1, by go_num, by omega, HREL⟩
      case measure => simp [intOf]; omega
    · have hk2 : k = s.op.length := by omega
      have HFIN : Hid (Fr (SnapJ b3 b6 fb A bl) w wr ∧ ∃ A' c' bl', SnapAt B b3 b6 fb st wr A' c' bl' (snapOf s s.op.length) ∧ ∀ k, SnapJ b3 b6 fb A' bl' k → SnapJ b3 b6 fb A bl k ∨ w.heap.size ≤ k) := by
        refine ⟨hf1, A1, c1, bl1, by rw [← hk2]; exact hS1, fun q hq => ?_⟩
        rcases hq with rfl | rfl | rfl | hq | hq
        · exact .inl (.inl rfl)
        · exact .inl (.inr (.inl rfl))
        · exact .inl (.inr (.inr (.inl rfl)))
        · exact .inr (hA1 q hq)
        · exact .inr (hbl1 q hq)
      clear hS1 hf1 hA1 hbl1 hk2
      go_wp2_with fail
      go_end0
      exact ⟨rfl, HFIN.out⟩
end Go.Proofs.Ytnloffjjlhhanaa
