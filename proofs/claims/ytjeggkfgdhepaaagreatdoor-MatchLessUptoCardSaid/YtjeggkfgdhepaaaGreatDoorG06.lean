/- seek over one column of patterns that match all, at a type of ints. -/
import Derived.Test.YtjeggkfgdhepaaaGreatDoorG05
import Derived.ProofKit
import Derived.OpenShut
import Derived.ShutString
import Derived.ChangeArms
import Derived.Deep.Slices
import Derived.Deep.Fields
set_option linter.unusedVariables false
set_option linter.unusedSimpArgs false
namespace Go.Proofs.YtjeggkfgdhepaaaGreatDoor
open Go.RowKit
open Go.Proofs

section
variable {P : Program} {ops : Array Oper} {Q : Exit → Act → World → Prop} {S : World → Prop} {a : Act} {w : World}
theorem wpOrd_one {k : Nat} {t : Ord} (h : stepAt P ops Q k (fun a' w' => S w' ∧ wpOrd P ops Q S t a' w') a w) : wpOrd P ops Q S (.one k t) a w := h
theorem wpOrd_two {k1 k2 : Nat} {t1 t2 : Ord} (h1 : stepAt P ops Q k1 (fun a' w' => S w' ∧ wpOrd P ops Q S t1 a' w') a w) (h2 : stepAt P ops Q k2 (fun a' w' => S w' ∧ wpOrd P ops Q S t2 a' w') a w) : wpOrd P ops Q S (.two k1 t1 k2 t2) a w := ⟨h1, h2⟩
theorem wpOrd_done (h : Q .normal a w) : wpOrd P ops Q S .done a w := h
end
theorem flat4 : ∀ (ps : List Pt) (i : Nat) (x : List Value) (j : Nat) (v : Value), (ps.map Pt.cells)[i]? = some x → x[j]? = some v → ((ps.map Pt.cells).flatten)[i * 4 + j]? = some v
  | [], i, x, j, v, h, _ => by simp at h
  | p :: ps, 0, x, j, v, h, hj => by
    simp only [List.map_cons, List.getElem?_cons_zero, Option.some.injEq] at h
    subst h
    have hlt : j < p.cells.length := (List.getElem?_eq_some_iff.1 hj).1
    simp only [List.map_cons, List.flatten_cons, Nat.zero_mul, Nat.zero_add]
    rw [List.getElem?_append_left hlt]
    exact hj
  | p :: ps, i + 1, x, j, v, h, hj => by
    simp only [List.map_cons, List.getElem?_cons_succ] at h
    have ih := flat4 ps i x j v h hj
    simp only [List.map_cons, List.flatten_cons]
    rw [List.getElem?_append_right (by simp [Pt.cells]; omega)]
    rw [show (i + 1) * 4 + j - p.cells.length = i * 4 + j by simp [Pt.cells]; omega]
    exact ih
theorem PatsO.row {B : Nat} {w : World} {A : Option Addr} {c : Nat} {ps : List Pt} (h : w.ownsRow B 28 4 (.slice A ps.length c) ps.length ((ps.map Pt.cells).flatten)) : RowAt w.heap.size w 4 A (ps.map Pt.cells) := by
  intro hlen
  rw [List.length_map] at hlen
  have hx : ((ps.map Pt.cells).flatten)[0 * 4 + 0]? = some (.string (ps[0]).dof) := flat4 ps 0 (ps[0]).cells 0 _ (by rw [List.getElem?_map, List.getElem?_eq_getElem hlen]; rfl) rfl
  obtain ⟨g, hg, -, -⟩ := row_cell h _ _ hx
  subst hg
  refine ⟨g, 0, rfl, (h.lt g rfl).2, fun i x hi j v hj => ?_⟩
  obtain ⟨g', hg', hc, -⟩ := row_cell h _ _ (flat4 ps i x j v hi hj)
  simp only [Option.some.injEq, Addr.mk.injEq, and_true] at hg'
  subst hg'
  simpa using hc
set_option maxHeartbeats 1000000 in
theorem notWild_any (ps : List Pt) (A : Option Addr) (c : Nat) (w : World) (hl : ps.length ≤ 1099511627776) (hrow : RowAt w.heap.size w 4 A (ps.map Pt.cells)) :
    Calls Tryz.prog 54 #[.slice A ps.length c, .func (.func 85) #[] #[]] w fun e w' => e = .returned (.bool (!ps.all (fun q => wildD q.dof))) ∧ Below w.heap.size w w' := by
  have HR := Lib.hid hrow
  refine Calls.mono (containsPat 85 (enters_of Tryz.func85 (by kernel_rfl) rfl) #[] ps A c w
      (fun k W => Below w.heap.size w W ∧ (ps.take k).all (fun q => wildD q.dof) = true) (fun k W => Below w.heap.size w W ∧ ps.all (fun q => wildD q.dof) = false) hl
      (fun k W hh => ⟨_, HR.out.keep hh.1⟩) ⟨Below.refl _ _, rfl⟩
      (fun k W q hq ⟨hb, hw⟩ => by
        have HB2 := Lib.hid ((Below.refl W.heap.size W).alloc (Nat.le_refl _) (.cells #[.string q.dof, .string q.name, .int .i64 q.num, .slice q.at_ q.args.length q.cap] 28))
        have HCC := Lib.hid (fun W => isWild_any q W)
        have hcl : Calls Tryz.prog 85 (#[q.val] ++ #[]) W fun e W' => e = .returned (.bool (!wildD q.dof)) ∧ Below W.heap.size W W' := by
          clear hb hw
          unfold Pt.val at *
          show Calls _ _ #[_] _ _
          go_enter Tryz.func85, Tryz.ntmps85
          go_wp2_with fail
          refine Calls.mono (HCC.out _) ?_
          rintro e w1 ⟨rfl, hb1⟩
          have HB3 := Lib.hid (HB2.out.trans (hb1.mono HB2.out.size))
          clear hb1
          go_wp2_with fail
          go_ret
          exact ⟨rfl, HB3.out⟩
        refine Calls.mono hcl ?_
        rintro e W' ⟨rfl, hb2⟩
        have hb3 := hb.trans (hb2.mono hb.size)
        cases hr : wildD q.dof
        · exact .inl ⟨rfl, hb3, all_no hq hr⟩
        · exact .inr ⟨rfl, hb3, all_take_succ hq hw hr⟩)) ?_
  rintro e w2 (⟨i, hi, rfl, hb2, hno⟩ | ⟨rfl, hb2, hyes⟩)
  · exact ⟨by rw [hno]; rfl, hb2⟩
  · rw [List.take_length] at hyes
    exact ⟨by rw [hyes]; rfl, hb2⟩
def wildRow (r : Rw) : Prop := ∃ q, r.pats = [q] ∧ wildD q.dof = true ∧ r.cap = 1
def P4 (b1 off1 : Nat) (q : Pt) (W : World) : Prop := W.cell? ⟨b1, off1, none⟩ = some (.string q.dof) ∧ W.cell? ⟨b1, off1 + 1, none⟩ = some (.string q.name) ∧ W.cell? ⟨b1, off1 + 2, none⟩ = some (.int .i64 q.num) ∧ W.cell? ⟨b1, off1 + 3, none⟩ = some (.slice q.at_ q.args.length q.cap)
theorem heads_wild {rs : List Rw} {p : Pt} (h : ∀ r ∈ rs, wildRow r) (hp : wildD p.dof = true) : (headsTo rs rs.length ++ [p]).all (fun q => wildD q.dof) = true := by
  rw [List.all_eq_true]
  intro q hq
  unfold headsTo at hq
  rw [List.take_length, List.mem_append, List.mem_map] at hq
  rcases hq with ⟨r, hr, rfl⟩ | hq
  · obtain ⟨x, hx, hw, -⟩ := h r hr
    rw [hx]
    exact hw
  · simp only [List.mem_cons, List.not_mem_nil, or_false] at hq
    subst hq
    exact hp
theorem infoRow : (Tryz.prog.info? 26).map (fun i => (i.zero, i.size, i.bytes)) = some (some (.slice none 0 0), 1, 24) := by kernel_rfl
def OwnN (B : Nat) (w : World) (v : Value) (k : Nat) : Prop := ∃ A c xs, v = .slice A k c ∧ w.ownsRow B 26 1 (.slice A k c) k xs
theorem row_new (w : World) (v : Value) (d : ByteArray) : (w.alloc (.cells #[.string d, .string emptyS, .int .i64 0, .slice none 0 0] 28)).ownsRow w.heap.size 28 4 (.slice (some ⟨w.heap.size, 0, none⟩) 1 1) 1 [.string d, .string emptyS, .int .i64 0, .slice none 0 0] :=
  ⟨rfl, .inr ⟨_, 1, _, rfl, Nat.le_refl _, heap_alloc_new w _, Nat.le_refl _, by decide, rfl, rfl⟩⟩
def FlatPost (w : World) (ok : Bool) (e : Ending) (w' : World) : Prop := Below w.heap.size w w' ∧ ∃ v, e = .returned (.tuple #[v, .bool ok])
set_option maxRecDepth 100000 in
set_option maxHeartbeats 4000000 in
theorem seek_flat (b : Nat) (bt ot : Nat) (t : Ty) (A2 : Option Addr) (rs : List Rw) (c2 : Nat) (b1 off1 : Nat) (p : Pt) (w : World) (hint : (t.dof.toList == [105, 110, 116]) = true)
    (htr : RowAt w.heap.size w 3 (some ⟨bt, ot, none⟩) ([t].map Ty.cells)) (hrs : RowsIn w.heap.size w A2 rs) (hwr : ∀ r ∈ rs, wildRow r) (hrow : RowAt w.heap.size w 4 (some ⟨b1, off1, none⟩) ([p].map Pt.cells)) (hwp : wildD p.dof = true) :
    Calls Tryz.prog 44 #[.pointer (some ⟨b, 0, none⟩), .slice (some ⟨bt, ot, none⟩) 1 1, .slice A2 rs.length c2, .slice (some ⟨b1, off1, none⟩) 1 1] w (FlatPost w ((rs.length : Int) == 0)) := by
  have HRS := Lib.hid hrs
  have HWR := Lib.hid hwr
  obtain ⟨t', bt', ot', ht, -, hat, hbt, y0, y1, y2⟩ := Ty.arg_at (k := 0) htr (Below.refl _ _) (by simp)
  obtain ⟨p', b1', off1', hp, -, hap, hb1, z0, z1, z2, z3⟩ := Pt.arg_at (k := 0) hrow (Below.refl _ _) (by simp)
  simp only [List.getElem?_cons_zero, Option.some.injEq] at ht hp
  simp only [Option.some.injEq, Addr.mk.injEq, and_true] at hat hap
  subst ht
  subst hp
  obtain ⟨rfl, rfl⟩ := hat
  obtain ⟨rfl, rfl⟩ := hap
  simp only [Nat.zero_mul, Nat.add_zero] at y0 y1 y2 z0 z1 z2 z3
  have HCF := Lib.hid (fun (W : World) (hW : Below w.heap.size w W) => firsts_any A2 rs c2 W (hrs.at_ hW hW.size) (fun r hr => by obtain ⟨q, hq, -⟩ := hwr r hr; rw [hq]; simp))
  have HCN := Lib.hid (fun W => nodes_int (.pointer (some ⟨b, 0, none⟩)) t W hint)
  have HCV := Lib.hid (fun W => value_int b t W hint)
  have HBT := Lib.hid ((Below.refl w.heap.size w).alloc (Nat.le_refl _) (.cells #[.string t.dof, .string t.name, .slice t.at_ t.args.length t.cap] 25))
  have HKT := Lib.hid (Blk.new w #[.string t.dof, .string t.name, .slice t.at_ t.args.length t.cap] 25)
  have HZ := Lib.hid (fun W (hW : Below w.heap.size w W) => (⟨(hW.cell (p := ⟨b1, off1, none⟩) hb1).trans z0, (hW.cell (p := ⟨b1, off1 + 1, none⟩) hb1).trans z1, (hW.cell (p := ⟨b1, off1 + 2, none⟩) hb1).trans z2, (hW.cell (p := ⟨b1, off1 + 3, none⟩) hb1).trans z3⟩ : P4 b1 off1 p W))
  clear htr hrs hwr hrow z0 z1 z2 z3
  obtain ⟨i0, hi, hz0, hz1, hz2⟩ := info_parts infoPat
  have hlen := HRS.out.len
  go_enter Tryz.func44, Tryz.ntmps44
  go_upto_region 4 with (fail)
  go_cut [11] (fun cv wx => ∃ (Ac : Option Addr) (cc : Nat), cv = .slice Ac (headsTo rs rs.length ++ [p]).length cc ∧ Hid (RowAt wx.heap.size wx 4 Ac ((headsTo rs rs.length ++ [p]).map Pt.cells)) ∧ Hid (Below w.heap.size w wx) ∧ Hid (Blk wx w.heap.size #[.string t.dof, .string t.name, .slice t.at_ t.args.length t.cap] 25))
  case first =>
    generalize w.alloc (.cells #[.string t.dof, .string t.name, .slice t.at_ t.args.length t.cap] 25) = w1 at HBT HKT ⊢
    refine region_ord (P4 b1 off1 p) (.read 0 (.read 2 (.read 3 (.read 4 (.two 1 (.one 5 (.one 6 (.one 7 .done))) 5 (.one 1 (.one 6 (.one 7 .done)))))))) (by kernel_rfl) (by kernel_rfl) (HZ.out _ HBT.out.drew) ?_
    iterate 4
      refine wpOrd_read _ ?_ rfl (by rfl) (fun W hW => ?_) ?_
      rotate_left
      · unfold P4 at hW
        go_simp
        try with_reducible rfl
      simp only [Act.put, List.setIfInBounds_toArray, List.set_cons_zero, List.set_cons_succ]
    refine wpOrd_two ?_ ?_
    · refine stepAt_of _ rfl rfl (fun K hK => ?_)
      go_simp
      refine Calls.mono (HCF.out _ HBT.out.drew) ?_
      rintro e w3 ⟨hb3, v3, rfl, A3, c3, rfl, hown3⟩
      have HB3 := Lib.hid (HBT.out.drew.trans (hb3.mono HBT.out.drew.size))
      have HK3 := Lib.hid ((HKT.out.drewN 1).below hb3 HKT.out.lt)
      have HBW := Lib.hid (HB3.out.alloc HB3.out.size (.cells #[.string p.dof, .string p.name, .int .i64 p.num, .slice p.at_ p.args.length p.cap] 28))
      have HKW := Lib.hid (HK3.out.alloc (.cells #[.string p.dof, .string p.name, .int .i64 p.num, .slice p.at_ p.args.length p.cap] 28))
      have HBB := Lib.hid (show w.heap.size < w1.drew.heap.size from HKT.out.lt)
      have HOWN := Lib.hid (World.ownsRow.alloc hown3 (.cells #[.string p.dof, .string p.name, .int .i64 p.num, .slice p.at_ p.args.length p.cap] 28))
      have HNEW : Hid (∀ (j : Nat) (u : Value), p.cells[j]? = some u → (w3.alloc (.cells #[.string p.dof, .string p.name, .int .i64 p.num, .slice p.at_ p.args.length p.cap] 28)).cell? ((⟨w3.heap.size, 0, none⟩ : Addr).add j) = some u) := Lib.hid (World.news_of_block (heap_alloc_new w3 _))
      have HBASE : Hid (w1.drew.heap.size ≤ (w3.alloc (.cells #[.string p.dof, .string p.name, .int .i64 p.num, .slice p.at_ p.args.length p.cap] 28)).heap.size) := Lib.hid (by have := hb3.size; simp at this ⊢; omega)
      refine hK _ _ ⟨HZ.out _ HB3.out, ?_⟩
      clear hK K hb3 hown3
      refine wpOrd_one ?_
      refine stepAt_of _ rfl rfl (fun K hK => ?_)
      go_simp
      refine hK _ _ ⟨HZ.out _ HBW.out, ?_⟩
      clear hK K
      refine wpOrd_one ?_
      refine stepAt_of _ rfl rfl (fun K hK => ?_)
      refine wp_append_lies _ (.tmp 42) (.tmp 46) 26 rfl w1.drew.heap.size 28 i0 _ 4 64 Tryz.underlying26 hi hz0 hz1 hz2 rfl (by decide) (.slice A3 (headsTo rs rs.length).length c3) (headsTo rs rs.length).length (((headsTo rs rs.length).map Pt.cells).flatten) (by simp [Act.eval, Act.put]) HOWN.out ⟨w3.heap.size, 0, none⟩ 1 1 p.cells (by simp [Act.eval, Act.put]) rfl HNEW.out (by simp [Value.oneCell', Pt.cells]) (by omega) (by rw [headsTo_len (Nat.le_refl _)]; unfold maxLen; omega) (by rw [headsTo_len (Nat.le_refl _)]; omega) HBASE.out _ rfl ?_
      intro g2 c4 w6 hown hgrow hat hlt2
      have hbw6 : Below w.heap.size w w6 := HBW.out.grown hgrow HBW.out.size (fun i hi => by have := (HOWN.out.lt i hi).1; have := HBB.out; omega)
      have HB6 := Lib.hid hbw6
      have HO6 := Lib.hid hown
      have HK6 := Lib.hid ((hgrow.block w.heap.size HKW.out.lt (fun e => by have := (HOWN.out.lt _ e.symm).1; have := HBB.out; omega)).trans HKW.out)
      refine hK _ _ ⟨HZ.out _ HB6.out, ?_⟩
      clear hK K hown hgrow hat hbw6
      refine wpOrd_one ?_
      refine stepAt_of _ rfl rfl (fun K hK => ?_)
      go_simp
      refine hK _ _ ⟨HZ.out _ HB6.out, ?_⟩
      clear hK K
      refine wpOrd_done ?_
      refine NoPanic.normal ?_
      go_wp2_with fail
      go_meet
      exact ⟨some ⟨g2, 0, none⟩, c4, by simp, PatsO.row (by have := HO6.out; simpa using this), HB6.out, HK6.out⟩
    · refine stepAt_of _ rfl rfl (fun K hK => ?_)
      go_simp
      have HKP := Lib.hid (show Blk ((w1.alloc (.cells #[.string p.dof, .string p.name, .int .i64 p.num, .slice p.at_ p.args.length p.cap] 28)).drew) w1.heap.size #[.string p.dof, .string p.name, .int .i64 p.num, .slice p.at_ p.args.length p.cap] 28 from Blk.new w1 _ _)
      have HB4 := Lib.hid (show Below w.heap.size w ((w1.alloc (.cells #[.string p.dof, .string p.name, .int .i64 p.num, .slice p.at_ p.args.length p.cap] 28)).drew) from (HBT.out.alloc HBT.out.size _).drew)
      have HK4 := Lib.hid (show Blk ((w1.alloc (.cells #[.string p.dof, .string p.name, .int .i64 p.num, .slice p.at_ p.args.length p.cap] 28)).drew) w.heap.size _ _ from HKT.out.alloc _)
      refine hK _ _ ⟨HZ.out _ HB4.out, ?_⟩
      clear hK K
      generalize (w1.alloc (.cells #[.string p.dof, .string p.name, .int .i64 p.num, .slice p.at_ p.args.length p.cap] 28)).drew = w4 at HKP HB4 HK4 ⊢
      refine wpOrd_one ?_
      refine stepAt_of _ rfl rfl (fun K hK => ?_)
      go_simp
      refine Calls.mono (HCF.out _ HB4.out) ?_
      rintro e w3 ⟨hb3, v3, rfl, A3, c3, rfl, hown3⟩
      have HBW := Lib.hid (HB4.out.trans (hb3.mono HB4.out.size))
      have HKW := Lib.hid (HK4.out.below hb3 HK4.out.lt)
      have HBB := Lib.hid (show w.heap.size < w4.heap.size from HK4.out.lt)
      have HOWN := Lib.hid hown3
      have HNEW : Hid (∀ (j : Nat) (u : Value), p.cells[j]? = some u → w3.cell? ((⟨w1.heap.size, 0, none⟩ : Addr).add j) = some u) := Lib.hid (World.news_of_block (HKP.out.below hb3 HKP.out.lt))
      have HBASE : Hid (w4.heap.size ≤ w3.heap.size) := Lib.hid hb3.size
      refine hK _ _ ⟨HZ.out _ HBW.out, ?_⟩
      clear hK K hb3 hown3
      refine wpOrd_one ?_
      refine stepAt_of _ rfl rfl (fun K hK => ?_)
      refine wp_append_lies _ (.tmp 42) (.tmp 46) 26 rfl w4.heap.size 28 i0 _ 4 64 Tryz.underlying26 hi hz0 hz1 hz2 rfl (by decide) (.slice A3 (headsTo rs rs.length).length c3) (headsTo rs rs.length).length (((headsTo rs rs.length).map Pt.cells).flatten) (by simp [Act.eval, Act.put]) HOWN.out ⟨w1.heap.size, 0, none⟩ 1 1 p.cells (by simp [Act.eval, Act.put]) rfl HNEW.out (by simp [Value.oneCell', Pt.cells]) (by omega) (by rw [headsTo_len (Nat.le_refl _)]; unfold maxLen; omega) (by rw [headsTo_len (Nat.le_refl _)]; omega) HBASE.out _ rfl ?_
      intro g2 c4 w6 hown hgrow hat hlt2
      have hbw6 : Below w.heap.size w w6 := HBW.out.grown hgrow HBW.out.size (fun i hi => by have := (HOWN.out.lt i hi).1; have := HBB.out; omega)
      have HB6 := Lib.hid hbw6
      have HO6 := Lib.hid hown
      have HK6 := Lib.hid ((hgrow.block w.heap.size HKW.out.lt (fun e => by have := (HOWN.out.lt _ e.symm).1; have := HBB.out; omega)).trans HKW.out)
      refine hK _ _ ⟨HZ.out _ HB6.out, ?_⟩
      clear hK K hown hgrow hat hbw6
      refine wpOrd_one ?_
      refine stepAt_of _ rfl rfl (fun K hK => ?_)
      go_simp
      refine hK _ _ ⟨HZ.out _ HB6.out, ?_⟩
      clear hK K
      refine wpOrd_done ?_
      refine NoPanic.normal ?_
      go_wp2_with fail
      go_meet
      exact ⟨some ⟨g2, 0, none⟩, c4, by simp, PatsO.row (by have := HO6.out; simpa using this), HB6.out, HK6.out⟩
  case rest =>
    obtain ⟨Ac, cc, rfl, HCR, HCB, HCK⟩ := hcut
    have HNW := Lib.hid (notWild_any (headsTo rs rs.length ++ [p]) Ac cc wc (by simp [headsTo_len (Nat.le_refl _)]; omega) HCR.out)
    rw [heads_wild HWR.out hwp] at HNW
    generalize (headsTo rs rs.length ++ [p]).length = nl at HNW ⊢
    obtain ⟨i1, hj, hw0, hw1, hw2⟩ := info_parts infoRow
    clear y0 y1 y2
    unfold Ty.val at *
    go_wp2_with fail
    refine Calls.mono HNW.out ?_
    rintro e w2 ⟨rfl, hb2⟩
    have HB2 := Lib.hid (HCB.out.trans (hb2.mono HCB.out.size))
    have HK2 := Lib.hid (HCK.out.below hb2 HCK.out.lt)
    clear hb2
    obtain ⟨y0, y1, y2⟩ := HK2.out.three
    have yl := HK2.out.lt
    go_wp2_with fail
    refine Calls.mono (HCN.out _) ?_
    rintro e w3 ⟨rfl, hb3⟩
    have HB3 := Lib.hid (HB2.out.trans (hb3.mono HB2.out.size))
    have HK3 := Lib.hid (HK2.out.below hb3 HK2.out.lt)
    clear hb3 y0 y1 y2 yl
    go_wp2_with fail
    go_loopw [61, 14] (fun iv ov wr => ∃ k : Nat, iv = .int .i64 k ∧ k ≤ rs.length ∧ Hid (Below w.heap.size w wr) ∧ Hid (Blk wr w.heap.size #[.string t.dof, .string t.name, .slice t.at_ t.args.length t.cap] 25) ∧ Hid (OwnN (w.heap.size + 1) wr ov k)) (fun iv _ _ => rs.length - (intOf iv).toNat)
    case atStart => exact ⟨0, rfl, Nat.zero_le _, HB3.out, HK3.out, Lib.hid ⟨none, 0, [], rfl, World.ownsRow_nil _ _ _ _⟩⟩
    case round =>
      obtain ⟨k, rfl, hk, HB, HK, HO⟩ := hrel
      obtain ⟨A', c', xs, rfl, hown⟩ := HO.out
      have HOWN := Lib.hid hown
      clear hown
      by_cases hlt : k < rs.length
      · obtain ⟨r, b0, off, hr, hmem, rfl, hb, x0⟩ := HRS.out.arg_at HB.out hlt
        obtain ⟨q, hq, -, hcap⟩ := HWR.out _ hmem
        have hri := HRS.out.each _ hmem
        obtain ⟨ra, rc, rp⟩ := r
        simp only at hq hcap
        subst hq
        subst hcap
        obtain ⟨q', b2, off2, -, -, hra, hb2, -⟩ := Pt.arg_at (k := 0) hri.1 HB.out (by simp)
        simp only at hra
        subst hra
        unfold Rw.val at x0
        simp only [List.length_cons, List.length_nil] at x0
        have hs0 := HB.out.size
        clear hr hri
        go_wp2_with (at_builtin; go_must (refine wpList_append_own_at _ rfl (.tmp 65) (.tmp 68) 80 rfl (w.heap.size + 1) 26 i1 _ 1 24 Tryz.underlying80 hj hw0 hw1 hw2 rfl (by decide) (.slice A' k c') k xs rfl ?hown ⟨wr.heap.size, 0, none⟩ 1 1 [.slice (some ⟨b2, off2, none⟩) 0 0] rfl rfl ?c1 ?c2 ?c3 ?c4 ?c5 ?_))
        case hown => exact World.ownsRow.alloc HOWN.out _
        case c1 => exact World.news_of_block (heap_alloc_new wr _)
        case c2 => simp [Value.oneCell']
        case c3 => unfold maxLen; omega
        case c4 => omega
        case c5 => first | omega | (simp; omega) | (have := HK.out.lt; simp; omega)
        intro v' w5 hown hgrow _ _
        obtain ⟨A5, c5, rfl, -⟩ := row_slice hown
        have hb5 : Below w.heap.size w w5 := (HB.out.alloc hs0 _).grown hgrow (by simp; omega) (fun i hi => by have := (HOWN.out.lt i hi).1; omega)
        have hk5 : Blk w5 w.heap.size _ _ := (hgrow.block _ (by have := HK.out.lt; simp; omega) (fun e => by have := (HOWN.out.lt _ e.symm).1; omega)).trans (HK.out.alloc _)
        have HB5 := Lib.hid hb5
        have HK5 := Lib.hid hk5
        have HO5 := Lib.hid hown
        clear hown hgrow hb5 hk5 x0
        go_wp2_with fail
        exact ⟨⟨k + 1, by go_num, by omega, HB5.out, HK5.out, Lib.hid ⟨A5, c5, _, rfl, HO5.out⟩⟩, by simp [intOf]; omega⟩
      · have hk2 : k = rs.length := by omega
        subst hk2
        obtain ⟨y0, y1, y2⟩ := HK.out.three
        have yl := HK.out.lt
        have HN := Lib.hid (fun W => seek_nil (.pointer (some ⟨b, 0, none⟩)) (some ⟨bt, ot, none⟩) 0 A' rs.length c' (.slice (some ⟨b1, off1, none⟩) 0 0) W)
        obtain ⟨ok, hok⟩ : ∃ x, ((rs.length : Int) == 0) = x := ⟨_, rfl⟩
        rw [hok] at HN
        have HOK := Lib.hid hok
        clear hok
        go_wp2_with fail
        refine region_mix (fun _ => True) [(0, true), (1, true), (2, true), (3, true), (4, true), (5, true), (6, false), (7, true), (8, true), (9, true), (10, false), (11, false)] 11 (by kernel_rfl) (by kernel_rfl) trivial ?_
        simp only [pickM, List.filterMap_cons, List.getElem?_cons_zero, List.getElem?_cons_succ, List.filterMap_nil, Option.map_some]
        repeat
          refine wpMix_read ?_ (by rfl) (fun W hW => ?_) ?_
          rotate_left
          · go_simp
            try with_reducible rfl
          simp only [Act.put, List.setIfInBounds_toArray, List.set_cons_zero, List.set_cons_succ]
        refine wpMix_step rfl (fun K hK => ?_)
        go_simp
        refine Calls.mono (HN.out _) ?_
        rintro e w7 ⟨rfl, rfl⟩
        refine hK _ _ (fun _ => trivial) ?_
        clear hK K
        repeat
          refine wpMix_read ?_ (by rfl) (fun W hW => ?_) ?_
          rotate_left
          · go_simp
            try with_reducible rfl
          simp only [Act.put, List.setIfInBounds_toArray, List.set_cons_zero, List.set_cons_succ]
        iterate 2
          refine wpMix_step rfl (fun K hK => ?_)
          go_simp
          refine hK _ _ (fun _ => trivial) ?_
          clear hK K
        refine wpMix_nil ?_
        refine NoPanic.normal ?_
        cases ok
        case false =>
          go_wp2_with fail
          exact bodyPost_ret (v := .tuple #[.slice none 0 0, .bool false]) (by simp [results, Tryz.results44, go_sem]) rfl ⟨HB.out.drew, _, by rw [HOK.out]⟩
        case true =>
          go_wp2_with fail
          refine Calls.mono (HCV.out _) ?_
          rintro e w8 ⟨rfl, hb8⟩
          have HB8 := Lib.hid (HB.out.drew.trans (hb8.mono HB.out.drew.size))
          have HROW := Lib.hid (row_new w8 (.agg #[.string t.dof, .string emptyS, .int .i64 0, .slice none 0 0]) t.dof)
          have HB9 := Lib.hid (HB8.out.alloc HB8.out.size (.cells #[.string t.dof, .string emptyS, .int .i64 0, .slice none 0 0] 28))
          clear hb8 y0 y1 y2 yl
          go_wp2_with (at_builtin; go_must (refine wpList_append_own_none rfl (.tmp 86) (.tmp 87) 26 rfl w8.heap.size 28 i0 4 Tryz.underlying26 hi (.slice (some ⟨w8.heap.size, 0, none⟩) 1 1) 1 [.string t.dof, .string emptyS, .int .i64 0, .slice none 0 0] rfl HROW.out rfl ?_))
          exact bodyPost_ret (v := .tuple #[.slice (some ⟨w8.heap.size, 0, none⟩) 1 1, .bool true]) (by simp [results, Tryz.results44, go_sem]) rfl ⟨HB9.out, _, by rw [HOK.out]⟩
end Go.Proofs.YtjeggkfgdhepaaaGreatDoor

/- Patterns as rows of one column. -/
set_option linter.unusedVariables false
set_option linter.unusedSimpArgs false
namespace Go.Proofs.YtjeggkfgdhepaaaGreatDoor
open Go.RowKit
open Go.Proofs

theorem own_ne {B : Nat} {w : World} {v : Value} {n size : Nat} {xs : List Value} {e T : TypeId} {b : Nat} {cs : Array Value} (h : w.ownsRow B e size v n xs) (hb : Blk w b cs T) (hne : T ≠ e) : v.ownBlock ≠ some b := by
  rcases h.2 with ⟨rfl, -⟩ | ⟨g, cap, cur, rfl, -, hg, -⟩
  · intro h; cases h
  · intro he
    simp only [Value.ownBlock, Option.some.injEq] at he
    subst he
    unfold Blk at hb
    rw [hg] at hb
    simp only [Option.some.injEq, Obj.cells.injEq] at hb
    exact hne hb.2.1.symm
def oneRow (w : World) (l : List Pt) (i : Nat) (r : Rw) : Prop := ∃ q b, l[i]? = some q ∧ r = ⟨some ⟨b, 0, none⟩, 1, [q]⟩ ∧ Blk w b #[.string q.dof, .string q.name, .int .i64 q.num, .slice q.at_ q.args.length q.cap] 28
def RowsO (B : Nat) (w : World) (v : Value) (l : List Pt) (k : Nat) : Prop :=
  ∃ (rs : List Rw) (A : Option Addr) (c : Nat), rs.length = k ∧ v = .slice A k c ∧ w.ownsRow B 26 1 (.slice A k c) k (rs.map Rw.val) ∧ ∀ i r, rs[i]? = some r → oneRow w l i r
set_option maxRecDepth 100000 in
set_option maxHeartbeats 4000000 in
theorem rows_any (A : Option Addr) (l : List Pt) (c : Nat) (w : World) (hl : l.length ≤ 1048576) (hrow : RowAt w.heap.size w 4 A (l.map Pt.cells)) (hall : ∀ q ∈ l, q.In w.heap.size w) :
    Calls Tryz.prog 45 #[.slice A l.length c] w fun e w' => Below w.heap.size w w' ∧ ∃ v, e = .returned v ∧ RowsO w.heap.size w' v l l.length := by
  have HR := Lib.hid hrow
  have HA := Lib.hid hall
  obtain ⟨i1, hj, hw0, hw1, hw2⟩ := info_parts infoRow
  clear hrow hall
  go_enter Tryz.func45, Tryz.ntmps45
  go_wp2_with fail
  go_loopw [8, 3] (fun iv ov wr => ∃ k : Nat, iv = .int .i64 k ∧ k ≤ l.length ∧ Hid (Below w.heap.size w wr) ∧ Hid (RowsO w.heap.size wr ov l k)) (fun iv _ _ => l.length - (intOf iv).toNat)
  case atStart => exact ⟨0, rfl, Nat.zero_le _, Lib.hid (Below.refl _ _), Lib.hid ⟨[], none, 0, rfl, rfl, World.ownsRow_nil _ _ _ _, fun i r h => by simp at h⟩⟩
  case round =>
    obtain ⟨k, rfl, hk, HB, HO⟩ := hrel
    obtain ⟨rs, A', c', hrl, rfl, hown, hone⟩ := HO.out
    have HOWN := Lib.hid hown
    have HONE := Lib.hid hone
    have HRL := Lib.hid hrl
    clear hown hone hrl
    by_cases hlt : k < l.length
    · obtain ⟨q, b0, off, hq, hmem, rfl, hb, x0, x1, x2, x3⟩ := Pt.arg_at HR.out HB.out hlt
      have HQ := Lib.hid hq
      have hs0 := HB.out.size
      have HQI := Lib.hid (HA.out q hmem)
      clear hq
      go_wp2_with (at_builtin; go_must (refine wpList_append_own_at _ rfl (.tmp 12) (.tmp 15) 80 rfl w.heap.size 26 i1 _ 1 24 Tryz.underlying80 hj hw0 hw1 hw2 rfl (by decide) (.slice A' k c') k (rs.map Rw.val) rfl ?hown ⟨wr.heap.size + 1 + 1, 0, none⟩ 1 1 [.slice (some ⟨wr.heap.size + 1, 0, none⟩) 1 1] rfl rfl ?c1 ?c2 ?c3 ?c4 ?c5 ?_))
      case hown => exact ((HOWN.out.alloc _).alloc _).alloc _
      case c1 => exact cell_one_at _ _ _ _ (by simp)
      case c2 => simp [Value.oneCell']
      case c3 => unfold maxLen; omega
      case c4 => omega
      case c5 => first | omega | (simp; omega)
      intro v' w5 hown hgrow _ _
      obtain ⟨A5, c5, rfl, -⟩ := row_slice hown
      have hkeep : ∀ b cs, Blk (((wr.alloc (.cells #[.string q.dof, .string q.name, .int .i64 q.num, .slice q.at_ q.args.length q.cap] 28)).alloc (.cells #[.string q.dof, .string q.name, .int .i64 q.num, .slice q.at_ q.args.length q.cap] 28)).alloc (.cells #[.slice (some ⟨wr.heap.size + 1, 0, none⟩) 1 1] 26)) b cs 28 → Blk w5 b cs 28 := fun b cs hb => (hgrow.block b hb.lt (own_ne (((HOWN.out.alloc _).alloc _).alloc _) hb (by decide)).symm).trans hb
      have hb5 : Below w.heap.size w w5 := (((HB.out.alloc hs0 _).alloc (by simp; omega) _).alloc (by simp; omega) _).grown hgrow (by simp; omega) (fun i hi => (HOWN.out.lt i hi).1)
      have hnew := hkeep (wr.heap.size + 1) _ ((Blk.new' (wr.alloc (.cells #[.string q.dof, .string q.name, .int .i64 q.num, .slice q.at_ q.args.length q.cap] 28)) _ _ _ (by simp)).alloc _)
      have HB5 := Lib.hid hb5
      have HO5 := Lib.hid hown
      have HALL : Hid (∀ i r, (rs ++ [⟨some ⟨wr.heap.size + 1, 0, none⟩, 1, [q]⟩] : List Rw)[i]? = some r → oneRow w5 l i r) := Lib.hid (by
        intro i r hi
        by_cases hlt3 : i < rs.length
        · rw [List.getElem?_append_left hlt3] at hi
          obtain ⟨q', b', h1, h2, h3⟩ := HONE.out i r hi
          exact ⟨q', b', h1, h2, hkeep _ _ (((h3.alloc _).alloc _).alloc _)⟩
        · rw [List.getElem?_append_right (by omega)] at hi
          have hi0 : i - rs.length = 0 := by
            have := (List.getElem?_eq_some_iff.1 hi).1
            simp at this
            omega
          rw [hi0] at hi
          simp only [List.getElem?_cons_zero, Option.some.injEq] at hi
          have hik : i = k := by have := HRL.out; omega
          subst hi
          subst hik
          exact ⟨q, _, HQ.out, rfl, hnew⟩)
      have HRL5 := Lib.hid (show (rs ++ [⟨some ⟨wr.heap.size + 1, 0, none⟩, 1, [q]⟩] : List Rw).length = k + 1 by have := HRL.out; simp; omega)
      clear hkeep hb5 hnew hown hgrow x0 x1 x2 x3
      go_wp2_with fail
      refine ⟨⟨k + 1, by go_num, by omega, HB5.out, Lib.hid ⟨_, A5, c5, HRL5.out, rfl, ?_, HALL.out⟩⟩, by simp [intOf]; omega⟩
      have h := HO5.out
      simpa [Rw.val] using h
    · have hk2 : k = l.length := by omega
      subst hk2
      go_wp2_with fail
      go_ret
      exact ⟨HB.out, _, rfl, rs, A', c', HRL.out, rfl, HOWN.out, HONE.out⟩
end Go.Proofs.YtjeggkfgdhepaaaGreatDoor

/- Useless over no datatypes, for patterns that match all, at ints. -/
set_option linter.unusedVariables false
set_option linter.unusedSimpArgs false
namespace Go.Proofs.YtjeggkfgdhepaaaGreatDoor
open Go.RowKit
open Go.Proofs

theorem row_pt1 {B k : Nat} {W : World} {q : Pt} {T : TypeId} (hb : Blk W k #[.string q.dof, .string q.name, .int .i64 q.num, .slice q.at_ q.args.length q.cap] T) (hk : k < B) : RowAt B W 4 (some ⟨k, 0, none⟩) ([q].map Pt.cells) := by
  refine fun _ => ⟨k, 0, rfl, hk, fun i x hi j v hj => ?_⟩
  rw [hb.cell]
  rcases i with _ | i
  · simp only [List.map_cons, List.getElem?_cons_zero, Option.some.injEq] at hi
    subst hi
    unfold Pt.cells at hj
    rcases j with _ | _ | _ | _ | j
    · exact hj
    · exact hj
    · exact hj
    · exact hj
    · simp at hj
  · simp at hi
theorem row_vals {B n : Nat} {w : World} {A : Option Addr} {c : Nat} {xs : List Value} {e : TypeId} (h : w.ownsRow B e 1 (.slice A n c) n xs) : RowAt w.heap.size w 1 A (xs.map fun v => [v]) := by
  intro hlen
  rw [List.length_map] at hlen
  obtain ⟨g, hg, -, -⟩ := row_cell h 0 xs[0] (by rw [List.getElem?_eq_getElem hlen])
  subst hg
  refine ⟨g, 0, rfl, (h.lt g rfl).2, fun i x hi j v hj => ?_⟩
  rw [List.getElem?_map] at hi
  obtain ⟨y, hy, rfl⟩ := Option.map_eq_some_iff.1 hi
  rcases j with _ | j
  · simp only [List.getElem?_cons_zero, Option.some.injEq] at hj
    subst hj
    obtain ⟨g', hg', hc, -⟩ := row_cell h i y hy
    simp only [Option.some.injEq, Addr.mk.injEq, and_true] at hg'
    subst hg'
    simpa using hc
  · simp at hj
theorem rowsIn_of {B : Nat} {W : World} {v : Value} {l : List Pt} {k : Nat} (h : RowsO B W v l k) (hk : k ≤ 1048576) (hall : ∀ q ∈ l, q.In W.heap.size W) (hw : ∀ q ∈ l, wildD q.dof = true) :
    ∃ (rs : List Rw) (A : Option Addr) (c : Nat), rs.length = k ∧ v = .slice A k c ∧ RowsIn W.heap.size W A rs ∧ ∀ r ∈ rs, wildRow r := by
  obtain ⟨rs, A, c, hl, rfl, hown, hone⟩ := h
  have hmem : ∀ r ∈ rs, ∃ q b, q ∈ l ∧ r = ⟨some ⟨b, 0, none⟩, 1, [q]⟩ ∧ Blk W b #[.string q.dof, .string q.name, .int .i64 q.num, .slice q.at_ q.args.length q.cap] 28 := fun r hr => by
    obtain ⟨i, hi⟩ := List.getElem?_of_mem hr
    obtain ⟨q, b, h1, h2, h3⟩ := hone i r hi
    exact ⟨q, b, List.mem_of_getElem? h1, h2, h3⟩
  refine ⟨rs, A, c, hl, rfl, ⟨by have := row_vals hown; rwa [List.map_map] at this, fun r hr => ?_, by omega⟩, fun r hr => ?_⟩
  · obtain ⟨q, b, hq, rfl, hb⟩ := hmem r hr
    exact ⟨row_pt1 hb hb.lt, fun p hp => by simp only [List.mem_cons, List.not_mem_nil, or_false] at hp; subst hp; exact hall _ hq, Nat.le_refl _, (show (1 : Nat) ≤ 9223372036854775807 by decide)⟩
  · obtain ⟨q, b, hq, rfl, hb⟩ := hmem r hr
    exact ⟨q, rfl, hw q hq, rfl⟩
theorem infoInt : (Tryz.prog.info? 3).map (fun i => (i.zero, i.size, i.bytes)) = some (some (.int .i64 0), 1, 8) := by kernel_rfl
def usl (k : Nat) : List Value := (List.range' 1 (k - 1)).map fun (i : Nat) => Value.int .i64 i
def OwnI (B : Nat) (w : World) (v : Value) (xs : List Value) : Prop := ∃ A c, v = .slice A xs.length c ∧ w.ownsRow B 3 1 (.slice A xs.length c) xs.length xs
theorem RowAt.take {B : Nat} {w : World} {k : Nat} {A : Option Addr} {l : List (List Value)} (h : RowAt B w k A l) (j : Nat) : RowAt B w k A (l.take j) := fun hl => by
  obtain ⟨b, off, e, hb, hc⟩ := h (by simp at hl; omega)
  refine ⟨b, off, e, hb, fun i x hi => hc i x ?_⟩
  rw [List.getElem?_take] at hi
  split at hi
  · exact hi
  · cases hi
theorem own_wide {B B' : Nat} {w : World} {v : Value} {n size : Nat} {xs : List Value} {e : TypeId} (h : w.ownsRow B' e size v n xs) (hB : B ≤ B') : w.ownsRow B e size v n xs := by
  refine ⟨h.1, ?_⟩
  rcases h.2 with hn | ⟨g, cap, cur, e1, hb, rest⟩
  · exact .inl hn
  · exact .inr ⟨g, cap, cur, e1, Nat.le_trans hB hb, rest⟩
theorem RowsO.keep {B : Nat} {w w' : World} {v : Value} {l : List Pt} {k : Nat} (h : RowsO B w v l k) (hb : Below w.heap.size w w') : RowsO B w' v l k := by
  obtain ⟨rs, A, c, h1, h2, h3, h4⟩ := h
  exact ⟨rs, A, c, h1, h2, row_stays h3 fun k hk => hb.block k (h3.lt k hk).2, fun i r hi => by obtain ⟨q, b, a1, a2, a3⟩ := h4 i r hi; exact ⟨q, b, a1, a2, a3.below hb a3.lt⟩⟩
def P7 (bt bp : Nat) (t : Ty) (q : Pt) (W : World) : Prop := W.cell? ⟨bt, 0, none⟩ = some (.string t.dof) ∧ W.cell? ⟨bt, 1, none⟩ = some (.string t.name) ∧ W.cell? ⟨bt, 2, none⟩ = some (.slice t.at_ t.args.length t.cap) ∧
  W.cell? ⟨bp, 0, none⟩ = some (.string q.dof) ∧ W.cell? ⟨bp, 1, none⟩ = some (.string q.name) ∧ W.cell? ⟨bp, 2, none⟩ = some (.int .i64 q.num) ∧ W.cell? ⟨bp, 3, none⟩ = some (.slice q.at_ q.args.length q.cap)
set_option maxRecDepth 100000 in
set_option maxHeartbeats 4000000 in
theorem useless_wild (t : Ty) (Ap : Option Addr) (ps : List Pt) (cp : Nat) (w : World) (h : Env w) (ht : t.In w.heap.size w) (hp : PtsIn w.heap.size w Ap ps) (hint : (t.dof.toList == [105, 110, 116]) = true) (hw : ∀ q ∈ ps, wildD q.dof = true) (hcap : ps.length ≤ cp) (hok : askedErr [] t ps = 0) (hsm : ps.length ≤ 12) :
    Calls Tryz.prog 18 #[.slice none 0 0, t.val, .slice Ap ps.length cp] w fun e w' => Below w.heap.size w w' ∧ ∃ v, e = .returned (.tuple #[v, .int .i64 0]) ∧ OwnI w.heap.size w' v (usl ps.length) := by
  have HP := Lib.hid hp
  have HW := Lib.hid hw
  have HT := Lib.hid ht
  have HASK := Lib.hid (fun (W : World) (hW : Below w.heap.size w W) => asked_any anyPtr none [] 0 t Ap ps cp W (fun _ W bD bC bE _ h1 _ _ => seeker_none W bD bC bE _ h1) (h.next hW) ⟨fun h => absurd h (by simp), fun d hd => absurd hd (by simp), by simp, by simp [consN]⟩ (ht.at_ hW hW.size) (hp.at_ hW hW.size))
  rw [hok] at HASK
  obtain ⟨i0, hi, hz0, hz1, hz2⟩ := info_parts infoInt
  clear hp hw h hok ht
  have HB0 := Lib.hid ((Below.refl w.heap.size w).alloc (Nat.le_refl _) (.cells #[.string t.dof, .string t.name, .slice t.at_ t.args.length t.cap] 25))
  have K0 := Lib.hid (Blk.new w #[.string t.dof, .string t.name, .slice t.at_ t.args.length t.cap] 25)
  unfold Ty.val at *
  go_enter Tryz.func18, Tryz.ntmps18
  go_wp2_with fail
  refine Calls.mono (HASK.out _ HB0.out) ?_
  rintro e w1 ⟨hb1, ⟨-, v1, rfl, b, rfl⟩ | ⟨hne, -⟩⟩
  case inr => exact absurd rfl hne
  have HB1 := Lib.hid (HB0.out.trans (hb1.mono HB0.out.size))
  have K1 := Lib.hid (K0.out.below hb1 K0.out.lt)
  clear hb1
  go_wp2_with fail
  go_loopw [27, 10] (fun iv ov wr => ∃ k : Nat, iv = .int .i64 k ∧ k ≤ ps.length ∧ Hid (Below w.heap.size w wr) ∧ Hid (Blk wr w.heap.size #[.string t.dof, .string t.name, .slice t.at_ t.args.length t.cap] 25) ∧ Hid (OwnI (w.heap.size + 1) wr ov (usl k))) (fun iv _ _ => ps.length - (intOf iv).toNat)
  case atStart => exact ⟨0, rfl, Nat.zero_le _, HB1.out, K1.out, Lib.hid ⟨none, 0, rfl, World.ownsRow_nil _ _ _ _⟩⟩
  case round =>
    obtain ⟨k, rfl, hk, HB, HK, HO⟩ := hrel
    obtain ⟨A', c', rfl, hown⟩ := HO.out
    have HOWN := Lib.hid hown
    clear hown
    by_cases hlt : k < ps.length
    · obtain ⟨q, b0, off, hq, hmem, rfl, hb, x0, x1, x2, x3⟩ := Pt.arg_at HP.out.row HB.out hlt
      have HQ := Lib.hid hq
      have hs0 := HB.out.size
      have kc : k ≤ cp := by omega
      clear hq
      go_wp2_with fail
      have HP0 := Lib.hid (show P7 w.heap.size wr.heap.size t q (wr.alloc (.cells #[.string q.dof, .string q.name, .int .i64 q.num, .slice q.at_ q.args.length q.cap] 28)) from ⟨(HK.out.alloc _).cell 0, (HK.out.alloc _).cell 1, (HK.out.alloc _).cell 2, (Blk.new wr _ _).cell 0, (Blk.new wr _ _).cell 1, (Blk.new wr _ _).cell 2, (Blk.new wr _ _).cell 3⟩)
      have HBW := Lib.hid (HB.out.alloc hs0 (.cells #[.string q.dof, .string q.name, .int .i64 q.num, .slice q.at_ q.args.length q.cap] 28))
      have HKW := Lib.hid (HK.out.alloc (.cells #[.string q.dof, .string q.name, .int .i64 q.num, .slice q.at_ q.args.length q.cap] 28))
      have HQW := Lib.hid (Blk.new wr #[.string q.dof, .string q.name, .int .i64 q.num, .slice q.at_ q.args.length q.cap] 28)
      have HOW := Lib.hid (World.ownsRow.alloc HOWN.out (.cells #[.string q.dof, .string q.name, .int .i64 q.num, .slice q.at_ q.args.length q.cap] 28))
      clear x0 x1 x2 x3 HP0
      generalize wr.alloc (.cells #[.string q.dof, .string q.name, .int .i64 q.num, .slice q.at_ q.args.length q.cap] 28) = w0 at HBW HKW HQW HOW ⊢
      have HSF := Lib.hid (fun W (hW : Below w0.heap.size w0 W) => (show P7 w.heap.size wr.heap.size t q W from by
        have k1 := HKW.out.below hW HKW.out.lt
        have k2 := HQW.out.below hW HQW.out.lt
        exact ⟨k1.cell 0, k1.cell 1, k1.cell 2, k2.cell 0, k2.cell 1, k2.cell 2, k2.cell 3⟩))
      have HZ0 := Lib.hid (Below.refl w0.heap.size w0)
      have HROWS := Lib.hid (fun (W : World) (hW : Below w.heap.size w W) => (by
        have hl : (ps.take k).length = k := by simp; omega
        have h := rows_any (some ⟨b0, off, none⟩) (ps.take k) cp W (by omega) (by rw [List.map_take]; exact RowAt.take ((HP.out.at_ hW hW.size).row) k) (fun q hq => (HP.out.each q (List.mem_of_mem_take hq)).at_ hW hW.size)
        rw [hl] at h
        exact h : Calls Tryz.prog 45 #[.slice (some ⟨b0, off, none⟩) k cp] W fun e w' => Below W.heap.size W w' ∧ ∃ v, e = .returned v ∧ RowsO W.heap.size w' v (ps.take k) k))
      have HSEEK := Lib.hid (fun (W : World) (bt bp : Nat) (A9 : Option Addr) (c9 : Nat) (hW : Below w.heap.size w W) (kt : Blk W bt #[.string t.dof, .string t.name, .slice t.at_ t.args.length t.cap] 25) (kp : Blk W bp #[.string q.dof, .string q.name, .int .i64 q.num, .slice q.at_ q.args.length q.cap] 28) (ro : RowsO w.heap.size W (.slice A9 k c9) (ps.take k) k) => (by
        obtain ⟨rs, A8, c8, hl8, he, hri, hwr⟩ := rowsIn_of ro (by omega) (fun q hq => (HP.out.each q (List.mem_of_mem_take hq)).at_ hW hW.size) (fun q hq => HW.out q (List.mem_of_mem_take hq))
        cases he
        have hs := seek_flat b bt 0 t A9 rs c9 bp 0 q W hint (row_ty1 kt kt.lt) hri hwr (row_pt1 kp kp.lt) (HW.out q hmem)
        rw [hl8] at hs
        exact hs : Calls Tryz.prog 44 #[.pointer (some ⟨b, 0, none⟩), .slice (some ⟨bt, 0, none⟩) 1 1, .slice A9 k c9, .slice (some ⟨bp, 0, none⟩) 1 1] W (FlatPost W ((k : Int) == 0))))
      obtain ⟨z, hz⟩ : ∃ z, ((k : Int) == 0) = z := ⟨_, rfl⟩
      have HU1 := Lib.hid (fun (hh : z = true) => (show usl (k + 1) = usl k by
        rw [hh] at hz
        have : k = 0 := by simpa using hz
        subst this
        rfl))
      have HU2 := Lib.hid (fun (hh : z = false) => (show usl (k + 1) = usl k ++ [.int .i64 (k : Nat)] by
        rw [hh] at hz
        have hk0 : k ≠ 0 := by simpa using hz
        unfold usl
        rw [show k + 1 - 1 = (k - 1) + 1 by omega, List.range'_concat, List.map_append]
        simp
        omega))
      have HUL := Lib.hid (show (usl k).length ≤ 12 by unfold usl; simp; omega)
      rw [hz] at HSEEK
      clear hz
      refine region_ord (P7 w.heap.size wr.heap.size t q) (.read 0 (.read 1 (.read 3 (.read 4 (.read 5 (.read 7 (.three 2 (.two 6 (.one 8 (.one 9 (.read 10 (.read 11 (.read 12 (.one 13 (.one 14 .done))))))) 8 (.one 6 (.one 9 (.read 10 (.read 11 (.read 12 (.one 13 (.one 14 .done)))))))) 6 (.two 2 (.one 8 (.one 9 (.read 10 (.read 11 (.read 12 (.one 13 (.one 14 .done))))))) 8 (.one 2 (.one 9 (.read 10 (.read 11 (.read 12 (.one 13 (.one 14 .done)))))))) 8 (.two 2 (.one 6 (.one 9 (.read 10 (.read 11 (.read 12 (.one 13 (.one 14 .done))))))) 6 (.one 2 (.one 9 (.read 10 (.read 11 (.read 12 (.one 13 (.one 14 .done))))))))))))))) (by kernel_rfl) (by kernel_rfl) (HSF.out _ HZ0.out.drew) ?_
      iterate 6
        refine wpOrd_read _ ?_ rfl (by rfl) (fun W hW => ?_) ?_
        rotate_left
        · unfold P7 at hW
          go_simp
          try with_reducible rfl
        simp only [Act.put, List.setIfInBounds_toArray, List.set_cons_zero, List.set_cons_succ]
      refine ⟨?_, ?_, ?_⟩
      · refine stepAt_of _ rfl rfl (fun K hK => ?_)
        go_simp
        have KT := Lib.hid (show Blk ((w0.alloc (.cells #[.string t.dof, .string t.name, .slice t.at_ t.args.length t.cap] 25)).drew) w0.heap.size #[.string t.dof, .string t.name, .slice t.at_ t.args.length t.cap] 25 from Blk.new w0 _ _)
        have HS1 := Lib.hid (show Below w0.heap.size w0 ((w0.alloc (.cells #[.string t.dof, .string t.name, .slice t.at_ t.args.length t.cap] 25)).drew) from ((Below.refl _ _).alloc (Nat.le_refl _) _).drew)
        have HZ1 := Lib.hid (HZ0.out.trans (HS1.out.mono HZ0.out.size))
        refine hK _ _ ⟨HSF.out _ HZ1.out, ?_⟩
        clear hK K
        generalize ((w0.alloc (.cells #[.string t.dof, .string t.name, .slice t.at_ t.args.length t.cap] 25)).drew) = wx1 at KT HS1 HZ1 ⊢
        refine wpOrd_two ?_ ?_
        · refine stepAt_of _ rfl rfl (fun K hK => ?_)
          go_simp
          have HD := Lib.hid (HBW.out.trans (HZ1.out.mono HBW.out.size))
          refine Calls.mono (HROWS.out _ HD.out) ?_
          rintro e wx2 ⟨hb9, v9, rfl, hro⟩
          obtain ⟨rs9, A9, c9, hr1, rfl, hr2, hr3⟩ := hro
          have RO : Hid (RowsO w.heap.size wx2 (.slice A9 k c9) (ps.take k) k) := Lib.hid ⟨rs9, A9, c9, hr1, rfl, own_wide hr2 HD.out.size, hr3⟩
          have HS2 := Lib.hid (show Below wx1.heap.size wx1 wx2 from hb9)
          have KT := Lib.hid (KT.out.below HS2.out KT.out.lt)
          have HZ2 := Lib.hid (HZ1.out.trans (HS2.out.mono HZ1.out.size))
          refine hK _ _ ⟨HSF.out _ HZ2.out, ?_⟩
          clear hK K hb9 hr1 hr2 hr3
          refine wpOrd_one ?_
          · refine stepAt_of _ rfl rfl (fun K hK => ?_)
            go_simp
            have KP := Lib.hid (show Blk (wx2.alloc (.cells #[.string q.dof, .string q.name, .int .i64 q.num, .slice q.at_ q.args.length q.cap] 28)) wx2.heap.size #[.string q.dof, .string q.name, .int .i64 q.num, .slice q.at_ q.args.length q.cap] 28 from Blk.new wx2 _ _)
            have HS3 := Lib.hid (show Below wx2.heap.size wx2 (wx2.alloc (.cells #[.string q.dof, .string q.name, .int .i64 q.num, .slice q.at_ q.args.length q.cap] 28)) from (Below.refl _ _).alloc (Nat.le_refl _) _)
            have KT := Lib.hid (KT.out.below HS3.out KT.out.lt)
            have RO := Lib.hid (RO.out.keep HS3.out)
            have HZ3 := Lib.hid (HZ2.out.trans (HS3.out.mono HZ2.out.size))
            refine hK _ _ ⟨HSF.out _ HZ3.out, ?_⟩
            clear hK K
            generalize (wx2.alloc (.cells #[.string q.dof, .string q.name, .int .i64 q.num, .slice q.at_ q.args.length q.cap] 28)) = wx3 at KP HS3 HZ3 KT RO ⊢
            refine wpOrd_one ?_
            refine stepAt_of _ rfl rfl (fun K hK => ?_)
            go_simp
            refine Calls.mono (HSEEK.out _ _ _ _ _ (HBW.out.trans (HZ3.out.mono HBW.out.size)) KT.out KP.out RO.out) ?_
            rintro e wz ⟨hbz, vz, rfl⟩
            have HZZ := Lib.hid (HZ3.out.trans (hbz.mono HZ3.out.size))
            refine hK _ _ ⟨HSF.out _ HZZ.out, ?_⟩
            clear hK K hbz
            refine wpOrd_read _ ?_ rfl (by rfl) (fun W hW => ?_) ?_
            rotate_left
            · unfold P7 at hW
              go_simp
              try with_reducible rfl
            simp only [Act.put, List.setIfInBounds_toArray, List.set_cons_zero, List.set_cons_succ]
            refine wpOrd_read _ ?_ rfl (by rfl) (fun W hW => ?_) ?_
            rotate_left
            · unfold P7 at hW
              go_simp
              try with_reducible rfl
            simp only [Act.put, List.setIfInBounds_toArray, List.set_cons_zero, List.set_cons_succ]
            refine wpOrd_read _ ?_ rfl (by rfl) (fun W hW => ?_) ?_
            rotate_left
            · unfold P7 at hW
              go_simp
              try with_reducible rfl
            simp only [Act.put, List.setIfInBounds_toArray, List.set_cons_zero, List.set_cons_succ]
            iterate 2
              refine wpOrd_one ?_
              refine stepAt_of _ rfl rfl (fun K hK => ?_)
              go_simp
              refine hK _ _ ⟨HSF.out _ HZZ.out, ?_⟩
              clear hK K
            refine wpOrd_done ?_
            refine NoPanic.normal ?_
            have HBZ := Lib.hid (HBW.out.trans (HZZ.out.mono HBW.out.size))
            have HKZ := Lib.hid (HKW.out.below HZZ.out HKW.out.lt)
            have HOZ := Lib.hid (row_stays HOW.out fun i hi => HZZ.out.block i (HOW.out.lt i hi).2)
            have hzs := HKZ.out.lt
            cases z
            case true =>
              go_wp2_with fail
              exact ⟨⟨k + 1, by go_num, by omega, HBZ.out, HKZ.out, Lib.hid ⟨A', c', by rw [HU1.out (by simp)], by rw [HU1.out (by simp)]; exact HOZ.out⟩⟩, by simp [intOf]; omega⟩
            case false =>
              go_wp2_with (at_builtin; go_must (refine wpList_append_own_at _ rfl (.tmp 47) (.tmp 49) 41 rfl (w.heap.size + 1) 3 i0 _ 1 8 Tryz.underlying41 hi hz0 hz1 hz2 rfl (by decide) (.slice A' (usl k).length c') (usl k).length (usl k) rfl (HOZ.out.alloc _) ⟨wz.heap.size, 0, none⟩ 1 1 [.int .i64 k] rfl rfl (World.news_of_block (heap_alloc_new wz _)) (by simp [Value.oneCell']) (by have := HUL.out; unfold maxLen; omega) (by have := HUL.out; omega) (by first | omega | (simp; omega)) ?_))
              intro v' w9 hown hgrow _ _
              obtain ⟨A5, c5, rfl, -⟩ := row_slice hown
              have hb9 : Below w.heap.size w w9 := (HBZ.out.alloc HBZ.out.size _).grown hgrow (by simp; omega) (fun i hi => by have := (HOZ.out.lt i hi).1; omega)
              have hk9 : Blk w9 w.heap.size _ _ := (hgrow.block _ (by simp; omega) (fun e => by have := (HOZ.out.lt _ e.symm).1; omega)).trans (HKZ.out.alloc _)
              have HB9 := Lib.hid hb9
              have HK9 := Lib.hid hk9
              have HO9 := Lib.hid hown
              clear hown hgrow hb9 hk9
              go_wp2_with fail
              exact ⟨⟨k + 1, by go_num, by omega, HB9.out, HK9.out, Lib.hid ⟨A5, c5, by rw [HU2.out (by simp)]; simp, by rw [HU2.out (by simp)]; have := HO9.out; simpa using this⟩⟩, by simp [intOf]; omega⟩
        · refine stepAt_of _ rfl rfl (fun K hK => ?_)
          go_simp
          have KP := Lib.hid (show Blk (wx1.alloc (.cells #[.string q.dof, .string q.name, .int .i64 q.num, .slice q.at_ q.args.length q.cap] 28)) wx1.heap.size #[.string q.dof, .string q.name, .int .i64 q.num, .slice q.at_ q.args.length q.cap] 28 from Blk.new wx1 _ _)
          have HS2 := Lib.hid (show Below wx1.heap.size wx1 (wx1.alloc (.cells #[.string q.dof, .string q.name, .int .i64 q.num, .slice q.at_ q.args.length q.cap] 28)) from (Below.refl _ _).alloc (Nat.le_refl _) _)
          have KT := Lib.hid (KT.out.below HS2.out KT.out.lt)
          have HZ2 := Lib.hid (HZ1.out.trans (HS2.out.mono HZ1.out.size))
          refine hK _ _ ⟨HSF.out _ HZ2.out, ?_⟩
          clear hK K
          generalize (wx1.alloc (.cells #[.string q.dof, .string q.name, .int .i64 q.num, .slice q.at_ q.args.length q.cap] 28)) = wx2 at KP HS2 HZ2 KT ⊢
          refine wpOrd_one ?_
          · refine stepAt_of _ rfl rfl (fun K hK => ?_)
            go_simp
            have HD := Lib.hid (HBW.out.trans (HZ2.out.mono HBW.out.size))
            refine Calls.mono (HROWS.out _ HD.out) ?_
            rintro e wx3 ⟨hb9, v9, rfl, hro⟩
            obtain ⟨rs9, A9, c9, hr1, rfl, hr2, hr3⟩ := hro
            have RO : Hid (RowsO w.heap.size wx3 (.slice A9 k c9) (ps.take k) k) := Lib.hid ⟨rs9, A9, c9, hr1, rfl, own_wide hr2 HD.out.size, hr3⟩
            have HS3 := Lib.hid (show Below wx2.heap.size wx2 wx3 from hb9)
            have KT := Lib.hid (KT.out.below HS3.out KT.out.lt)
            have KP := Lib.hid (KP.out.below HS3.out KP.out.lt)
            have HZ3 := Lib.hid (HZ2.out.trans (HS3.out.mono HZ2.out.size))
            refine hK _ _ ⟨HSF.out _ HZ3.out, ?_⟩
            clear hK K hb9 hr1 hr2 hr3
            refine wpOrd_one ?_
            refine stepAt_of _ rfl rfl (fun K hK => ?_)
            go_simp
            refine Calls.mono (HSEEK.out _ _ _ _ _ (HBW.out.trans (HZ3.out.mono HBW.out.size)) KT.out KP.out RO.out) ?_
            rintro e wz ⟨hbz, vz, rfl⟩
            have HZZ := Lib.hid (HZ3.out.trans (hbz.mono HZ3.out.size))
            refine hK _ _ ⟨HSF.out _ HZZ.out, ?_⟩
            clear hK K hbz
            refine wpOrd_read _ ?_ rfl (by rfl) (fun W hW => ?_) ?_
            rotate_left
            · unfold P7 at hW
              go_simp
              try with_reducible rfl
            simp only [Act.put, List.setIfInBounds_toArray, List.set_cons_zero, List.set_cons_succ]
            refine wpOrd_read _ ?_ rfl (by rfl) (fun W hW => ?_) ?_
            rotate_left
            · unfold P7 at hW
              go_simp
              try with_reducible rfl
            simp only [Act.put, List.setIfInBounds_toArray, List.set_cons_zero, List.set_cons_succ]
            refine wpOrd_read _ ?_ rfl (by rfl) (fun W hW => ?_) ?_
            rotate_left
            · unfold P7 at hW
              go_simp
              try with_reducible rfl
            simp only [Act.put, List.setIfInBounds_toArray, List.set_cons_zero, List.set_cons_succ]
            iterate 2
              refine wpOrd_one ?_
              refine stepAt_of _ rfl rfl (fun K hK => ?_)
              go_simp
              refine hK _ _ ⟨HSF.out _ HZZ.out, ?_⟩
              clear hK K
            refine wpOrd_done ?_
            refine NoPanic.normal ?_
            have HBZ := Lib.hid (HBW.out.trans (HZZ.out.mono HBW.out.size))
            have HKZ := Lib.hid (HKW.out.below HZZ.out HKW.out.lt)
            have HOZ := Lib.hid (row_stays HOW.out fun i hi => HZZ.out.block i (HOW.out.lt i hi).2)
            have hzs := HKZ.out.lt
            cases z
            case true =>
              go_wp2_with fail
              exact ⟨⟨k + 1, by go_num, by omega, HBZ.out, HKZ.out, Lib.hid ⟨A', c', by rw [HU1.out (by simp)], by rw [HU1.out (by simp)]; exact HOZ.out⟩⟩, by simp [intOf]; omega⟩
            case false =>
              go_wp2_with (at_builtin; go_must (refine wpList_append_own_at _ rfl (.tmp 47) (.tmp 49) 41 rfl (w.heap.size + 1) 3 i0 _ 1 8 Tryz.underlying41 hi hz0 hz1 hz2 rfl (by decide) (.slice A' (usl k).length c') (usl k).length (usl k) rfl (HOZ.out.alloc _) ⟨wz.heap.size, 0, none⟩ 1 1 [.int .i64 k] rfl rfl (World.news_of_block (heap_alloc_new wz _)) (by simp [Value.oneCell']) (by have := HUL.out; unfold maxLen; omega) (by have := HUL.out; omega) (by first | omega | (simp; omega)) ?_))
              intro v' w9 hown hgrow _ _
              obtain ⟨A5, c5, rfl, -⟩ := row_slice hown
              have hb9 : Below w.heap.size w w9 := (HBZ.out.alloc HBZ.out.size _).grown hgrow (by simp; omega) (fun i hi => by have := (HOZ.out.lt i hi).1; omega)
              have hk9 : Blk w9 w.heap.size _ _ := (hgrow.block _ (by simp; omega) (fun e => by have := (HOZ.out.lt _ e.symm).1; omega)).trans (HKZ.out.alloc _)
              have HB9 := Lib.hid hb9
              have HK9 := Lib.hid hk9
              have HO9 := Lib.hid hown
              clear hown hgrow hb9 hk9
              go_wp2_with fail
              exact ⟨⟨k + 1, by go_num, by omega, HB9.out, HK9.out, Lib.hid ⟨A5, c5, by rw [HU2.out (by simp)]; simp, by rw [HU2.out (by simp)]; have := HO9.out; simpa using this⟩⟩, by simp [intOf]; omega⟩
      · refine stepAt_of _ rfl rfl (fun K hK => ?_)
        go_simp
        have HD := Lib.hid (show Below w.heap.size w w0.drew from (HBW.out.trans (HZ0.out.mono HBW.out.size)).drew)
        refine Calls.mono (HROWS.out _ HD.out) ?_
        rintro e wx1 ⟨hb9, v9, rfl, hro⟩
        obtain ⟨rs9, A9, c9, hr1, rfl, hr2, hr3⟩ := hro
        have RO : Hid (RowsO w.heap.size wx1 (.slice A9 k c9) (ps.take k) k) := Lib.hid ⟨rs9, A9, c9, hr1, rfl, own_wide hr2 HD.out.size, hr3⟩
        have HS1 := Lib.hid (show Below w0.heap.size w0 wx1 from (Below.refl _ _).drew.trans hb9)
        have HZ1 := Lib.hid (HZ0.out.trans (HS1.out.mono HZ0.out.size))
        refine hK _ _ ⟨HSF.out _ HZ1.out, ?_⟩
        clear hK K hb9 hr1 hr2 hr3
        refine wpOrd_two ?_ ?_
        · refine stepAt_of _ rfl rfl (fun K hK => ?_)
          go_simp
          have KT := Lib.hid (show Blk (wx1.alloc (.cells #[.string t.dof, .string t.name, .slice t.at_ t.args.length t.cap] 25)) wx1.heap.size #[.string t.dof, .string t.name, .slice t.at_ t.args.length t.cap] 25 from Blk.new wx1 _ _)
          have HS2 := Lib.hid (show Below wx1.heap.size wx1 (wx1.alloc (.cells #[.string t.dof, .string t.name, .slice t.at_ t.args.length t.cap] 25)) from (Below.refl _ _).alloc (Nat.le_refl _) _)
          have RO := Lib.hid (RO.out.keep HS2.out)
          have HZ2 := Lib.hid (HZ1.out.trans (HS2.out.mono HZ1.out.size))
          refine hK _ _ ⟨HSF.out _ HZ2.out, ?_⟩
          clear hK K
          generalize (wx1.alloc (.cells #[.string t.dof, .string t.name, .slice t.at_ t.args.length t.cap] 25)) = wx2 at KT HS2 HZ2 RO ⊢
          refine wpOrd_one ?_
          · refine stepAt_of _ rfl rfl (fun K hK => ?_)
            go_simp
            have KP := Lib.hid (show Blk (wx2.alloc (.cells #[.string q.dof, .string q.name, .int .i64 q.num, .slice q.at_ q.args.length q.cap] 28)) wx2.heap.size #[.string q.dof, .string q.name, .int .i64 q.num, .slice q.at_ q.args.length q.cap] 28 from Blk.new wx2 _ _)
            have HS3 := Lib.hid (show Below wx2.heap.size wx2 (wx2.alloc (.cells #[.string q.dof, .string q.name, .int .i64 q.num, .slice q.at_ q.args.length q.cap] 28)) from (Below.refl _ _).alloc (Nat.le_refl _) _)
            have RO := Lib.hid (RO.out.keep HS3.out)
            have KT := Lib.hid (KT.out.below HS3.out KT.out.lt)
            have HZ3 := Lib.hid (HZ2.out.trans (HS3.out.mono HZ2.out.size))
            refine hK _ _ ⟨HSF.out _ HZ3.out, ?_⟩
            clear hK K
            generalize (wx2.alloc (.cells #[.string q.dof, .string q.name, .int .i64 q.num, .slice q.at_ q.args.length q.cap] 28)) = wx3 at KP HS3 HZ3 RO KT ⊢
            refine wpOrd_one ?_
            refine stepAt_of _ rfl rfl (fun K hK => ?_)
            go_simp
            refine Calls.mono (HSEEK.out _ _ _ _ _ (HBW.out.trans (HZ3.out.mono HBW.out.size)) KT.out KP.out RO.out) ?_
            rintro e wz ⟨hbz, vz, rfl⟩
            have HZZ := Lib.hid (HZ3.out.trans (hbz.mono HZ3.out.size))
            refine hK _ _ ⟨HSF.out _ HZZ.out, ?_⟩
            clear hK K hbz
            refine wpOrd_read _ ?_ rfl (by rfl) (fun W hW => ?_) ?_
            rotate_left
            · unfold P7 at hW
              go_simp
              try with_reducible rfl
            simp only [Act.put, List.setIfInBounds_toArray, List.set_cons_zero, List.set_cons_succ]
            refine wpOrd_read _ ?_ rfl (by rfl) (fun W hW => ?_) ?_
            rotate_left
            · unfold P7 at hW
              go_simp
              try with_reducible rfl
            simp only [Act.put, List.setIfInBounds_toArray, List.set_cons_zero, List.set_cons_succ]
            refine wpOrd_read _ ?_ rfl (by rfl) (fun W hW => ?_) ?_
            rotate_left
            · unfold P7 at hW
              go_simp
              try with_reducible rfl
            simp only [Act.put, List.setIfInBounds_toArray, List.set_cons_zero, List.set_cons_succ]
            iterate 2
              refine wpOrd_one ?_
              refine stepAt_of _ rfl rfl (fun K hK => ?_)
              go_simp
              refine hK _ _ ⟨HSF.out _ HZZ.out, ?_⟩
              clear hK K
            refine wpOrd_done ?_
            refine NoPanic.normal ?_
            have HBZ := Lib.hid (HBW.out.trans (HZZ.out.mono HBW.out.size))
            have HKZ := Lib.hid (HKW.out.below HZZ.out HKW.out.lt)
            have HOZ := Lib.hid (row_stays HOW.out fun i hi => HZZ.out.block i (HOW.out.lt i hi).2)
            have hzs := HKZ.out.lt
            cases z
            case true =>
              go_wp2_with fail
              exact ⟨⟨k + 1, by go_num, by omega, HBZ.out, HKZ.out, Lib.hid ⟨A', c', by rw [HU1.out (by simp)], by rw [HU1.out (by simp)]; exact HOZ.out⟩⟩, by simp [intOf]; omega⟩
            case false =>
              go_wp2_with (at_builtin; go_must (refine wpList_append_own_at _ rfl (.tmp 47) (.tmp 49) 41 rfl (w.heap.size + 1) 3 i0 _ 1 8 Tryz.underlying41 hi hz0 hz1 hz2 rfl (by decide) (.slice A' (usl k).length c') (usl k).length (usl k) rfl (HOZ.out.alloc _) ⟨wz.heap.size, 0, none⟩ 1 1 [.int .i64 k] rfl rfl (World.news_of_block (heap_alloc_new wz _)) (by simp [Value.oneCell']) (by have := HUL.out; unfold maxLen; omega) (by have := HUL.out; omega) (by first | omega | (simp; omega)) ?_))
              intro v' w9 hown hgrow _ _
              obtain ⟨A5, c5, rfl, -⟩ := row_slice hown
              have hb9 : Below w.heap.size w w9 := (HBZ.out.alloc HBZ.out.size _).grown hgrow (by simp; omega) (fun i hi => by have := (HOZ.out.lt i hi).1; omega)
              have hk9 : Blk w9 w.heap.size _ _ := (hgrow.block _ (by simp; omega) (fun e => by have := (HOZ.out.lt _ e.symm).1; omega)).trans (HKZ.out.alloc _)
              have HB9 := Lib.hid hb9
              have HK9 := Lib.hid hk9
              have HO9 := Lib.hid hown
              clear hown hgrow hb9 hk9
              go_wp2_with fail
              exact ⟨⟨k + 1, by go_num, by omega, HB9.out, HK9.out, Lib.hid ⟨A5, c5, by rw [HU2.out (by simp)]; simp, by rw [HU2.out (by simp)]; have := HO9.out; simpa using this⟩⟩, by simp [intOf]; omega⟩
        · refine stepAt_of _ rfl rfl (fun K hK => ?_)
          go_simp
          have KP := Lib.hid (show Blk (wx1.alloc (.cells #[.string q.dof, .string q.name, .int .i64 q.num, .slice q.at_ q.args.length q.cap] 28)) wx1.heap.size #[.string q.dof, .string q.name, .int .i64 q.num, .slice q.at_ q.args.length q.cap] 28 from Blk.new wx1 _ _)
          have HS2 := Lib.hid (show Below wx1.heap.size wx1 (wx1.alloc (.cells #[.string q.dof, .string q.name, .int .i64 q.num, .slice q.at_ q.args.length q.cap] 28)) from (Below.refl _ _).alloc (Nat.le_refl _) _)
          have RO := Lib.hid (RO.out.keep HS2.out)
          have HZ2 := Lib.hid (HZ1.out.trans (HS2.out.mono HZ1.out.size))
          refine hK _ _ ⟨HSF.out _ HZ2.out, ?_⟩
          clear hK K
          generalize (wx1.alloc (.cells #[.string q.dof, .string q.name, .int .i64 q.num, .slice q.at_ q.args.length q.cap] 28)) = wx2 at KP HS2 HZ2 RO ⊢
          refine wpOrd_one ?_
          · refine stepAt_of _ rfl rfl (fun K hK => ?_)
            go_simp
            have KT := Lib.hid (show Blk (wx2.alloc (.cells #[.string t.dof, .string t.name, .slice t.at_ t.args.length t.cap] 25)) wx2.heap.size #[.string t.dof, .string t.name, .slice t.at_ t.args.length t.cap] 25 from Blk.new wx2 _ _)
            have HS3 := Lib.hid (show Below wx2.heap.size wx2 (wx2.alloc (.cells #[.string t.dof, .string t.name, .slice t.at_ t.args.length t.cap] 25)) from (Below.refl _ _).alloc (Nat.le_refl _) _)
            have RO := Lib.hid (RO.out.keep HS3.out)
            have KP := Lib.hid (KP.out.below HS3.out KP.out.lt)
            have HZ3 := Lib.hid (HZ2.out.trans (HS3.out.mono HZ2.out.size))
            refine hK _ _ ⟨HSF.out _ HZ3.out, ?_⟩
            clear hK K
            generalize (wx2.alloc (.cells #[.string t.dof, .string t.name, .slice t.at_ t.args.length t.cap] 25)) = wx3 at KT HS3 HZ3 RO KP ⊢
            refine wpOrd_one ?_
            refine stepAt_of _ rfl rfl (fun K hK => ?_)
            go_simp
            refine Calls.mono (HSEEK.out _ _ _ _ _ (HBW.out.trans (HZ3.out.mono HBW.out.size)) KT.out KP.out RO.out) ?_
            rintro e wz ⟨hbz, vz, rfl⟩
            have HZZ := Lib.hid (HZ3.out.trans (hbz.mono HZ3.out.size))
            refine hK _ _ ⟨HSF.out _ HZZ.out, ?_⟩
            clear hK K hbz
            refine wpOrd_read _ ?_ rfl (by rfl) (fun W hW => ?_) ?_
            rotate_left
            · unfold P7 at hW
              go_simp
              try with_reducible rfl
            simp only [Act.put, List.setIfInBounds_toArray, List.set_cons_zero, List.set_cons_succ]
            refine wpOrd_read _ ?_ rfl (by rfl) (fun W hW => ?_) ?_
            rotate_left
            · unfold P7 at hW
              go_simp
              try with_reducible rfl
            simp only [Act.put, List.setIfInBounds_toArray, List.set_cons_zero, List.set_cons_succ]
            refine wpOrd_read _ ?_ rfl (by rfl) (fun W hW => ?_) ?_
            rotate_left
            · unfold P7 at hW
              go_simp
              try with_reducible rfl
            simp only [Act.put, List.setIfInBounds_toArray, List.set_cons_zero, List.set_cons_succ]
            iterate 2
              refine wpOrd_one ?_
              refine stepAt_of _ rfl rfl (fun K hK => ?_)
              go_simp
              refine hK _ _ ⟨HSF.out _ HZZ.out, ?_⟩
              clear hK K
            refine wpOrd_done ?_
            refine NoPanic.normal ?_
            have HBZ := Lib.hid (HBW.out.trans (HZZ.out.mono HBW.out.size))
            have HKZ := Lib.hid (HKW.out.below HZZ.out HKW.out.lt)
            have HOZ := Lib.hid (row_stays HOW.out fun i hi => HZZ.out.block i (HOW.out.lt i hi).2)
            have hzs := HKZ.out.lt
            cases z
            case true =>
              go_wp2_with fail
              exact ⟨⟨k + 1, by go_num, by omega, HBZ.out, HKZ.out, Lib.hid ⟨A', c', by rw [HU1.out (by simp)], by rw [HU1.out (by simp)]; exact HOZ.out⟩⟩, by simp [intOf]; omega⟩
            case false =>
              go_wp2_with (at_builtin; go_must (refine wpList_append_own_at _ rfl (.tmp 47) (.tmp 49) 41 rfl (w.heap.size + 1) 3 i0 _ 1 8 Tryz.underlying41 hi hz0 hz1 hz2 rfl (by decide) (.slice A' (usl k).length c') (usl k).length (usl k) rfl (HOZ.out.alloc _) ⟨wz.heap.size, 0, none⟩ 1 1 [.int .i64 k] rfl rfl (World.news_of_block (heap_alloc_new wz _)) (by simp [Value.oneCell']) (by have := HUL.out; unfold maxLen; omega) (by have := HUL.out; omega) (by first | omega | (simp; omega)) ?_))
              intro v' w9 hown hgrow _ _
              obtain ⟨A5, c5, rfl, -⟩ := row_slice hown
              have hb9 : Below w.heap.size w w9 := (HBZ.out.alloc HBZ.out.size _).grown hgrow (by simp; omega) (fun i hi => by have := (HOZ.out.lt i hi).1; omega)
              have hk9 : Blk w9 w.heap.size _ _ := (hgrow.block _ (by simp; omega) (fun e => by have := (HOZ.out.lt _ e.symm).1; omega)).trans (HKZ.out.alloc _)
              have HB9 := Lib.hid hb9
              have HK9 := Lib.hid hk9
              have HO9 := Lib.hid hown
              clear hown hgrow hb9 hk9
              go_wp2_with fail
              exact ⟨⟨k + 1, by go_num, by omega, HB9.out, HK9.out, Lib.hid ⟨A5, c5, by rw [HU2.out (by simp)]; simp, by rw [HU2.out (by simp)]; have := HO9.out; simpa using this⟩⟩, by simp [intOf]; omega⟩
      · refine stepAt_of _ rfl rfl (fun K hK => ?_)
        go_simp
        have KP := Lib.hid (show Blk ((w0.alloc (.cells #[.string q.dof, .string q.name, .int .i64 q.num, .slice q.at_ q.args.length q.cap] 28)).drew) w0.heap.size #[.string q.dof, .string q.name, .int .i64 q.num, .slice q.at_ q.args.length q.cap] 28 from Blk.new w0 _ _)
        have HS1 := Lib.hid (show Below w0.heap.size w0 ((w0.alloc (.cells #[.string q.dof, .string q.name, .int .i64 q.num, .slice q.at_ q.args.length q.cap] 28)).drew) from ((Below.refl _ _).alloc (Nat.le_refl _) _).drew)
        have HZ1 := Lib.hid (HZ0.out.trans (HS1.out.mono HZ0.out.size))
        refine hK _ _ ⟨HSF.out _ HZ1.out, ?_⟩
        clear hK K
        generalize ((w0.alloc (.cells #[.string q.dof, .string q.name, .int .i64 q.num, .slice q.at_ q.args.length q.cap] 28)).drew) = wx1 at KP HS1 HZ1 ⊢
        refine wpOrd_two ?_ ?_
        · refine stepAt_of _ rfl rfl (fun K hK => ?_)
          go_simp
          have KT := Lib.hid (show Blk (wx1.alloc (.cells #[.string t.dof, .string t.name, .slice t.at_ t.args.length t.cap] 25)) wx1.heap.size #[.string t.dof, .string t.name, .slice t.at_ t.args.length t.cap] 25 from Blk.new wx1 _ _)
          have HS2 := Lib.hid (show Below wx1.heap.size wx1 (wx1.alloc (.cells #[.string t.dof, .string t.name, .slice t.at_ t.args.length t.cap] 25)) from (Below.refl _ _).alloc (Nat.le_refl _) _)
          have KP := Lib.hid (KP.out.below HS2.out KP.out.lt)
          have HZ2 := Lib.hid (HZ1.out.trans (HS2.out.mono HZ1.out.size))
          refine hK _ _ ⟨HSF.out _ HZ2.out, ?_⟩
          clear hK K
          generalize (wx1.alloc (.cells #[.string t.dof, .string t.name, .slice t.at_ t.args.length t.cap] 25)) = wx2 at KT HS2 HZ2 KP ⊢
          refine wpOrd_one ?_
          · refine stepAt_of _ rfl rfl (fun K hK => ?_)
            go_simp
            have HD := Lib.hid (HBW.out.trans (HZ2.out.mono HBW.out.size))
            refine Calls.mono (HROWS.out _ HD.out) ?_
            rintro e wx3 ⟨hb9, v9, rfl, hro⟩
            obtain ⟨rs9, A9, c9, hr1, rfl, hr2, hr3⟩ := hro
            have RO : Hid (RowsO w.heap.size wx3 (.slice A9 k c9) (ps.take k) k) := Lib.hid ⟨rs9, A9, c9, hr1, rfl, own_wide hr2 HD.out.size, hr3⟩
            have HS3 := Lib.hid (show Below wx2.heap.size wx2 wx3 from hb9)
            have KP := Lib.hid (KP.out.below HS3.out KP.out.lt)
            have KT := Lib.hid (KT.out.below HS3.out KT.out.lt)
            have HZ3 := Lib.hid (HZ2.out.trans (HS3.out.mono HZ2.out.size))
            refine hK _ _ ⟨HSF.out _ HZ3.out, ?_⟩
            clear hK K hb9 hr1 hr2 hr3
            refine wpOrd_one ?_
            refine stepAt_of _ rfl rfl (fun K hK => ?_)
            go_simp
            refine Calls.mono (HSEEK.out _ _ _ _ _ (HBW.out.trans (HZ3.out.mono HBW.out.size)) KT.out KP.out RO.out) ?_
            rintro e wz ⟨hbz, vz, rfl⟩
            have HZZ := Lib.hid (HZ3.out.trans (hbz.mono HZ3.out.size))
            refine hK _ _ ⟨HSF.out _ HZZ.out, ?_⟩
            clear hK K hbz
            refine wpOrd_read _ ?_ rfl (by rfl) (fun W hW => ?_) ?_
            rotate_left
            · unfold P7 at hW
              go_simp
              try with_reducible rfl
            simp only [Act.put, List.setIfInBounds_toArray, List.set_cons_zero, List.set_cons_succ]
            refine wpOrd_read _ ?_ rfl (by rfl) (fun W hW => ?_) ?_
            rotate_left
            · unfold P7 at hW
              go_simp
              try with_reducible rfl
            simp only [Act.put, List.setIfInBounds_toArray, List.set_cons_zero, List.set_cons_succ]
            refine wpOrd_read _ ?_ rfl (by rfl) (fun W hW => ?_) ?_
            rotate_left
            · unfold P7 at hW
              go_simp
              try with_reducible rfl
            simp only [Act.put, List.setIfInBounds_toArray, List.set_cons_zero, List.set_cons_succ]
            iterate 2
              refine wpOrd_one ?_
              refine stepAt_of _ rfl rfl (fun K hK => ?_)
              go_simp
              refine hK _ _ ⟨HSF.out _ HZZ.out, ?_⟩
              clear hK K
            refine wpOrd_done ?_
            refine NoPanic.normal ?_
            have HBZ := Lib.hid (HBW.out.trans (HZZ.out.mono HBW.out.size))
            have HKZ := Lib.hid (HKW.out.below HZZ.out HKW.out.lt)
            have HOZ := Lib.hid (row_stays HOW.out fun i hi => HZZ.out.block i (HOW.out.lt i hi).2)
            have hzs := HKZ.out.lt
            cases z
            case true =>
              go_wp2_with fail
              exact ⟨⟨k + 1, by go_num, by omega, HBZ.out, HKZ.out, Lib.hid ⟨A', c', by rw [HU1.out (by simp)], by rw [HU1.out (by simp)]; exact HOZ.out⟩⟩, by simp [intOf]; omega⟩
            case false =>
              go_wp2_with (at_builtin; go_must (refine wpList_append_own_at _ rfl (.tmp 47) (.tmp 49) 41 rfl (w.heap.size + 1) 3 i0 _ 1 8 Tryz.underlying41 hi hz0 hz1 hz2 rfl (by decide) (.slice A' (usl k).length c') (usl k).length (usl k) rfl (HOZ.out.alloc _) ⟨wz.heap.size, 0, none⟩ 1 1 [.int .i64 k] rfl rfl (World.news_of_block (heap_alloc_new wz _)) (by simp [Value.oneCell']) (by have := HUL.out; unfold maxLen; omega) (by have := HUL.out; omega) (by first | omega | (simp; omega)) ?_))
              intro v' w9 hown hgrow _ _
              obtain ⟨A5, c5, rfl, -⟩ := row_slice hown
              have hb9 : Below w.heap.size w w9 := (HBZ.out.alloc HBZ.out.size _).grown hgrow (by simp; omega) (fun i hi => by have := (HOZ.out.lt i hi).1; omega)
              have hk9 : Blk w9 w.heap.size _ _ := (hgrow.block _ (by simp; omega) (fun e => by have := (HOZ.out.lt _ e.symm).1; omega)).trans (HKZ.out.alloc _)
              have HB9 := Lib.hid hb9
              have HK9 := Lib.hid hk9
              have HO9 := Lib.hid hown
              clear hown hgrow hb9 hk9
              go_wp2_with fail
              exact ⟨⟨k + 1, by go_num, by omega, HB9.out, HK9.out, Lib.hid ⟨A5, c5, by rw [HU2.out (by simp)]; simp, by rw [HU2.out (by simp)]; have := HO9.out; simpa using this⟩⟩, by simp [intOf]; omega⟩
        · refine stepAt_of _ rfl rfl (fun K hK => ?_)
          go_simp
          have HD := Lib.hid (HBW.out.trans (HZ1.out.mono HBW.out.size))
          refine Calls.mono (HROWS.out _ HD.out) ?_
          rintro e wx2 ⟨hb9, v9, rfl, hro⟩
          obtain ⟨rs9, A9, c9, hr1, rfl, hr2, hr3⟩ := hro
          have RO : Hid (RowsO w.heap.size wx2 (.slice A9 k c9) (ps.take k) k) := Lib.hid ⟨rs9, A9, c9, hr1, rfl, own_wide hr2 HD.out.size, hr3⟩
          have HS2 := Lib.hid (show Below wx1.heap.size wx1 wx2 from hb9)
          have KP := Lib.hid (KP.out.below HS2.out KP.out.lt)
          have HZ2 := Lib.hid (HZ1.out.trans (HS2.out.mono HZ1.out.size))
          refine hK _ _ ⟨HSF.out _ HZ2.out, ?_⟩
          clear hK K hb9 hr1 hr2 hr3
          refine wpOrd_one ?_
          · refine stepAt_of _ rfl rfl (fun K hK => ?_)
            go_simp
            have KT := Lib.hid (show Blk (wx2.alloc (.cells #[.string t.dof, .string t.name, .slice t.at_ t.args.length t.cap] 25)) wx2.heap.size #[.string t.dof, .string t.name, .slice t.at_ t.args.length t.cap] 25 from Blk.new wx2 _ _)
            have HS3 := Lib.hid (show Below wx2.heap.size wx2 (wx2.alloc (.cells #[.string t.dof, .string t.name, .slice t.at_ t.args.length t.cap] 25)) from (Below.refl _ _).alloc (Nat.le_refl _) _)
            have KP := Lib.hid (KP.out.below HS3.out KP.out.lt)
            have RO := Lib.hid (RO.out.keep HS3.out)
            have HZ3 := Lib.hid (HZ2.out.trans (HS3.out.mono HZ2.out.size))
            refine hK _ _ ⟨HSF.out _ HZ3.out, ?_⟩
            clear hK K
            generalize (wx2.alloc (.cells #[.string t.dof, .string t.name, .slice t.at_ t.args.length t.cap] 25)) = wx3 at KT HS3 HZ3 KP RO ⊢
            refine wpOrd_one ?_
            refine stepAt_of _ rfl rfl (fun K hK => ?_)
            go_simp
            refine Calls.mono (HSEEK.out _ _ _ _ _ (HBW.out.trans (HZ3.out.mono HBW.out.size)) KT.out KP.out RO.out) ?_
            rintro e wz ⟨hbz, vz, rfl⟩
            have HZZ := Lib.hid (HZ3.out.trans (hbz.mono HZ3.out.size))
            refine hK _ _ ⟨HSF.out _ HZZ.out, ?_⟩
            clear hK K hbz
            refine wpOrd_read _ ?_ rfl (by rfl) (fun W hW => ?_) ?_
            rotate_left
            · unfold P7 at hW
              go_simp
              try with_reducible rfl
            simp only [Act.put, List.setIfInBounds_toArray, List.set_cons_zero, List.set_cons_succ]
            refine wpOrd_read _ ?_ rfl (by rfl) (fun W hW => ?_) ?_
            rotate_left
            · unfold P7 at hW
              go_simp
              try with_reducible rfl
            simp only [Act.put, List.setIfInBounds_toArray, List.set_cons_zero, List.set_cons_succ]
            refine wpOrd_read _ ?_ rfl (by rfl) (fun W hW => ?_) ?_
            rotate_left
            · unfold P7 at hW
              go_simp
              try with_reducible rfl
            simp only [Act.put, List.setIfInBounds_toArray, List.set_cons_zero, List.set_cons_succ]
            iterate 2
              refine wpOrd_one ?_
              refine stepAt_of _ rfl rfl (fun K hK => ?_)
              go_simp
              refine hK _ _ ⟨HSF.out _ HZZ.out, ?_⟩
              clear hK K
            refine wpOrd_done ?_
            refine NoPanic.normal ?_
            have HBZ := Lib.hid (HBW.out.trans (HZZ.out.mono HBW.out.size))
            have HKZ := Lib.hid (HKW.out.below HZZ.out HKW.out.lt)
            have HOZ := Lib.hid (row_stays HOW.out fun i hi => HZZ.out.block i (HOW.out.lt i hi).2)
            have hzs := HKZ.out.lt
            cases z
            case true =>
              go_wp2_with fail
              exact ⟨⟨k + 1, by go_num, by omega, HBZ.out, HKZ.out, Lib.hid ⟨A', c', by rw [HU1.out (by simp)], by rw [HU1.out (by simp)]; exact HOZ.out⟩⟩, by simp [intOf]; omega⟩
            case false =>
              go_wp2_with (at_builtin; go_must (refine wpList_append_own_at _ rfl (.tmp 47) (.tmp 49) 41 rfl (w.heap.size + 1) 3 i0 _ 1 8 Tryz.underlying41 hi hz0 hz1 hz2 rfl (by decide) (.slice A' (usl k).length c') (usl k).length (usl k) rfl (HOZ.out.alloc _) ⟨wz.heap.size, 0, none⟩ 1 1 [.int .i64 k] rfl rfl (World.news_of_block (heap_alloc_new wz _)) (by simp [Value.oneCell']) (by have := HUL.out; unfold maxLen; omega) (by have := HUL.out; omega) (by first | omega | (simp; omega)) ?_))
              intro v' w9 hown hgrow _ _
              obtain ⟨A5, c5, rfl, -⟩ := row_slice hown
              have hb9 : Below w.heap.size w w9 := (HBZ.out.alloc HBZ.out.size _).grown hgrow (by simp; omega) (fun i hi => by have := (HOZ.out.lt i hi).1; omega)
              have hk9 : Blk w9 w.heap.size _ _ := (hgrow.block _ (by simp; omega) (fun e => by have := (HOZ.out.lt _ e.symm).1; omega)).trans (HKZ.out.alloc _)
              have HB9 := Lib.hid hb9
              have HK9 := Lib.hid hk9
              have HO9 := Lib.hid hown
              clear hown hgrow hb9 hk9
              go_wp2_with fail
              exact ⟨⟨k + 1, by go_num, by omega, HB9.out, HK9.out, Lib.hid ⟨A5, c5, by rw [HU2.out (by simp)]; simp, by rw [HU2.out (by simp)]; have := HO9.out; simpa using this⟩⟩, by simp [intOf]; omega⟩
    · have hk2 : k = ps.length := by omega
      subst hk2
      go_wp2_with fail
      exact bodyPost_ret (by simp [results, Tryz.results18, go_sem]) rfl ⟨HB.out, _, rfl, A', c', rfl, own_wide HOWN.out (by omega)⟩
end Go.Proofs.YtjeggkfgdhepaaaGreatDoor

/- Awake: of two patterns behind any the second one is useless. -/
set_option linter.unusedVariables false
set_option linter.unusedSimpArgs false
namespace Go.Proofs.YtjeggkfgdhepaaaGreatDoor
open Go.RowKit
open Go.Proofs

def intTy : Ty := .mk ⟨#[105, 110, 116]⟩ ⟨#[]⟩ none 0 []
def varX : Pt := .mk ⟨#[118, 97, 114]⟩ ⟨#[120]⟩ 0 none 0 []
theorem int_there : intTy.there [] = true := by
  unfold Ty.there Ty.valid intTy
  rw [Ty.well_mk, Ty.known_mk, Ty.size_mk]
  decide +kernel
theorem any_patB : anyPt.patB = true := by
  unfold Pt.patB Pt.okS anyPt
  rw [Pt.wellB_mk, Pt.binds_mk, Pt.size_mk]
  decide +kernel
theorem x_name : kindB .name ⟨#[120]⟩ = true := by decide +kernel
theorem varX_patB : varX.patB = true := by
  unfold Pt.patB Pt.okS varX
  rw [Pt.wellB_mk, Pt.binds_mk, Pt.size_mk]
  decide +kernel
theorem any_fit (look : Look) (t : Ty) : anyPt.fit look t = true := by unfold anyPt; rw [Pt.fit_mk, if_pos (by decide +kernel)]
theorem varX_fit (look : Look) (t : Ty) : varX.fit look t = true := by unfold varX; rw [Pt.fit_mk, if_pos (by decide +kernel)]
theorem world_nil : worldB [] = true := by decide +kernel
theorem dTo_nil : dTo [] ([] : List Dt).length = [] := rfl
theorem awake_err : askedErr [] intTy [anyPt, varX] = 0 := by
  have hf : [anyPt, varX].all (fitB [] intTy) = true := by
    simp only [List.all_cons, List.all_nil, fitB, askB, world_nil, dTo_nil, int_there, any_patB, varX_patB, any_fit, varX_fit]
    rfl
  have hn : nodesTo [anyPt, varX] [anyPt, varX].length = 2 := by
    unfold nodesTo
    have h1 : anyPt.size.nodes = 1 := by unfold anyPt; rw [Pt.size_mk]; rfl
    have h2 : varX.size.nodes = 1 := by unfold varX; rw [Pt.size_mk]; rfl
    simp only [List.length_cons, List.length_nil, List.take_succ_cons, List.take_zero, List.foldl_cons, List.foldl_nil, h1, h2]
    decide +kernel
  unfold askedErr
  rw [hf, world_nil, dTo_nil, int_there, hn]
  decide +kernel
theorem wild_any (w : World) : Calls Tryz.prog 33 #[] w fun e w' => e = .returned (.agg #[.string ⟨#[97, 110, 121]⟩, .string ⟨#[]⟩, .int .i64 0, .slice none 0 0]) ∧ Below w.heap.size w w' := by
  go_enter Tryz.func33, Tryz.ntmps33
  go_wp2_with fail
  exact bodyPost_ret (v := .agg #[.string ⟨#[97, 110, 121]⟩, .string ⟨#[]⟩, .int .i64 0, .slice none 0 0]) (by simp [results, Tryz.results33, go_sem]) rfl ⟨rfl, (Below.refl w.heap.size w).alloc (Nat.le_refl _) _⟩
theorem row_pts2 {B k : Nat} {W : World} {T : TypeId} (hb : Blk W k #[.string ⟨#[97, 110, 121]⟩, .string ⟨#[]⟩, .int .i64 0, .slice none 0 0, .string ⟨#[118, 97, 114]⟩, .string ⟨#[120]⟩, .int .i64 0, .slice none 0 0] T) (hk : k < B) : RowAt B W 4 (some ⟨k, 0, none⟩) ([anyPt, varX].map Pt.cells) := by
  refine fun _ => ⟨k, 0, rfl, hk, fun i x hi j v hj => ?_⟩
  rw [hb.cell]
  rcases i with _ | _ | i
  · simp only [List.map_cons, List.getElem?_cons_zero, Option.some.injEq] at hi
    subst hi
    rcases j with _ | _ | _ | _ | j
    · exact hj
    · exact hj
    · exact hj
    · exact hj
    · simp [Pt.cells] at hj
  · simp only [List.map_cons, List.getElem?_cons_zero, List.getElem?_cons_succ, Option.some.injEq] at hi
    subst hi
    rcases j with _ | _ | _ | _ | j
    · exact hj
    · exact hj
    · exact hj
    · exact hj
    · simp [Pt.cells] at hj
  · simp at hi
theorem any_in (B : Nat) (w : World) : anyPt.In B w := by unfold anyPt; rw [Pt.In_mk]; exact ⟨by decide, by decide, by decide, by decide, ⟨by decide, fun _ => rfl⟩, fun h => absurd h (by simp), fun p hp => absurd hp (by simp)⟩
theorem varX_in (B : Nat) (w : World) : varX.In B w := by unfold varX; rw [Pt.In_mk]; exact ⟨by decide, by decide, by decide, by decide, ⟨by decide, fun _ => rfl⟩, fun h => absurd h (by simp), fun p hp => absurd hp (by simp)⟩
theorem intTy_in (B : Nat) (w : World) : intTy.In B w := by unfold intTy; rw [Ty.In_mk]; exact ⟨by decide, by decide, by decide, ⟨by decide, fun _ => rfl⟩, fun h => absurd h (by simp), fun p hp => absurd hp (by simp)⟩
set_option maxHeartbeats 2000000 in
theorem awake_any (w : World) (h : Env w) : Calls Tryz.prog 10 #[] w fun e w' => e = .returned (.bool true) ∧ Below w.heap.size w w' := by
  have HU := Lib.hid (fun (W : World) (k : Nat) (hW : Below w.heap.size w W) (hb : Blk W k #[.string ⟨#[97, 110, 121]⟩, .string ⟨#[]⟩, .int .i64 0, .slice none 0 0, .string ⟨#[118, 97, 114]⟩, .string ⟨#[120]⟩, .int .i64 0, .slice none 0 0] 28) =>
    useless_wild intTy (some ⟨k, 0, none⟩) [anyPt, varX] 2 W (h.next hW) (intTy_in _ _) ⟨row_pts2 hb hb.lt, fun p hp => by simp only [List.mem_cons, List.not_mem_nil, or_false] at hp; rcases hp with rfl | rfl; exact any_in _ _; exact varX_in _ _,
      fun p hp => by simp only [List.mem_cons, List.not_mem_nil, or_false] at hp; rcases hp with rfl | rfl; (unfold anyPt; rw [Pt.binds_mk]; decide +kernel); (unfold varX; rw [Pt.binds_mk]; decide +kernel), by simp⟩ (by decide +kernel) (fun p hp => by simp only [List.mem_cons, List.not_mem_nil, or_false] at hp; rcases hp with rfl | rfl <;> decide +kernel) (by simp) awake_err (by simp))
  clear h
  unfold intTy Ty.val at HU
  simp only [Ty.dof, Ty.name, Ty.at_, Ty.cap, Ty.args, List.length_cons, List.length_nil] at HU
  go_enter Tryz.func10, Tryz.ntmps10
  go_wp2_with fail
  refine Calls.mono (wild_any _) ?_
  rintro e w1 ⟨rfl, hb1⟩
  have HB1 := Lib.hid hb1
  have HB2 := Lib.hid (hb1.alloc hb1.size (.cells #[.string ⟨#[97, 110, 121]⟩, .string ⟨#[]⟩, .int .i64 0, .slice none 0 0, .string ⟨#[118, 97, 114]⟩, .string ⟨#[120]⟩, .int .i64 0, .slice none 0 0] 28))
  have HK := Lib.hid (Blk.new w1 #[.string ⟨#[97, 110, 121]⟩, .string ⟨#[]⟩, .int .i64 0, .slice none 0 0, .string ⟨#[118, 97, 114]⟩, .string ⟨#[120]⟩, .int .i64 0, .slice none 0 0] 28)
  clear hb1
  go_wp2_with fail
  refine Calls.mono (HU.out _ _ HB2.out HK.out) ?_
  rintro e w3 ⟨hb3, v3, rfl, A3, c3, rfl, hown⟩
  obtain ⟨g, rfl, hc, -⟩ := row_cell hown 0 (.int .i64 1) rfl
  have HB3 := Lib.hid (HB2.out.trans (hb3.mono HB2.out.size))
  have gl := (hown.lt g rfl).2
  clear hb3 hown
  go_wp2_with fail
  go_ret
  exact ⟨rfl, HB3.out⟩
end Go.Proofs.YtjeggkfgdhepaaaGreatDoor

/- The law MatchMatches, walked. -/
set_option linter.unusedVariables false
set_option linter.unusedSimpArgs false
namespace Go.Proofs.YtjeggkfgdhepaaaGreatDoor
open Go.RowKit
open Go.Proofs

set_option maxRecDepth 100000 in
set_option maxHeartbeats 2000000 in
theorem matches_law (p v : Pt) (A : Option Addr) (l : List Pt) (c : Nat) (w : World) (h : Env w) (hp : p.In w.heap.size w) (hv : v.In w.heap.size w) (hl : PtsIn w.heap.size w A l) (hpb : p.binds.length ≤ 1048576) (hvb : v.binds.length ≤ 1048576) :
    Calls Tryz.prog 6 #[p.val, v.val, .slice A l.length c] w fun e w' => e = .returned (.bool true) ∧ Below w.heap.size w w' := by
  have HC1 := Lib.hid (fun (W : World) (hW : Below w.heap.size w W) => pMatches_any p v W (h.next hW) (hp.at_ hW hW.size) (hv.at_ hW hW.size) hpb hvb)
  have HC2 := Lib.hid (fun (W : World) (hW : Below w.heap.size w W) => rMatches_any p v W (h.next hW) (hp.at_ hW hW.size) (hv.at_ hW hW.size) hpb hvb)
  have HC3 := Lib.hid (fun (W : World) (hW : Below w.heap.size w W) => pFirst_any l A c v W (h.next hW) (hl.at_ hW hW.size) (hv.at_ hW hW.size) hvb)
  have HC4 := Lib.hid (fun (W : World) (hW : Below w.heap.size w W) => rFirst_any l A c v W (h.next hW) (hl.at_ hW hW.size) (hv.at_ hW hW.size) hvb)
  have HC5 := Lib.hid (fun (W : World) (hW : Below w.heap.size w W) => awake_any W (h.next hW))
  unfold FirstPost at HC3 HC4
  generalize (p.patB && v.valueB && p.matchB v) = x1 at HC1 HC2
  generalize matchesErr p.patB v.valueB = x2 at HC1 HC2
  generalize (if v.valueB && l.all Pt.patB then firstOf l v else 0) = x3 at HC3 HC4
  generalize (if v.valueB && l.all Pt.patB then (0 : Int) else 40) = x4 at HC3 HC4
  clear h hp hv hl hpb hvb
  have HB0 := Lib.hid (((Below.refl w.heap.size w).alloc (Nat.le_refl _) (.cells #[.string p.dof, .string p.name, .int .i64 p.num, .slice p.at_ p.args.length p.cap] 28)).alloc (by simp) (.cells #[.string v.dof, .string v.name, .int .i64 v.num, .slice v.at_ v.args.length v.cap] 28))
  have K1 := Lib.hid ((Blk.new w #[.string p.dof, .string p.name, .int .i64 p.num, .slice p.at_ p.args.length p.cap] 28).alloc (.cells #[.string v.dof, .string v.name, .int .i64 v.num, .slice v.at_ v.args.length v.cap] 28))
  have K2 := Lib.hid (Blk.new' (w.alloc (.cells #[.string p.dof, .string p.name, .int .i64 p.num, .slice p.at_ p.args.length p.cap] 28)) #[.string v.dof, .string v.name, .int .i64 v.num, .slice v.at_ v.args.length v.cap] 28 (w.heap.size + 1) (by simp))
  unfold Pt.val at *
  go_enter Tryz.func6, Tryz.ntmps6
  go_wp2_with fail
  refine Calls.mono (HC1.out _ HB0.out) ?_
  rintro e w1 ⟨rfl, hb1⟩
  have HB1 := Lib.hid (HB0.out.trans (hb1.mono HB0.out.size))
  have K11 := Lib.hid (K1.out.below hb1 K1.out.lt)
  have K21 := Lib.hid (K2.out.below hb1 K2.out.lt)
  clear hb1
  obtain ⟨y0, y1, y2, y3⟩ := K11.out.four
  obtain ⟨z0, z1, z2, z3⟩ := K21.out.four
  have yl := K11.out.lt
  have zl := K21.out.lt
  go_wp2_with fail
  refine Calls.mono (HC2.out _ HB1.out) ?_
  rintro e w2 ⟨rfl, hb2⟩
  have HB2 := Lib.hid (HB1.out.trans (hb2.mono HB1.out.size))
  have K22 := Lib.hid (K21.out.below hb2 K21.out.lt)
  clear hb2 y0 y1 y2 y3 z0 z1 z2 z3 yl zl
  obtain ⟨z0, z1, z2, z3⟩ := K22.out.four
  have zl := K22.out.lt
  go_wp2_with fail
  refine Calls.mono (HC3.out _ HB2.out) ?_
  rintro e w3 ⟨hb3, rfl⟩
  have HB3 := Lib.hid (HB2.out.trans (hb3.mono HB2.out.size))
  have K23 := Lib.hid (K22.out.below hb3 K22.out.lt)
  clear hb3 z0 z1 z2 z3 zl
  obtain ⟨z0, z1, z2, z3⟩ := K23.out.four
  have zl := K23.out.lt
  go_wp2_with fail
  refine Calls.mono (HC4.out _ HB3.out) ?_
  rintro e w4 ⟨hb4, rfl⟩
  have HB4 := Lib.hid (HB3.out.trans (hb4.mono HB3.out.size))
  clear hb4 z0 z1 z2 z3 zl
  go_wp2_with fail
  refine Calls.mono (HC5.out _ HB4.out) ?_
  rintro e w5 ⟨rfl, hb5⟩
  have HB5 := Lib.hid (HB4.out.trans (hb5.mono HB4.out.size))
  clear hb5
  go_wp2_with fail
  go_ret
  exact ⟨rfl, HB5.out⟩
end Go.Proofs.YtjeggkfgdhepaaaGreatDoor

/- The trees of a row's datum, opened: types, patterns, constructors, datatypes, and lists of them. -/
set_option linter.unusedVariables false
set_option linter.unusedSimpArgs false
namespace Go.Proofs.YtjeggkfgdhepaaaGreatDoor
open Go.RowKit Go.ChangeShapes Go.WideShapes Go.Deep
open Go.Proofs

abbrev blk {H : Type} (d : DataW H) : Nat := Rows.uptoBulk d
abbrev blkAll {H : Type} (l : List (DataW H)) : Nat := Rows.uptoBulkAll l
theorem blk_pos {H : Type} (d : DataW H) : 1 ≤ blk d := by
  cases d with
  | lit l => cases l <;> simp [blk, Rows.uptoBulk]
  | nil => simp [blk, Rows.uptoBulk]
  | ptr d => simp [blk, Rows.uptoBulk]
  | slice elems spare => simp [blk, Rows.uptoBulk]
  | agg parts => simp [blk, Rows.uptoBulk]
  | iface t d => simp [blk, Rows.uptoBulk]
  | map entries => simp [blk, Rows.uptoBulk]
  | held h => simp [blk, Rows.uptoBulk]
theorem blk_part {H : Type} {d : DataW H} {l : List (DataW H)} (h : d ∈ l) : blk d ≤ blkAll l := by
  unfold blk blkAll
  induction l with
  | nil => cases h
  | cons x r ih =>
    simp only [Rows.uptoBulkAll]
    cases List.mem_cons.1 h with
    | inl e => subst e; omega
    | inr e => have := ih e; omega
theorem blk_len {H : Type} (l : List (DataW H)) : l.length ≤ blkAll l := by
  unfold blkAll
  induction l with
  | nil => simp [Rows.uptoBulkAll]
  | cons x r ih => have := blk_pos x; unfold blk at this; simp only [Rows.uptoBulkAll, List.length_cons]; omega
theorem blk_slice {H : Type} (es sp : List (DataW H)) : blk (.slice es sp) = blkAll es + blkAll sp + 1 := by simp [blk, blkAll, Rows.uptoBulk]
theorem blk_agg {H : Type} (es : List (DataW H)) : blk (.agg es) = blkAll es + 1 := by simp [blk, blkAll, Rows.uptoBulk]
theorem blk_string {H : Type} (s : ByteArray) : blk (DataW.lit (H := H) (.string s.data.toList)) = s.size + 1 := by
  have e : s.data.toList.length = s.size := by rw [Array.length_toList]; rfl
  simp only [blk, Rows.uptoBulk, e]
theorem blk_sum {H : Type} {α : Type} (f : α → Nat) : ∀ (l : List α) (ds : List (DataW H)), ds.length = l.length → (∀ (i : Nat) (a : α), l[i]? = some a → ∃ d, ds[i]? = some d ∧ f a ≤ blk d) → (l.map f).sum ≤ blkAll ds
  | [], ds, _, _ => by simp
  | a :: l, [], h, _ => by simp at h
  | a :: l, d :: ds, h, hi => by
    have h0 := hi 0 a rfl
    obtain ⟨d', hd, hf⟩ := h0
    simp only [List.getElem?_cons_zero, Option.some.injEq] at hd
    subst hd
    have := blk_sum f l ds (by simpa using h) (fun i b hb => hi (i + 1) b hb)
    unfold blk at hf
    simp only [List.map_cons, List.sum_cons, blkAll, Rows.uptoBulkAll] at *
    omega

/-- How many nodes a tree has. -/
def Ty.count : Ty → Nat
  | .mk _ _ _ _ l => 1 + (l.map fun t => t.count).sum
def Pt.count : Pt → Nat
  | .mk _ _ _ _ _ l => 1 + (l.map fun t => t.count).sum
theorem Ty.count_mk (d n : ByteArray) (a : Option Addr) (c : Nat) (l : List Ty) : (Ty.mk d n a c l).count = 1 + (l.map Ty.count).sum := by rw [Ty.count]
theorem Pt.count_mk (d s : ByteArray) (n : Int) (a : Option Addr) (c : Nat) (l : List Pt) : (Pt.mk d s n a c l).count = 1 + (l.map Pt.count).sum := by rw [Pt.count]
theorem Pt.binds_count (p : Pt) : p.binds.length ≤ p.count := by
  refine Pt.induct (p := fun p => p.binds.length ≤ p.count) (fun d s n a c l ih => ?_) p
  rw [Pt.binds_mk, Pt.count_mk, List.length_append]
  have h1 : (if isDo [118, 97, 114] d then [s] else []).length ≤ 1 := by split <;> simp
  have h2 : (l.flatMap Pt.binds).length ≤ (l.map Pt.count).sum := by
    clear h1
    induction l with
    | nil => simp
    | cons q l ih2 =>
      have := ih q (by simp)
      have := ih2 (fun t ht => ih t (by simp [ht]))
      simp only [List.flatMap_cons, List.length_append, List.map_cons, List.sum_cons]
      omega
  omega

/-- No capacity is beyond an int. -/
def Pt.capB : Pt → Prop
  | .mk _ _ _ _ c l => c ≤ 9223372036854775807 ∧ ∀ p ∈ l.map (fun t => t.capB), p
def Ty.capB : Ty → Prop
  | .mk _ _ _ c l => c ≤ 9223372036854775807 ∧ ∀ p ∈ l.map (fun t => t.capB), p
theorem Pt.capB_mk {d n : ByteArray} {m : Int} {A : Option Addr} {c : Nat} {l : List Pt} : (Pt.mk d n m A c l).capB ↔ c ≤ 9223372036854775807 ∧ ∀ t ∈ l, t.capB := by
  rw [Pt.capB]
  simp only [List.mem_map, forall_exists_index, and_imp, forall_apply_eq_imp_iff₂]
theorem Ty.capB_mk {d n : ByteArray} {A : Option Addr} {c : Nat} {l : List Ty} : (Ty.mk d n A c l).capB ↔ c ≤ 9223372036854775807 ∧ ∀ t ∈ l, t.capB := by
  rw [Ty.capB]
  simp only [List.mem_map, forall_exists_index, and_imp, forall_apply_eq_imp_iff₂]
theorem Pt.capB.top {p : Pt} (h : p.capB) : p.cap ≤ 9223372036854775807 ∧ ∀ q ∈ p.args, q.capB := by
  obtain ⟨d, n, m, A, c, l⟩ := p
  exact Pt.capB_mk.1 h
theorem Ty.capB.top {p : Ty} (h : p.capB) : p.cap ≤ 9223372036854775807 ∧ ∀ q ∈ p.args, q.capB := by
  obtain ⟨d, n, A, c, l⟩ := p
  exact Ty.capB_mk.1 h
theorem list_of {α : Type} (n : Nat) (Q : Nat → α → Prop) (h : ∀ i, i < n → ∃ x, Q i x) : ∃ l : List α, l.length = n ∧ ∀ i x, l[i]? = some x → Q i x := by
  induction n with
  | zero => exact ⟨[], rfl, fun i x hx => by simp at hx⟩
  | succ n ih =>
    obtain ⟨l, hl, hq⟩ := ih (fun i hi => h i (by omega))
    obtain ⟨x, hx⟩ := h n (by omega)
    refine ⟨l ++ [x], by simp [hl], fun i y hy => ?_⟩
    rcases Nat.lt_or_ge i l.length with hi | hi
    · rw [List.getElem?_append_left hi] at hy; exact hq i y hy
    · rw [List.getElem?_append_right hi] at hy
      have hi0 : i - l.length = 0 := by have := (List.getElem?_eq_some_iff.1 hy).1; simp at this; omega
      rw [hi0] at hy
      simp only [List.getElem?_cons_zero, Option.some.injEq] at hy
      subst hy
      have : i = n := by omega
      subst this
      exact hx
theorem addp (b o k : Nat) : (⟨b, o, none⟩ : Addr).add k = ⟨b, o + k, none⟩ := by unfold Addr.add; split <;> simp_all
section
variable {H : Type} {enc : TypeId × Value → H} {W : World}
/-- A slice whose elements are rows of K cells. -/
theorem open_row {α : Type} {t e : TypeId} {K fuel : Nat} {A : Option Addr} {n cap : Nat} {x : DataW H × List MemPlace} (cells : α → List Value) (Good : α → DataW H → Prop)
    (ht : Tryz.prog.underlying t = some (.slice e)) (hC : Tryz.prog.cellsOf e = K) (hpos : 0 < K)
    (hel : ∀ m cs y, m < fuel → DataW.trod enc Tryz.prog W 0 (fun _ => true) true m e cs = some y → ∃ a, cs = cells a ∧ Good a y.1)
    (h : DataW.trod enc Tryz.prog W 0 (fun _ => true) true fuel t [.slice A n cap] = some x) :
    ∃ l : List α, n = l.length ∧ l.length ≤ cap ∧ (A = none → cap = 0) ∧ RowAt W.heap.size W K A (l.map cells) ∧ cap + 1 ≤ blk x.1 ∧
      ∃ ds, blkAll ds + 1 ≤ blk x.1 ∧ ds.length = l.length ∧ ∀ (i : Nat) (a : α), l[i]? = some a → ∃ d, ds[i]? = some d ∧ Good a d := by
  rcases DataW.trod_slice ht h with ⟨hcs, rfl⟩ | ⟨a, len, cap', elems, rest, k, rfl, hcs, rfl, -, hl, -, hlen, hi, hr, -⟩
  · simp only [List.cons.injEq, Value.slice.injEq, and_true] at hcs
    obtain ⟨rfl, rfl, rfl⟩ := hcs
    exact ⟨[], rfl, Nat.le_refl _, fun _ => rfl, fun h0 => by simp at h0, blk_pos _, [], blk_pos _, rfl, fun i a ha => by simp at ha⟩
  · simp only [List.cons.injEq, Value.slice.injEq, and_true] at hcs
    obtain ⟨rfl, rfl, rfl⟩ := hcs
    obtain ⟨hrl, -⟩ := hr rfl
    have hq : ∀ i, i < n → ∃ b : α, (∃ y, elems[i]? = some y ∧ Good b y.1) ∧ ∃ b0 off, a = ⟨b0, off, none⟩ ∧ b0 < W.heap.size ∧ ∀ j v, (cells b)[j]? = some v → W.cell? ⟨b0, off + i * K + j, none⟩ = some v := by
      intro i hin
      have hii := hi i hin
      rw [List.getElem?_eq_getElem (by omega)] at hii
      obtain ⟨cs', hc, ht'⟩ := Option.bind_eq_some_iff.1 hii
      obtain ⟨b, rfl, hg⟩ := hel k cs' _ (by omega) ht'
      obtain ⟨_, hcl, hat⟩ := World.cells?_some hc
      rw [hC] at hcl hat
      have hspot : ∃ b0 off, a = ⟨b0, off, none⟩ := by
        have h00 := hi 0 (by omega)
        rw [List.getElem?_eq_getElem (by omega)] at h00
        obtain ⟨cs0, hc0, -⟩ := Option.bind_eq_some_iff.1 h00
        obtain ⟨_, hcl0, hat0⟩ := World.cells?_some hc0
        rw [hC] at hcl0 hat0
        have h0 := hat0 0 hpos
        rw [List.getElem?_eq_getElem (by omega)] at h0
        obtain ⟨b0, off, spot⟩ := a
        have hs : spot = none := by have h1 := World.cell?_spot h0; rw [Nat.zero_mul] at h1; exact h1
        exact ⟨b0, off, by rw [hs]⟩
      obtain ⟨b0, off, rfl⟩ := hspot
      have had : ∀ k, (⟨b0, off, none⟩ : Addr).add k = ⟨b0, off + k, none⟩ := addp b0 off
      have had2 : ∀ j, ((⟨b0, off, none⟩ : Addr).add (i * K)).add j = ⟨b0, off + i * K + j, none⟩ := fun j => by rw [Go.Deep.add_add, had, Nat.add_assoc]
      have h0 := hat 0 hpos
      rw [List.getElem?_eq_getElem (by omega), had2] at h0
      refine ⟨b, ⟨_, List.getElem?_eq_getElem (by omega), hg⟩, b0, off, rfl, World.block_lt_of_cell? W _ h0, fun j v hv => ?_⟩
      have hj : j < K := by have := (List.getElem?_eq_some_iff.1 hv).1; omega
      have hh := hat j hj
      rw [had2] at hh
      rw [hh]
      exact hv
    obtain ⟨l, hll, hQ⟩ := list_of n _ hq
    subst hll
    have hb1 := blk_len (elems.map (·.1))
    have hb2 := blk_len (rest.map (·.1))
    simp only [List.length_map] at hb1 hb2
    refine ⟨l, rfl, hl, fun hA => (by cases hA), fun hpl => ?_, by rw [blk_slice]; omega, elems.map (·.1), by rw [blk_slice]; omega, by simp [hlen], fun i b hb => ?_⟩
    · simp only [List.length_map] at hpl
      obtain ⟨_, b0, off, rfl, hb0, _⟩ := hQ 0 l[0] (List.getElem?_eq_getElem hpl)
      refine ⟨b0, off, rfl, hb0, fun i y hy j v hv => ?_⟩
      rw [List.getElem?_map] at hy
      obtain ⟨b, hb, rfl⟩ := Option.map_eq_some_iff.1 hy
      obtain ⟨_, b1, off1, he, _, hc⟩ := hQ i b hb
      simp only [Addr.mk.injEq, and_true] at he
      obtain ⟨rfl, rfl⟩ := he
      exact hc j v hv
    · obtain ⟨⟨y, hy, hg⟩, -⟩ := hQ i b hb
      exact ⟨y.1, by simp [hy], hg⟩
/-- A struct of one-cell fields. -/
theorem open_fields {t : TypeId} {fs : Array Field} {fuel : Nat} {cs : List Value} {x : DataW H × List MemPlace} (he : Tryz.prog.underlying t = some (.struct fs)) (hone : oneCellFields Tryz.prog fs = true) (hC : Tryz.prog.cellsOf t = fs.size)
    (h : DataW.trod enc Tryz.prog W 0 (fun _ => true) true fuel t cs = some x) :
    ∃ (ys : List (DataW H × List MemPlace)) (n : Nat), n < fuel ∧ x.1 = .agg (ys.map (·.1)) ∧ ys.length = fs.size ∧ cs.length = fs.size ∧
      ∀ (j : Nat) (f : Field), fs[j]? = some f → ∃ (v : Value) (y : DataW H × List MemPlace), cs[j]? = some v ∧ ys[j]? = some y ∧ DataW.trod enc Tryz.prog W 0 (fun _ => true) true n f.type [v] = some y := by
  obtain ⟨ys, n', rfl, rfl, hlen, hyl, hf⟩ := DataW.trod_struct he h
  rw [hC] at hlen
  refine ⟨ys, n', by omega, rfl, hyl, hlen, fun j f hj => ?_⟩
  obtain ⟨ho, hk⟩ := hone_of hone j f hj
  have hjl : j < fs.size := (Array.getElem?_eq_some_iff.1 hj).1
  have hv : cs[j]? = some (cs[j]'(by omega)) := List.getElem?_eq_getElem (by omega)
  have h1 := hf j f hj
  rw [ho, hk] at h1
  have hone' : (cs.drop j).take 1 = [cs[j]'(by omega)] := by
    rw [List.drop_eq_getElem_cons (by omega)]
    rfl
  rw [hone'] at h1
  have hys : ys[j]? = some (ys[j]'(by omega)) := List.getElem?_eq_getElem (by omega)
  exact ⟨_, _, hv, hys, h1.trans hys⟩
theorem four_of {α : Type} {l : List α} (h : l.length = 4) : ∃ a b c d, l = [a, b, c, d] := by
  match l, h with
  | [a, b, c, d], _ => exact ⟨a, b, c, d, rfl⟩
theorem three_of {α : Type} {l : List α} (h : l.length = 3) : ∃ a b c, l = [a, b, c] := by
  match l, h with
  | [a, b, c], _ => exact ⟨a, b, c, rfl⟩
theorem two_of {α : Type} {l : List α} (h : l.length = 2) : ∃ a b, l = [a, b] := by
  match l, h with
  | [a, b], _ => exact ⟨a, b, rfl⟩
theorem int_wf {n : Int} (h : (Lit.int .i64 n).wf = true) : -9223372036854775808 ≤ n ∧ n ≤ 9223372036854775807 := by
  simpa [Lit.wf, IntKind.min, IntKind.max, IntKind.signed, IntKind.bits] using h
def GoodP (W : World) {H : Type} (p : Pt) (d : DataW H) : Prop := blk d ≤ 1048576 → p.In W.heap.size W ∧ p.count ≤ blk d ∧ p.capB
def GoodT (W : World) {H : Type} (p : Ty) (d : DataW H) : Prop := blk d ≤ 1048576 → p.In W.heap.size W ∧ p.count ≤ blk d ∧ p.capB
theorem open_slice_val {t e : TypeId} {fuel : Nat} {v : Value} {x : DataW H × List MemPlace} (ht : Tryz.prog.underlying t = some (.slice e)) (h : DataW.trod enc Tryz.prog W 0 (fun _ => true) true fuel t [v] = some x) : ∃ A n c, v = .slice A n c := by
  rcases DataW.trod_slice ht h with ⟨hcs, -⟩ | ⟨a, len, cap', elems, rest, k, rfl, hcs, -⟩
  · simp only [List.cons.injEq, and_true] at hcs
    exact ⟨_, _, _, hcs⟩
  · simp only [List.cons.injEq, and_true] at hcs
    exact ⟨_, _, _, hcs⟩
theorem open_pt : ∀ (fuel : Nat) (cs : List Value) (x : DataW H × List MemPlace), DataW.trod enc Tryz.prog W 0 (fun _ => true) true fuel 28 cs = some x → ∃ p : Pt, cs = p.cells ∧ GoodP W p x.1 := by
  intro fuel
  induction fuel using Nat.strongRecOn with
  | _ fuel ih =>
    intro cs x h
    obtain ⟨ys, n, hn, hx, hyl, hcl, hf⟩ := open_fields Tryz.underlying28 (by kernel_rfl) (by kernel_rfl) h
    obtain ⟨y0, y1, y2, y3, rfl⟩ := four_of hyl
    obtain ⟨c0, c1, c2, c3, rfl⟩ := four_of hcl
    obtain ⟨_, _, h0, g0, t0⟩ := hf 0 _ rfl
    obtain ⟨_, _, h1, g1, t1⟩ := hf 1 _ rfl
    obtain ⟨_, _, h2, g2, t2⟩ := hf 2 _ rfl
    obtain ⟨_, _, h3, g3, t3⟩ := hf 3 _ rfl
    cases h0; cases h1; cases h2; cases h3; cases g0; cases g1; cases g2; cases g3
    obtain ⟨s0, e0, z0, -⟩ := DataW.trod_string Tryz.underlying9 t0
    obtain ⟨s1, e1, z1, -⟩ := DataW.trod_string Tryz.underlying9 t1
    obtain ⟨s2, e2, z2, hw⟩ := DataW.trod_int Tryz.underlying3 t2
    simp only [List.cons.injEq, and_true] at e0 e1 e2
    subst e0 e1 e2 z0 z1 z2
    obtain ⟨A, m, c, rfl⟩ := open_slice_val Tryz.underlying26 t3
    obtain ⟨l, rfl, hl, hA, hrow, hcap, ds, hds, hdl, hg⟩ := open_row (e := 28) (K := 4) Pt.cells (GoodP W) Tryz.underlying26 (by kernel_rfl) (by omega) (fun k cs y hk hy => ih k (by omega) cs y hy) t3
    refine ⟨.mk s0 s1 s2 A c l, rfl, fun hb => ?_⟩
    rw [hx] at hb ⊢
    rw [blk_agg] at hb ⊢
    simp only [List.map_cons, List.map_nil, blkAll, Rows.uptoBulkAll] at hb ⊢
    have hz0 := blk_string (H := H) s0
    have hz1 := blk_string (H := H) s1
    simp only [blk, blkAll] at hz0 hz1 hds hcap
    rw [hz0, hz1] at hb ⊢
    have hen : ∀ (i : Nat) (a : Pt), l[i]? = some a → ∃ d, ds[i]? = some d ∧ a.In W.heap.size W ∧ a.count ≤ blk d ∧ a.capB := by
      intro i a ha
      obtain ⟨d, hd, hgd⟩ := hg i a ha
      have := blk_part (List.mem_of_getElem? hd)
      simp only [blk, blkAll] at this
      exact ⟨d, hd, hgd (by unfold blk; omega)⟩
    have hsum := blk_sum Pt.count l ds hdl (fun i a ha => by obtain ⟨d, hd, -, hc, -⟩ := hen i a ha; exact ⟨d, hd, hc⟩)
    simp only [blkAll] at hsum
    refine ⟨Pt.In_mk.2 ⟨by omega, by omega, int_wf hw, by omega, ⟨hl, hA⟩, hrow, fun t ht => ?_⟩, by rw [Pt.count_mk]; omega, Pt.capB_mk.2 ⟨by omega, fun t ht => ?_⟩⟩
    · obtain ⟨i, hi⟩ := List.getElem?_of_mem ht
      obtain ⟨d, -, hin, -⟩ := hen i t hi
      exact hin
    · obtain ⟨i, hi⟩ := List.getElem?_of_mem ht
      obtain ⟨d, -, -, -, hcp⟩ := hen i t hi
      exact hcp
theorem open_ty : ∀ (fuel : Nat) (cs : List Value) (x : DataW H × List MemPlace), DataW.trod enc Tryz.prog W 0 (fun _ => true) true fuel 25 cs = some x → ∃ p : Ty, cs = p.cells ∧ GoodT W p x.1 := by
  intro fuel
  induction fuel using Nat.strongRecOn with
  | _ fuel ih =>
    intro cs x h
    obtain ⟨ys, n, hn, hx, hyl, hcl, hf⟩ := open_fields Tryz.underlying25 (by kernel_rfl) (by kernel_rfl) h
    obtain ⟨y0, y1, y3, rfl⟩ := three_of hyl
    obtain ⟨c0, c1, c3, rfl⟩ := three_of hcl
    obtain ⟨_, _, h0, g0, t0⟩ := hf 0 _ rfl
    obtain ⟨_, _, h1, g1, t1⟩ := hf 1 _ rfl
    obtain ⟨_, _, h3, g3, t3⟩ := hf 2 _ rfl
    cases h0; cases h1; cases h3; cases g0; cases g1; cases g3
    obtain ⟨s0, e0, z0, -⟩ := DataW.trod_string Tryz.underlying9 t0
    obtain ⟨s1, e1, z1, -⟩ := DataW.trod_string Tryz.underlying9 t1
    simp only [List.cons.injEq, and_true] at e0 e1
    subst e0 e1 z0 z1
    obtain ⟨A, m, c, rfl⟩ := open_slice_val Tryz.underlying23 t3
    obtain ⟨l, rfl, hl, hA, hrow, hcap, ds, hds, hdl, hg⟩ := open_row (e := 25) (K := 3) Ty.cells (GoodT W) Tryz.underlying23 (by kernel_rfl) (by omega) (fun k cs y hk hy => ih k (by omega) cs y hy) t3
    refine ⟨.mk s0 s1 A c l, rfl, fun hb => ?_⟩
    rw [hx] at hb ⊢
    rw [blk_agg] at hb ⊢
    simp only [List.map_cons, List.map_nil, blkAll, Rows.uptoBulkAll] at hb ⊢
    have hz0 := blk_string (H := H) s0
    have hz1 := blk_string (H := H) s1
    simp only [blk, blkAll] at hz0 hz1 hds hcap
    rw [hz0, hz1] at hb ⊢
    have hen : ∀ (i : Nat) (a : Ty), l[i]? = some a → ∃ d, ds[i]? = some d ∧ a.In W.heap.size W ∧ a.count ≤ blk d ∧ a.capB := by
      intro i a ha
      obtain ⟨d, hd, hgd⟩ := hg i a ha
      have := blk_part (List.mem_of_getElem? hd)
      simp only [blk, blkAll] at this
      exact ⟨d, hd, hgd (by unfold blk; omega)⟩
    have hsum := blk_sum Ty.count l ds hdl (fun i a ha => by obtain ⟨d, hd, -, hc, -⟩ := hen i a ha; exact ⟨d, hd, hc⟩)
    simp only [blkAll] at hsum
    refine ⟨Ty.In_mk.2 ⟨by omega, by omega, by omega, ⟨hl, hA⟩, hrow, fun t ht => ?_⟩, by rw [Ty.count_mk]; omega, Ty.capB_mk.2 ⟨by omega, fun t ht => ?_⟩⟩
    · obtain ⟨i, hi⟩ := List.getElem?_of_mem ht
      obtain ⟨d, -, hin, -⟩ := hen i t hi
      exact hin
    · obtain ⟨i, hi⟩ := List.getElem?_of_mem ht
      obtain ⟨d, -, -, -, hcp⟩ := hen i t hi
      exact hcp
/-- A list of patterns. -/
theorem open_pts {fuel : Nat} {v : Value} {x : DataW H × List MemPlace} (h : DataW.trod enc Tryz.prog W 0 (fun _ => true) true fuel 26 [v] = some x) (hb : blk x.1 ≤ 1048576) :
    ∃ A c l, v = .slice A (List.length l) c ∧ PtsIn W.heap.size W A l ∧ l.length ≤ c ∧ (A = none → c = 0) ∧ l.length ≤ 1048576 ∧ c ≤ 1048576 ∧ (l.map Pt.count).sum ≤ 1048576 ∧ ∀ p ∈ l, p.capB := by
  obtain ⟨A, n, c, rfl⟩ := open_slice_val Tryz.underlying26 h
  obtain ⟨l, rfl, hl, hA, hrow, hcap, ds, hds, hdl, hg⟩ := open_row (e := 28) (K := 4) Pt.cells (GoodP W) Tryz.underlying26 (by kernel_rfl) (by omega) (fun k cs y hk hy => open_pt k cs y hy) h
  have hen : ∀ (i : Nat) (a : Pt), l[i]? = some a → ∃ d, ds[i]? = some d ∧ a.In W.heap.size W ∧ a.count ≤ blk d ∧ a.capB := by
    intro i a ha
    obtain ⟨d, hd, hgd⟩ := hg i a ha
    have := blk_part (List.mem_of_getElem? hd)
    exact ⟨d, hd, hgd (by omega)⟩
  have hsum := blk_sum Pt.count l ds hdl (fun i a ha => by obtain ⟨d, hd, -, hc, -⟩ := hen i a ha; exact ⟨d, hd, hc⟩)
  refine ⟨A, c, l, rfl, ⟨hrow, fun p hp => ?_, fun p hp => ?_, by omega⟩, hl, hA, by omega, by omega, by omega, fun p hp => ?_⟩
  rotate_left 2
  · obtain ⟨i, hi⟩ := List.getElem?_of_mem hp
    obtain ⟨d, -, -, -, hcp⟩ := hen i p hi
    exact hcp
  · obtain ⟨i, hi⟩ := List.getElem?_of_mem hp
    obtain ⟨d, -, hin, -⟩ := hen i p hi
    exact hin
  · obtain ⟨i, hi⟩ := List.getElem?_of_mem hp
    obtain ⟨d, hd, -, hc, -⟩ := hen i p hi
    have := blk_part (List.mem_of_getElem? hd)
    have := p.binds_count
    omega
def GoodC (W : World) {H : Type} (c : Cn) (d : DataW H) : Prop := blk d ≤ 1048576 → c.In W.heap.size W ∧ c.ty.count ≤ blk d ∧ c.ty.capB
def GoodD (W : World) {H : Type} (c : Dt) (d : DataW H) : Prop := blk d ≤ 1048576 → c.In W.heap.size W ∧ c.cons.length ≤ 1048576 ∧ c.cap ≤ 1048576 ∧ c.cons.length ≤ blk d ∧ ∀ x ∈ c.cons, x.ty.count ≤ 1048576 ∧ x.ty.capB
theorem field_at {fs : Array Field} {n : Nat} {cs : List Value} {xs : List (DataW H × List MemPlace)} (hf : ∀ (i : Nat) (f : Field), fs[i]? = some f → DataW.trod enc Tryz.prog W 0 (fun _ => true) true n f.type ((cs.drop f.offset).take (Tryz.prog.cellsOf f.type)) = xs[i]?)
    {j o k : Nat} {ty : TypeId} {f : Field} (hj : fs[j]? = some f) (ho : f.offset = o) (hk : Tryz.prog.cellsOf f.type = k) (ht : f.type = ty) : DataW.trod enc Tryz.prog W 0 (fun _ => true) true n ty ((cs.drop o).take k) = xs[j]? := by
  subst ho hk ht
  exact hf j f hj
set_option maxRecDepth 100000 in
theorem open_cn : ∀ (fuel : Nat) (cs : List Value) (x : DataW H × List MemPlace), DataW.trod enc Tryz.prog W 0 (fun _ => true) true fuel 117 cs = some x → ∃ p : Cn, cs = p.cells ∧ GoodC W p x.1 := by
  intro fuel cs x h
  obtain ⟨ys, n, rfl, rfl, hcl, hyl, hf⟩ := DataW.trod_struct Tryz.underlying117 h
  have hcl' : cs.length = 5 := hcl.trans (by kernel_rfl)
  obtain ⟨y0, y1, y2, rfl⟩ := three_of (hyl.trans rfl)
  obtain ⟨c0, c1, c2, c3, c4, rfl⟩ : ∃ a b c d e, cs = [a, b, c, d, e] := by
    match cs, hcl' with
    | [a, b, c, d, e], _ => exact ⟨a, b, c, d, e, rfl⟩
  have t0 := field_at hf (j := 0) (o := 0) (k := 1) (ty := 9) rfl rfl (by kernel_rfl) rfl
  have t1 := field_at hf (j := 1) (o := 1) (k := 1) (ty := 4) rfl rfl (by kernel_rfl) rfl
  have t2 := field_at hf (j := 2) (o := 2) (k := 3) (ty := 25) rfl rfl (by kernel_rfl) rfl
  simp only [List.drop_zero, List.drop_succ_cons, List.take_succ_cons, List.take_zero, List.getElem?_cons_zero, List.getElem?_cons_succ] at t0 t1 t2
  obtain ⟨s0, e0, rfl, -⟩ := DataW.trod_string Tryz.underlying9 t0
  obtain ⟨b1, e1, rfl⟩ := DataW.trod_bool Tryz.underlying4 t1
  obtain ⟨u, e2, hu⟩ := open_ty _ _ _ t2
  simp only [Ty.cells, List.cons.injEq, and_true] at e0 e1 e2
  obtain ⟨rfl, rfl, rfl⟩ := e2
  subst e0 e1
  refine ⟨⟨s0, b1, u⟩, rfl, fun hb => ?_⟩
  rw [blk_agg] at hb ⊢
  have hz0 := blk_string (H := H) s0
  simp only [blk] at hz0
  simp only [List.map_cons, List.map_nil, blkAll, Rows.uptoBulkAll, hz0] at hb ⊢
  obtain ⟨h1, h2, h3⟩ := hu (by unfold blk; omega)
  simp only [blk] at h2
  exact ⟨⟨by first | omega | (simp only; omega), h1⟩, by first | omega | (simp only; omega), h3⟩
theorem open_dt : ∀ (fuel : Nat) (cs : List Value) (x : DataW H × List MemPlace), DataW.trod enc Tryz.prog W 0 (fun _ => true) true fuel 111 cs = some x → ∃ p : Dt, cs = p.cells ∧ GoodD W p x.1 := by
  intro fuel cs x h
  obtain ⟨ys, n, hn, hx, hyl, hcl, hf⟩ := open_fields Tryz.underlying111 (by kernel_rfl) (by kernel_rfl) h
  obtain ⟨y0, y1, rfl⟩ := two_of hyl
  obtain ⟨c0, c1, rfl⟩ := two_of hcl
  obtain ⟨_, _, h0, g0, t0⟩ := hf 0 _ rfl
  obtain ⟨_, _, h1, g1, t1⟩ := hf 1 _ rfl
  cases h0; cases h1; cases g0; cases g1
  obtain ⟨s0, e0, z0, -⟩ := DataW.trod_string Tryz.underlying9 t0
  simp only [List.cons.injEq, and_true] at e0
  subst e0 z0
  obtain ⟨A, m, c, rfl⟩ := open_slice_val Tryz.underlying103 t1
  obtain ⟨l, rfl, hl, hA, hrow, hcap, ds, hds, hdl, hg⟩ := open_row (e := 117) (K := 5) Cn.cells (GoodC W) Tryz.underlying103 (by kernel_rfl) (by omega) (fun k cs y hk hy => open_cn k cs y hy) t1
  refine ⟨⟨s0, A, c, l⟩, rfl, fun hb => ?_⟩
  rw [hx] at hb ⊢
  rw [blk_agg] at hb ⊢
  have hz0 := blk_string (H := H) s0
  simp only [blk, blkAll] at hz0 hds hcap
  simp only [List.map_cons, List.map_nil, blkAll, Rows.uptoBulkAll, hz0] at hb ⊢
  have hdl2 := blk_len ds
  simp only [blkAll] at hdl2
  have hev : ∀ c ∈ l, c.In W.heap.size W ∧ c.ty.count ≤ 1048576 ∧ c.ty.capB := by
    intro c hc
    obtain ⟨i, hi⟩ := List.getElem?_of_mem hc
    obtain ⟨d, hd, hgd⟩ := hg i c hi
    have := blk_part (List.mem_of_getElem? hd)
    simp only [blk, blkAll] at this
    obtain ⟨h1, h2, h3⟩ := hgd (by unfold blk; omega)
    simp only [blk] at h2
    exact ⟨h1, by omega, h3⟩
  refine ⟨⟨by first | omega | (simp only; omega), by first | omega | (simp only; omega), ⟨hl, hA⟩, hrow, fun c hc => (hev c hc).1⟩, by first | omega | (simp only; omega), by first | omega | (simp only; omega), by first | omega | (simp only; omega), fun c hc => (hev c hc).2⟩
/-- A list of datatypes. -/
theorem open_dts {fuel : Nat} {v : Value} {x : DataW H × List MemPlace} (h : DataW.trod enc Tryz.prog W 0 (fun _ => true) true fuel 22 [v] = some x) (hb : blk x.1 ≤ 1048576) :
    ∃ A c l, v = .slice A (List.length l) c ∧ RowAt W.heap.size W 2 A (l.map Dt.cells) ∧ (∀ d ∈ l, d.In W.heap.size W ∧ d.cons.length ≤ 1048576 ∧ d.cap ≤ 1048576 ∧ ∀ x ∈ d.cons, x.ty.count ≤ 1048576 ∧ x.ty.capB) ∧ l.length ≤ c ∧ (A = none → c = 0) ∧ l.length ≤ 1048576 ∧ c ≤ 1048576 ∧ (l.map fun d => d.cons.length).sum ≤ 1048576 := by
  obtain ⟨A, n, c, rfl⟩ := open_slice_val Tryz.underlying22 h
  obtain ⟨l, rfl, hl, hA, hrow, hcap, ds, hds, hdl, hg⟩ := open_row (e := 111) (K := 2) Dt.cells (GoodD W) Tryz.underlying22 (by kernel_rfl) (by omega) (fun k cs y hk hy => open_dt k cs y hy) h
  have hen : ∀ (i : Nat) (a : Dt), l[i]? = some a → ∃ d, ds[i]? = some d ∧ a.In W.heap.size W ∧ a.cons.length ≤ 1048576 ∧ a.cap ≤ 1048576 ∧ a.cons.length ≤ blk d ∧ ∀ x ∈ a.cons, x.ty.count ≤ 1048576 ∧ x.ty.capB := by
    intro i a ha
    obtain ⟨d, hd, hgd⟩ := hg i a ha
    have := blk_part (List.mem_of_getElem? hd)
    exact ⟨d, hd, hgd (by omega)⟩
  have hsum := blk_sum (fun d : Dt => d.cons.length) l ds hdl (fun i a ha => by obtain ⟨d, hd, -, -, -, hc, -⟩ := hen i a ha; exact ⟨d, hd, hc⟩)
  refine ⟨A, c, l, rfl, hrow, fun p hp => ?_, hl, hA, by omega, by omega, by omega⟩
  obtain ⟨i, hi⟩ := List.getElem?_of_mem hp
  obtain ⟨d, -, h1, h2, h3, -, h4⟩ := hen i p hi
  exact ⟨h1, h2, h3, h4⟩
end
end Go.Proofs.YtjeggkfgdhepaaaGreatDoor
