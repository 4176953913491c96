/- Missing, by the program: a value pattern that is missing. -/
import Derived.Test.YtjeggkfgdhepaaaGreatDoorG12
set_option linter.unusedVariables false
set_option linter.unusedSimpArgs false
namespace Go.Proofs.YtjeggkfgdhepaaaGreatDoor
open Go.RowKit
open Go.Proofs
open Go.Maps

def zeroPat : Value := .agg #[.string emptyS, .string emptyS, .int .i64 0, .slice none 0 0]
/-- What Missing gives. -/
def MissPost (l : List Dt) (t : Ty) (ps : List Pt) (w : World) (e : Ending) (w' : World) : Prop :=
  Below w.heap.size w w' ∧ ((askedErr l t ps ≠ 0 ∧ e = .returned (.tuple #[zeroPat, .int .i64 (askedErr l t ps)])) ∨
    (askedErr l t ps = 0 ∧ ¬Useful l [t] (oneCol ps) [anyPt] ∧ e = .returned (.tuple #[zeroPat, .int .i64 5])) ∨
    (askedErr l t ps = 0 ∧ Useful l [t] (oneCol ps) [anyPt] ∧ (e = .returned (.tuple #[zeroPat, .int .i64 4]) ∨ ∃ q : Pt, e = .returned (.tuple #[q.val, .int .i64 0]) ∧ q.In w'.heap.size w' ∧ Val l t q ∧ ∀ p ∈ ps, p.matchB q = false)))
theorem size_any {l : List Dt} {t : Ty} {ps : List Pt} (h : Asked l t ps) : sizeL [t] (oneCol ps) [anyPt] ≤ 100000 := by
  have h1 := rowsW_one ps
  have h2 := h.nodes
  have h3 : rowW [anyPt] = 0 := by unfold rowW; simp [anyPt_weight]
  unfold sizeL
  simp only [List.length_cons, List.length_nil]
  omega
def T3 (bt : Nat) (t : Ty) (W : World) : Prop := W.cell? ⟨bt, 0, none⟩ = some (.string t.dof) ∧ W.cell? ⟨bt, 1, none⟩ = some (.string t.name) ∧ W.cell? ⟨bt, 2, none⟩ = some (.slice t.at_ t.args.length t.cap) ∧ bt < W.heap.size
/-- What seek tells of the missing. -/
def MissMid (Z : Sk) (l : List Dt) (t : Ty) (ps : List Pt) (W : World) (e : Ending) (W' : World) : Prop :=
  Sm Z W W' ∧ ((e = .returned (.tuple #[.slice none 0 0, .bool false]) ∧ ¬Useful l [t] (oneCol ps) [anyPt]) ∨
    (Useful l [t] (oneCol ps) [anyPt] ∧ ∃ (b o c : Nat) (q : Pt), e = .returned (.tuple #[.slice (some ⟨b, o, none⟩) 1 c, .bool true]) ∧ Rw.In W'.heap.size W' ⟨some ⟨b, o, none⟩, c, [q]⟩ ∧ (Open_ Z W' → Val l t q ∧ ∀ p ∈ ps, p.matchB q = false)))
theorem seek_miss (Z : Sk) (l : List Dt) (L : List (ByteArray × Value)) (hr : Right2 l L) (A : Option Addr) (t : Ty) (Ap : Option Addr) (ps : List Pt) (ha : Asked l t ps) (W : World) (hi : AskIn W A l t Ap ps) (hV : VEnv Z l L W) (B bt bp : Nat) (A9 : Option Addr) (c9 : Nat)
    (kt : Blk W bt #[.string t.dof, .string t.name, .slice t.at_ t.args.length t.cap] 25) (kp : Blk W bp #[.string ⟨#[97, 110, 121]⟩, .string ⟨#[]⟩, .int .i64 0, .slice none 0 0] 28) (ro : RowsO B W (.slice A9 ps.length c9) ps ps.length) :
    Calls Tryz.prog 44 #[.pointer (some ⟨Z.b, 0, none⟩), .slice (some ⟨bt, 0, none⟩) 1 1, .slice A9 ps.length c9, .slice (some ⟨bp, 0, none⟩) 1 1] W (MissMid Z l t ps W) := by
  have hl12 := ha.len
  refine Calls.mono (seek_col Z l L hr t ha.ty hi.tcap hi.caps ps anyPt (fun x hx => ⟨ha.pok x hx, hi.pcap x hx⟩) ⟨anyPt_ok l t, anyPt_cap⟩ ps.length rfl (by omega) (size_any ha) W hV hi.ty (fun x hx => hi.pts.each x hx) (any_in _ _) B bt bp A9 c9 kt kp ro) ?_
  rintro e W' ⟨hs, ⟨rfl, hno⟩ | ⟨hyes, A', c', out, rfl, hin, -, hem, hlen, hval⟩⟩
  · exact ⟨hs, .inl ⟨rfl, hno⟩⟩
  · obtain ⟨q, rfl⟩ := one_of hlen
    obtain ⟨b, o, rfl, -⟩ := hin.some
    refine ⟨hs, .inr ⟨hyes, b, o, c', q, rfl, hin, fun ho => ?_⟩⟩
    obtain ⟨h1, -, h3⟩ := hval ho
    refine ⟨vals_one.1 h1, fun p hp => ?_⟩
    have := h3 [p] (List.mem_map.2 ⟨p, hp, rfl⟩)
    simpa [matchAll] using this
set_option maxRecDepth 100000 in
set_option maxHeartbeats 16000000 in
theorem missing_any (A : Option Addr) (l : List Dt) (c : Nat) (t : Ty) (Ap : Option Addr) (ps : List Pt) (cp : Nat) (w : World) (h : AskIn w A l t Ap ps) :
    Calls Tryz.prog 14 #[.slice A l.length c, t.val, .slice Ap ps.length cp] w (MissPost l t ps w) := by
  have H := Lib.hid h
  have HAQ := Lib.hid (asked_iff (l := l) (t := t) h.count)
  have HASK := Lib.hid (fun (W : World) (hW : Below w.heap.size w W) => asked_any (SkOk l w.heap.size) A l c t Ap ps cp W (fun h0 W1 bD bC bE hb1 h1 _ _ => newSeeker_of (HAQ.out.1 h0).right ((H.out.next hW).next hb1).dts ((H.out.next hW).next hb1).dlen (Nat.le_trans hW.size hb1.size) bD bC bE h1) (h.env.next hW) (h.dts.next hW) (h.ty.at_ hW hW.size) (h.pts.at_ hW hW.size))
  clear h
  have HB0 := Lib.hid (((Below.refl w.heap.size w).alloc (Nat.le_refl _) (.cells #[.string t.dof, .string t.name, .slice t.at_ t.args.length t.cap] 25)).alloc (by simp) (.cells #[.string ⟨#[]⟩, .string ⟨#[]⟩, .int .i64 0, .slice none 0 0] 28))
  have K0 := Lib.hid ((Blk.new w #[.string t.dof, .string t.name, .slice t.at_ t.args.length t.cap] 25).alloc (.cells #[.string ⟨#[]⟩, .string ⟨#[]⟩, .int .i64 0, .slice none 0 0] 28))
  have KR := Lib.hid (Blk.new' (w.alloc (.cells #[.string t.dof, .string t.name, .slice t.at_ t.args.length t.cap] 25)) #[.string ⟨#[]⟩, .string ⟨#[]⟩, .int .i64 0, .slice none 0 0] 28 (w.heap.size + 1) (by simp))
  unfold Ty.val at *
  go_enter Tryz.func14, Tryz.ntmps14
  go_wp2_with fail
  generalize (w.alloc (.cells #[.string t.dof, .string t.name, .slice t.at_ t.args.length t.cap] 25)).alloc (.cells #[.string ⟨#[]⟩, .string ⟨#[]⟩, .int .i64 0, .slice none 0 0] 28) = w0 at HB0 K0 KR ⊢
  refine Calls.mono (HASK.out _ HB0.out) ?_
  rintro e w1 ⟨hb1, ⟨h0, v1, rfl, Z, L, rfl, hZb, hska, hr2, hop⟩ | ⟨hne, rfl⟩⟩
  case inr =>
    have HB1 := Lib.hid (HB0.out.trans (hb1.mono HB0.out.size))
    have KR1 := Lib.hid (KR.out.below hb1 KR.out.lt)
    have HNE := Lib.hid hne
    have hne2 : (askedErr l t ps == 0) = false := by simpa using hne
    have hne3 : (askedErr l t ps != 0) = true := by simpa using hne
    obtain ⟨er, hq⟩ : ∃ er, askedErr l t ps = er := ⟨_, rfl⟩
    rw [hq] at hne2 hne3
    rw [hq]
    have HQ := Lib.hid hq
    obtain ⟨r0, r1, r2, r3⟩ := KR1.out.four
    have rl := KR1.out.lt
    have d0 := KR1.out.free 0
    have d1 := KR1.out.free 1
    have d2 := KR1.out.free 2
    have d3 := KR1.out.free 3
    clear hb1 hne hq
    go_wp2_with fail
    obtain ⟨hs9, hk9⟩ := four_set KR1.out HB1.out (by omega) (.string ⟨#[]⟩) (.string ⟨#[]⟩) (.int .i64 0) (.slice none 0 0)
    generalize (((w1.setCell ⟨w.heap.size + 1, 0, none⟩ (.string ⟨#[]⟩)).setCell ⟨w.heap.size + 1, 1, none⟩ (.string ⟨#[]⟩)).setCell ⟨w.heap.size + 1, 2, none⟩ (.int .i64 0)).setCell ⟨w.heap.size + 1, 3, none⟩ (.slice none 0 0) = w9 at hs9 hk9 ⊢
    obtain ⟨r0, r1, r2, r3⟩ := hk9.four
    exact bodyPost_ret (v := .tuple #[zeroPat, .int .i64 er]) (by simp [results, Tryz.results14, go_sem, r0, r1, r2, r3, zeroPat, emptyS]) rfl ⟨hs9, .inl ⟨by rw [HQ.out]; exact (by rw [HQ.out] at HNE; exact HNE.out), by rw [HQ.out]⟩⟩
  have HASKED := Lib.hid (HAQ.out.1 h0)
  have HZERO := Lib.hid h0
  have hl12 := HASKED.out.len
  have HB1 := Lib.hid (HB0.out.trans (hb1.mono HB0.out.size))
  have K1 := Lib.hid (K0.out.below hb1 K0.out.lt)
  have KR1 := Lib.hid (KR.out.below hb1 KR.out.lt)
  have HV1 := Lib.hid (show VEnv Z l L w1 from ⟨hska, fun d hd => ⟨(H.out.next HB1.out).dts.each d hd, H.out.dlen d hd⟩⟩)
  have HZB := Lib.hid hZb
  have HR2 := Lib.hid hr2
  clear hb1 hska hr2 hZb h0 hop
  have HSF := Lib.hid (fun W (hW : Below w1.heap.size w1 W) => (show T3 w.heap.size t W from by
    have k1 := K1.out.below hW K1.out.lt
    exact ⟨k1.cell 0, k1.cell 1, k1.cell 2, k1.lt⟩))
  have HZ0 := Lib.hid (Below.refl w1.heap.size w1)
  have HROWS := Lib.hid (fun (W : World) (hW : Below w.heap.size w W) => rows_any Ap ps cp W (by omega) ((H.out.next hW).pts.row) (fun q hq => (H.out.next hW).pts.each q hq))
  have HSEEK := Lib.hid (fun (W : World) (bt bp : Nat) (A9 : Option Addr) (c9 : Nat) (hW : Below w.heap.size w W) (hV : VEnv Z l L W) (kt : Blk W bt #[.string t.dof, .string t.name, .slice t.at_ t.args.length t.cap] 25) (kp : Blk W bp #[.string ⟨#[97, 110, 121]⟩, .string ⟨#[]⟩, .int .i64 0, .slice none 0 0] 28) (ro : RowsO w.heap.size W (.slice A9 ps.length c9) ps ps.length) =>
    seek_miss Z l L HR2.out A t Ap ps HASKED.out W (H.out.next hW) hV w.heap.size bt bp A9 c9 kt kp ro)
  unfold MissMid at HSEEK
  unfold Sk.val
  go_wp2_with fail
  refine region_ord (T3 w.heap.size t) (.read 0 (.read 1 (.read 3 (.read 5 (.three 2 (.two 4 (.one 6 (.one 7 (.read 8 (.read 9 (.read 10 (.one 11 (.one 12 .done))))))) 6 (.one 4 (.one 7 (.read 8 (.read 9 (.read 10 (.one 11 (.one 12 .done)))))))) 4 (.two 2 (.one 6 (.one 7 (.read 8 (.read 9 (.read 10 (.one 11 (.one 12 .done))))))) 6 (.one 2 (.one 7 (.read 8 (.read 9 (.read 10 (.one 11 (.one 12 .done)))))))) 6 (.two 2 (.one 4 (.one 7 (.read 8 (.read 9 (.read 10 (.one 11 (.one 12 .done))))))) 4 (.one 2 (.one 7 (.read 8 (.read 9 (.read 10 (.one 11 (.one 12 .done))))))))))))) (by kernel_rfl) (by kernel_rfl) (HSF.out _ HZ0.out.drew) ?_
  iterate 4
    refine wpOrd_read _ ?_ rfl (by rfl) (fun W hW => ?_) ?_
    rotate_left
    · unfold T3 at hW
      go_simp
      try with_reducible rfl
    simp only [Act.put, List.setIfInBounds_toArray, List.set_cons_zero, List.set_cons_succ]
  refine ⟨?_, ?_, ?_⟩
  · refine stepAt_of _ rfl rfl (fun K hK => ?_)
    go_simp
    have KT := Lib.hid (show Blk ((w1.alloc (.cells #[.string t.dof, .string t.name, .slice t.at_ t.args.length t.cap] 25)).drew) w1.heap.size #[.string t.dof, .string t.name, .slice t.at_ t.args.length t.cap] 25 from Blk.new w1 _ _)
    have HS1 := Lib.hid (show Below w1.heap.size w1 ((w1.alloc (.cells #[.string t.dof, .string t.name, .slice t.at_ t.args.length t.cap] 25)).drew) from ((Below.refl _ _).alloc (Nat.le_refl _) _).drew)
    have HZ1 := Lib.hid (HZ0.out.trans (HS1.out.mono HZ0.out.size))
    refine hK _ _ ⟨HSF.out _ HZ1.out, ?_⟩
    clear hK K
    generalize ((w1.alloc (.cells #[.string t.dof, .string t.name, .slice t.at_ t.args.length t.cap] 25)).drew) = wx1 at KT HS1 HZ1 ⊢
    refine wpOrd_two ?_ ?_
    · refine stepAt_of _ rfl rfl (fun K hK => ?_)
      go_simp
      have HD := Lib.hid (show Below w.heap.size w wx1 from (HB1.out.trans (HZ1.out.mono HB1.out.size)))
      refine Calls.mono (HROWS.out _ HD.out) ?_
      rintro e wx2 ⟨hb9, v9, rfl, hro⟩
      obtain ⟨rs9, A9, c9, hr1, rfl, hr2, hr3⟩ := hro
      have RO : Hid (RowsO w.heap.size wx2 (.slice A9 ps.length c9) ps ps.length) := Lib.hid ⟨rs9, A9, c9, hr1, rfl, own_wide hr2 HD.out.size, hr3⟩
      have HS2 := Lib.hid (show Below wx1.heap.size wx1 wx2 from hb9)
      have KT := Lib.hid (KT.out.below HS2.out KT.out.lt)
      have HZ2 := Lib.hid (HZ1.out.trans (HS2.out.mono HZ1.out.size))
      refine hK _ _ ⟨HSF.out _ HZ2.out, ?_⟩
      clear hK K hb9 hr1 hr2 hr3
      refine wpOrd_one ?_
      refine stepAt_of _ rfl rfl (fun K hK => ?_)
      go_simp
      have KP := Lib.hid (show Blk (wx2.alloc (.cells #[.string ⟨#[97, 110, 121]⟩, .string ⟨#[]⟩, .int .i64 0, .slice none 0 0] 28)) wx2.heap.size #[.string ⟨#[97, 110, 121]⟩, .string ⟨#[]⟩, .int .i64 0, .slice none 0 0] 28 from Blk.new wx2 _ _)
      have HS3 := Lib.hid (show Below wx2.heap.size wx2 (wx2.alloc (.cells #[.string ⟨#[97, 110, 121]⟩, .string ⟨#[]⟩, .int .i64 0, .slice none 0 0] 28)) from ((Below.refl _ _).alloc (Nat.le_refl _) _))
      have KT := Lib.hid (KT.out.below HS3.out KT.out.lt)
      have RO := Lib.hid (RO.out.keep HS3.out)
      have HZ3 := Lib.hid (HZ2.out.trans (HS3.out.mono HZ2.out.size))
      refine hK _ _ ⟨HSF.out _ HZ3.out, ?_⟩
      clear hK K
      generalize (wx2.alloc (.cells #[.string ⟨#[97, 110, 121]⟩, .string ⟨#[]⟩, .int .i64 0, .slice none 0 0] 28)) = wx3 at KT RO KP HS3 HZ3 ⊢
      refine wpOrd_one ?_
      refine stepAt_of _ rfl rfl (fun K hK => ?_)
      go_simp
      refine Calls.mono (HSEEK.out _ _ _ _ _ (HB1.out.trans (HZ3.out.mono HB1.out.size)) (HV1.out.next HZ3.out) KT.out KP.out RO.out) ?_
      rintro e wz ⟨hsz, hmid⟩
      have HSZ := Lib.hid hsz
      have HPZ := Lib.hid (show T3 w.heap.size t wz from by
        have k1 := hsz.blk (K1.out.below HZ3.out K1.out.lt) (by decide)
        exact ⟨k1.cell 0, k1.cell 1, k1.cell 2, k1.lt⟩)
      have KRZ := Lib.hid (hsz.blk (KR1.out.below HZ3.out KR1.out.lt) (by decide))
      have HBZ := Lib.hid ((HB1.out.trans (HZ3.out.mono HB1.out.size)).trans (HSZ.out.below (by have := HB1.out.size; have := HZ3.out.size; omega) HZB.out))
      rcases hmid with ⟨rfl, hno⟩ | ⟨hyes, b, o, c', q, rfl, hin, hval⟩
      · have HNO := Lib.hid hno
        clear hno
        refine hK _ _ ⟨HPZ.out, ?_⟩
        clear hK K hsz
        iterate 3
          refine wpOrd_read _ ?_ rfl (by rfl) (fun W hW => ?_) ?_
          rotate_left
          · unfold T3 at hW
            go_simp
            try with_reducible rfl
          simp only [Act.put, List.setIfInBounds_toArray, List.set_cons_zero, List.set_cons_succ]
        iterate 2
          refine wpOrd_one ?_
          refine stepAt_of _ rfl rfl (fun K hK => ?_)
          go_simp
          refine hK _ _ ⟨HPZ.out, ?_⟩
          clear hK K
        refine wpOrd_done ?_
        refine NoPanic.normal ?_
        obtain ⟨r0, r1, r2, r3⟩ := KRZ.out.four
        have rl := KRZ.out.lt
        have d0 := KRZ.out.free 0
        have d1 := KRZ.out.free 1
        have d2 := KRZ.out.free 2
        have d3 := KRZ.out.free 3
        go_wp2_with fail
        obtain ⟨hs9, hk9⟩ := four_set KRZ.out HBZ.out (by omega) (.string ⟨#[]⟩) (.string ⟨#[]⟩) (.int .i64 0) (.slice none 0 0)
        generalize (((wz.setCell ⟨w.heap.size + 1, 0, none⟩ (.string ⟨#[]⟩)).setCell ⟨w.heap.size + 1, 1, none⟩ (.string ⟨#[]⟩)).setCell ⟨w.heap.size + 1, 2, none⟩ (.int .i64 0)).setCell ⟨w.heap.size + 1, 3, none⟩ (.slice none 0 0) = w9 at hs9 hk9 ⊢
        obtain ⟨r0, r1, r2, r3⟩ := hk9.four
        exact bodyPost_ret (v := .tuple #[zeroPat, .int .i64 5]) (by simp [results, Tryz.results14, go_sem, r0, r1, r2, r3, zeroPat, emptyS]) rfl ⟨hs9, .inr (.inl ⟨HZERO.out, HNO.out, rfl⟩)⟩
      · have HYES := Lib.hid hyes
        have HIN := Lib.hid hin
        have HVAL := Lib.hid hval
        clear hyes hin hval
        refine hK _ _ ⟨HPZ.out, ?_⟩
        clear hK K hsz
        iterate 3
          refine wpOrd_read _ ?_ rfl (by rfl) (fun W hW => ?_) ?_
          rotate_left
          · unfold T3 at hW
            go_simp
            try with_reducible rfl
          simp only [Act.put, List.setIfInBounds_toArray, List.set_cons_zero, List.set_cons_succ]
        iterate 2
          refine wpOrd_one ?_
          refine stepAt_of _ rfl rfl (fun K hK => ?_)
          go_simp
          refine hK _ _ ⟨HPZ.out, ?_⟩
          clear hK K
        refine wpOrd_done ?_
        refine NoPanic.normal ?_
        obtain ⟨f0, f1, -, hf1, -⟩ := HSZ.out.flag
        have HF1 := Lib.hid hf1
        have s4 : wz.cell? ⟨Z.b, 4, none⟩ = some (.bool f1) := (hf1.cell 4).trans rfl
        have sl := hf1.lt
        clear hf1
        cases f1
        case true =>
          obtain ⟨r0, r1, r2, r3⟩ := KRZ.out.four
          have rl := KRZ.out.lt
          have d0 := KRZ.out.free 0
          have d1 := KRZ.out.free 1
          have d2 := KRZ.out.free 2
          have d3 := KRZ.out.free 3
          go_wp2_with fail
          obtain ⟨hs9, hk9⟩ := four_set KRZ.out HBZ.out (by omega) (.string ⟨#[]⟩) (.string ⟨#[]⟩) (.int .i64 0) (.slice none 0 0)
          generalize (((wz.setCell ⟨w.heap.size + 1, 0, none⟩ (.string ⟨#[]⟩)).setCell ⟨w.heap.size + 1, 1, none⟩ (.string ⟨#[]⟩)).setCell ⟨w.heap.size + 1, 2, none⟩ (.int .i64 0)).setCell ⟨w.heap.size + 1, 3, none⟩ (.slice none 0 0) = w9 at hs9 hk9 ⊢
          obtain ⟨r0, r1, r2, r3⟩ := hk9.four
          exact bodyPost_ret (v := .tuple #[zeroPat, .int .i64 4]) (by simp [results, Tryz.results14, go_sem, r0, r1, r2, r3, zeroPat, emptyS]) rfl ⟨hs9, .inr (.inr ⟨HZERO.out, HYES.out, .inl rfl⟩)⟩
        case false =>
          have HVQ := Lib.hid (HVAL.out HF1.out)
          obtain ⟨q', b', o', hq', -, hat', hb', z0, z1, z2, z3⟩ := Pt.arg_at (k := 0) HIN.out.1 (Below.refl _ _) (by simp)
          simp only [List.getElem?_cons_zero, Option.some.injEq, Addr.mk.injEq, and_true] at hq' hat'
          subst hq'
          obtain ⟨rfl, rfl⟩ := hat'
          simp only [Nat.zero_mul, Nat.add_zero] at z0 z1 z2 z3
          have HQI := Lib.hid (HIN.out.2.1 q (by simp))
          have HZC := Lib.hid (fun (W : World) (hW : Below wz.heap.size wz W) => (⟨(hW.cell (p := ⟨b, o, none⟩) hb').trans z0, (hW.cell (p := ⟨b, o + 1, none⟩) hb').trans z1, (hW.cell (p := ⟨b, o + 2, none⟩) hb').trans z2, (hW.cell (p := ⟨b, o + 3, none⟩) hb').trans z3⟩ : P4 b o q W))
          have hc1 := HIN.out.2.2.1
          simp only [List.length_cons, List.length_nil] at hc1
          have HCO := Lib.hid (fun (W : World) (hW : Below wz.heap.size wz W) => ofPat_any q W (HQI.out.next hW))
          have HCC := Lib.hid (fun (W : World) (hW : Below wz.heap.size wz W) => clone_pat q W (HQI.out.next hW))
          unfold PatCloned at HCC
          unfold Pt.val at HCO HCC
          go_wp2_with fail
          refine Calls.mono (HCO.out _ (Below.refl _ _)) ?_
          rintro e w2 ⟨rfl, hb2⟩
          have HB2 := Lib.hid (HBZ.out.trans (hb2.mono HBZ.out.size))
          have HZ2' := Lib.hid hb2
          have KR2 := Lib.hid (KRZ.out.below hb2 KRZ.out.lt)
          clear hb2 z0 z1 z2 z3
          go_wp2_with fail
          refine Calls.mono (fits_any _ _ w2) ?_
          rintro e w3 ⟨rfl, hb3⟩
          have HB3 := Lib.hid (HB2.out.trans (hb3.mono HB2.out.size))
          have HZ3' := Lib.hid (HZ2'.out.trans (hb3.mono HZ2'.out.size))
          have KR3 := Lib.hid (KR2.out.below hb3 KR2.out.lt)
          obtain ⟨z0, z1, z2, z3⟩ := HZC.out _ HZ3'.out
          have zl := HZ3'.out.size
          clear hb3
          generalize Sz.fits _ = fb
          cases fb
          case false =>
            obtain ⟨r0, r1, r2, r3⟩ := KR3.out.four
            have rl := KR3.out.lt
            have d0 := KR3.out.free 0
            have d1 := KR3.out.free 1
            have d2 := KR3.out.free 2
            have d3 := KR3.out.free 3
            go_wp2_with fail
            obtain ⟨hs9, hk9⟩ := four_set KR3.out HB3.out (by omega) (.string ⟨#[]⟩) (.string ⟨#[]⟩) (.int .i64 0) (.slice none 0 0)
            generalize (((w3.setCell ⟨w.heap.size + 1, 0, none⟩ (.string ⟨#[]⟩)).setCell ⟨w.heap.size + 1, 1, none⟩ (.string ⟨#[]⟩)).setCell ⟨w.heap.size + 1, 2, none⟩ (.int .i64 0)).setCell ⟨w.heap.size + 1, 3, none⟩ (.slice none 0 0) = w9 at hs9 hk9 ⊢
            obtain ⟨r0, r1, r2, r3⟩ := hk9.four
            exact bodyPost_ret (v := .tuple #[zeroPat, .int .i64 4]) (by simp [results, Tryz.results14, go_sem, r0, r1, r2, r3, zeroPat, emptyS]) rfl ⟨hs9, .inr (.inr ⟨HZERO.out, HYES.out, .inl rfl⟩)⟩
          case true =>
            go_wp2_with fail
            refine Calls.mono (HCC.out _ HZ3'.out) ?_
            rintro e w4 ⟨hb4, qn, rfl, hqi, hqf, hqb⟩
            have HB4 := Lib.hid (HB3.out.trans (hb4.mono HB3.out.size))
            have KR4 := Lib.hid (KR3.out.below hb4 KR3.out.lt)
            have HQN := Lib.hid (And.intro hqi (And.intro hqf hqb))
            have hr3 := KR3.out.lt
            clear hb4 hqi hqf hqb z0 z1 z2 z3
            obtain ⟨r0, r1, r2, r3⟩ := KR4.out.four
            have rl := KR4.out.lt
            have d0 := KR4.out.free 0
            have d1 := KR4.out.free 1
            have d2 := KR4.out.free 2
            have d3 := KR4.out.free 3
            go_wp2_with fail
            obtain ⟨hs9, hk9⟩ := four_set KR4.out HB4.out (by omega) (.string qn.dof) (.string qn.name) (.int .i64 qn.num) (.slice qn.at_ qn.args.length qn.cap)
            have hq9 : qn.In ((((w4.setCell ⟨w.heap.size + 1, 0, none⟩ (.string qn.dof)).setCell ⟨w.heap.size + 1, 1, none⟩ (.string qn.name)).setCell ⟨w.heap.size + 1, 2, none⟩ (.int .i64 qn.num)).setCell ⟨w.heap.size + 1, 3, none⟩ (.slice qn.at_ qn.args.length qn.cap)).heap.size ((((w4.setCell ⟨w.heap.size + 1, 0, none⟩ (.string qn.dof)).setCell ⟨w.heap.size + 1, 1, none⟩ (.string qn.name)).setCell ⟨w.heap.size + 1, 2, none⟩ (.int .i64 qn.num)).setCell ⟨w.heap.size + 1, 3, none⟩ (.slice qn.at_ qn.args.length qn.cap)) := Pt.In.moved (B0 := w3.heap.size) (fun k hk1 hk2 => by
              have hne : k ≠ w.heap.size + 1 := by omega
              rw [Below.heap_setCell _ _ _ _ hne, Below.heap_setCell _ _ _ _ hne, Below.heap_setCell _ _ _ _ hne, Below.heap_setCell _ _ _ _ hne]) (by simp [World.setCell]) qn HQN.out.1 HQN.out.2.1
            generalize (((w4.setCell ⟨w.heap.size + 1, 0, none⟩ (.string qn.dof)).setCell ⟨w.heap.size + 1, 1, none⟩ (.string qn.name)).setCell ⟨w.heap.size + 1, 2, none⟩ (.int .i64 qn.num)).setCell ⟨w.heap.size + 1, 3, none⟩ (.slice qn.at_ qn.args.length qn.cap) = w9 at hs9 hk9 hq9 ⊢
            obtain ⟨r0, r1, r2, r3⟩ := hk9.four
            exact bodyPost_ret (v := .tuple #[qn.val, .int .i64 0]) (by simp [results, Tryz.results14, go_sem, r0, r1, r2, r3, Pt.val]) rfl ⟨hs9, .inr (.inr ⟨HZERO.out, HYES.out, .inr ⟨qn, rfl, hq9, bare_val HQN.out.2.2 HVQ.out.1, fun p hp => by rw [bare_same HQN.out.2.2]; exact HVQ.out.2 p hp⟩⟩)⟩
    · refine stepAt_of _ rfl rfl (fun K hK => ?_)
      go_simp
      have KP := Lib.hid (show Blk (wx1.alloc (.cells #[.string ⟨#[97, 110, 121]⟩, .string ⟨#[]⟩, .int .i64 0, .slice none 0 0] 28)) wx1.heap.size #[.string ⟨#[97, 110, 121]⟩, .string ⟨#[]⟩, .int .i64 0, .slice none 0 0] 28 from Blk.new wx1 _ _)
      have HS2 := Lib.hid (show Below wx1.heap.size wx1 (wx1.alloc (.cells #[.string ⟨#[97, 110, 121]⟩, .string ⟨#[]⟩, .int .i64 0, .slice none 0 0] 28)) from ((Below.refl _ _).alloc (Nat.le_refl _) _))
      have KT := Lib.hid (KT.out.below HS2.out KT.out.lt)
      have HZ2 := Lib.hid (HZ1.out.trans (HS2.out.mono HZ1.out.size))
      refine hK _ _ ⟨HSF.out _ HZ2.out, ?_⟩
      clear hK K
      generalize (wx1.alloc (.cells #[.string ⟨#[97, 110, 121]⟩, .string ⟨#[]⟩, .int .i64 0, .slice none 0 0] 28)) = wx2 at KT KP HS2 HZ2 ⊢
      refine wpOrd_one ?_
      refine stepAt_of _ rfl rfl (fun K hK => ?_)
      go_simp
      have HD := Lib.hid (show Below w.heap.size w wx2 from (HB1.out.trans (HZ2.out.mono HB1.out.size)))
      refine Calls.mono (HROWS.out _ HD.out) ?_
      rintro e wx3 ⟨hb9, v9, rfl, hro⟩
      obtain ⟨rs9, A9, c9, hr1, rfl, hr2, hr3⟩ := hro
      have RO : Hid (RowsO w.heap.size wx3 (.slice A9 ps.length c9) ps ps.length) := Lib.hid ⟨rs9, A9, c9, hr1, rfl, own_wide hr2 HD.out.size, hr3⟩
      have HS3 := Lib.hid (show Below wx2.heap.size wx2 wx3 from hb9)
      have KT := Lib.hid (KT.out.below HS3.out KT.out.lt)
      have KP := Lib.hid (KP.out.below HS3.out KP.out.lt)
      have HZ3 := Lib.hid (HZ2.out.trans (HS3.out.mono HZ2.out.size))
      refine hK _ _ ⟨HSF.out _ HZ3.out, ?_⟩
      clear hK K hb9 hr1 hr2 hr3
      refine wpOrd_one ?_
      refine stepAt_of _ rfl rfl (fun K hK => ?_)
      go_simp
      refine Calls.mono (HSEEK.out _ _ _ _ _ (HB1.out.trans (HZ3.out.mono HB1.out.size)) (HV1.out.next HZ3.out) KT.out KP.out RO.out) ?_
      rintro e wz ⟨hsz, hmid⟩
      have HSZ := Lib.hid hsz
      have HPZ := Lib.hid (show T3 w.heap.size t wz from by
        have k1 := hsz.blk (K1.out.below HZ3.out K1.out.lt) (by decide)
        exact ⟨k1.cell 0, k1.cell 1, k1.cell 2, k1.lt⟩)
      have KRZ := Lib.hid (hsz.blk (KR1.out.below HZ3.out KR1.out.lt) (by decide))
      have HBZ := Lib.hid ((HB1.out.trans (HZ3.out.mono HB1.out.size)).trans (HSZ.out.below (by have := HB1.out.size; have := HZ3.out.size; omega) HZB.out))
      rcases hmid with ⟨rfl, hno⟩ | ⟨hyes, b, o, c', q, rfl, hin, hval⟩
      · have HNO := Lib.hid hno
        clear hno
        refine hK _ _ ⟨HPZ.out, ?_⟩
        clear hK K hsz
        iterate 3
          refine wpOrd_read _ ?_ rfl (by rfl) (fun W hW => ?_) ?_
          rotate_left
          · unfold T3 at hW
            go_simp
            try with_reducible rfl
          simp only [Act.put, List.setIfInBounds_toArray, List.set_cons_zero, List.set_cons_succ]
        iterate 2
          refine wpOrd_one ?_
          refine stepAt_of _ rfl rfl (fun K hK => ?_)
          go_simp
          refine hK _ _ ⟨HPZ.out, ?_⟩
          clear hK K
        refine wpOrd_done ?_
        refine NoPanic.normal ?_
        obtain ⟨r0, r1, r2, r3⟩ := KRZ.out.four
        have rl := KRZ.out.lt
        have d0 := KRZ.out.free 0
        have d1 := KRZ.out.free 1
        have d2 := KRZ.out.free 2
        have d3 := KRZ.out.free 3
        go_wp2_with fail
        obtain ⟨hs9, hk9⟩ := four_set KRZ.out HBZ.out (by omega) (.string ⟨#[]⟩) (.string ⟨#[]⟩) (.int .i64 0) (.slice none 0 0)
        generalize (((wz.setCell ⟨w.heap.size + 1, 0, none⟩ (.string ⟨#[]⟩)).setCell ⟨w.heap.size + 1, 1, none⟩ (.string ⟨#[]⟩)).setCell ⟨w.heap.size + 1, 2, none⟩ (.int .i64 0)).setCell ⟨w.heap.size + 1, 3, none⟩ (.slice none 0 0) = w9 at hs9 hk9 ⊢
        obtain ⟨r0, r1, r2, r3⟩ := hk9.four
        exact bodyPost_ret (v := .tuple #[zeroPat, .int .i64 5]) (by simp [results, Tryz.results14, go_sem, r0, r1, r2, r3, zeroPat, emptyS]) rfl ⟨hs9, .inr (.inl ⟨HZERO.out, HNO.out, rfl⟩)⟩
      · have HYES := Lib.hid hyes
        have HIN := Lib.hid hin
        have HVAL := Lib.hid hval
        clear hyes hin hval
        refine hK _ _ ⟨HPZ.out, ?_⟩
        clear hK K hsz
        iterate 3
          refine wpOrd_read _ ?_ rfl (by rfl) (fun W hW => ?_) ?_
          rotate_left
          · unfold T3 at hW
            go_simp
            try with_reducible rfl
          simp only [Act.put, List.setIfInBounds_toArray, List.set_cons_zero, List.set_cons_succ]
        iterate 2
          refine wpOrd_one ?_
          refine stepAt_of _ rfl rfl (fun K hK => ?_)
          go_simp
          refine hK _ _ ⟨HPZ.out, ?_⟩
          clear hK K
        refine wpOrd_done ?_
        refine NoPanic.normal ?_
        obtain ⟨f0, f1, -, hf1, -⟩ := HSZ.out.flag
        have HF1 := Lib.hid hf1
        have s4 : wz.cell? ⟨Z.b, 4, none⟩ = some (.bool f1) := (hf1.cell 4).trans rfl
        have sl := hf1.lt
        clear hf1
        cases f1
        case true =>
          obtain ⟨r0, r1, r2, r3⟩ := KRZ.out.four
          have rl := KRZ.out.lt
          have d0 := KRZ.out.free 0
          have d1 := KRZ.out.free 1
          have d2 := KRZ.out.free 2
          have d3 := KRZ.out.free 3
          go_wp2_with fail
          obtain ⟨hs9, hk9⟩ := four_set KRZ.out HBZ.out (by omega) (.string ⟨#[]⟩) (.string ⟨#[]⟩) (.int .i64 0) (.slice none 0 0)
          generalize (((wz.setCell ⟨w.heap.size + 1, 0, none⟩ (.string ⟨#[]⟩)).setCell ⟨w.heap.size + 1, 1, none⟩ (.string ⟨#[]⟩)).setCell ⟨w.heap.size + 1, 2, none⟩ (.int .i64 0)).setCell ⟨w.heap.size + 1, 3, none⟩ (.slice none 0 0) = w9 at hs9 hk9 ⊢
          obtain ⟨r0, r1, r2, r3⟩ := hk9.four
          exact bodyPost_ret (v := .tuple #[zeroPat, .int .i64 4]) (by simp [results, Tryz.results14, go_sem, r0, r1, r2, r3, zeroPat, emptyS]) rfl ⟨hs9, .inr (.inr ⟨HZERO.out, HYES.out, .inl rfl⟩)⟩
        case false =>
          have HVQ := Lib.hid (HVAL.out HF1.out)
          obtain ⟨q', b', o', hq', -, hat', hb', z0, z1, z2, z3⟩ := Pt.arg_at (k := 0) HIN.out.1 (Below.refl _ _) (by simp)
          simp only [List.getElem?_cons_zero, Option.some.injEq, Addr.mk.injEq, and_true] at hq' hat'
          subst hq'
          obtain ⟨rfl, rfl⟩ := hat'
          simp only [Nat.zero_mul, Nat.add_zero] at z0 z1 z2 z3
          have HQI := Lib.hid (HIN.out.2.1 q (by simp))
          have HZC := Lib.hid (fun (W : World) (hW : Below wz.heap.size wz W) => (⟨(hW.cell (p := ⟨b, o, none⟩) hb').trans z0, (hW.cell (p := ⟨b, o + 1, none⟩) hb').trans z1, (hW.cell (p := ⟨b, o + 2, none⟩) hb').trans z2, (hW.cell (p := ⟨b, o + 3, none⟩) hb').trans z3⟩ : P4 b o q W))
          have hc1 := HIN.out.2.2.1
          simp only [List.length_cons, List.length_nil] at hc1
          have HCO := Lib.hid (fun (W : World) (hW : Below wz.heap.size wz W) => ofPat_any q W (HQI.out.next hW))
          have HCC := Lib.hid (fun (W : World) (hW : Below wz.heap.size wz W) => clone_pat q W (HQI.out.next hW))
          unfold PatCloned at HCC
          unfold Pt.val at HCO HCC
          go_wp2_with fail
          refine Calls.mono (HCO.out _ (Below.refl _ _)) ?_
          rintro e w2 ⟨rfl, hb2⟩
          have HB2 := Lib.hid (HBZ.out.trans (hb2.mono HBZ.out.size))
          have HZ2' := Lib.hid hb2
          have KR2 := Lib.hid (KRZ.out.below hb2 KRZ.out.lt)
          clear hb2 z0 z1 z2 z3
          go_wp2_with fail
          refine Calls.mono (fits_any _ _ w2) ?_
          rintro e w3 ⟨rfl, hb3⟩
          have HB3 := Lib.hid (HB2.out.trans (hb3.mono HB2.out.size))
          have HZ3' := Lib.hid (HZ2'.out.trans (hb3.mono HZ2'.out.size))
          have KR3 := Lib.hid (KR2.out.below hb3 KR2.out.lt)
          obtain ⟨z0, z1, z2, z3⟩ := HZC.out _ HZ3'.out
          have zl := HZ3'.out.size
          clear hb3
          generalize Sz.fits _ = fb
          cases fb
          case false =>
            obtain ⟨r0, r1, r2, r3⟩ := KR3.out.four
            have rl := KR3.out.lt
            have d0 := KR3.out.free 0
            have d1 := KR3.out.free 1
            have d2 := KR3.out.free 2
            have d3 := KR3.out.free 3
            go_wp2_with fail
            obtain ⟨hs9, hk9⟩ := four_set KR3.out HB3.out (by omega) (.string ⟨#[]⟩) (.string ⟨#[]⟩) (.int .i64 0) (.slice none 0 0)
            generalize (((w3.setCell ⟨w.heap.size + 1, 0, none⟩ (.string ⟨#[]⟩)).setCell ⟨w.heap.size + 1, 1, none⟩ (.string ⟨#[]⟩)).setCell ⟨w.heap.size + 1, 2, none⟩ (.int .i64 0)).setCell ⟨w.heap.size + 1, 3, none⟩ (.slice none 0 0) = w9 at hs9 hk9 ⊢
            obtain ⟨r0, r1, r2, r3⟩ := hk9.four
            exact bodyPost_ret (v := .tuple #[zeroPat, .int .i64 4]) (by simp [results, Tryz.results14, go_sem, r0, r1, r2, r3, zeroPat, emptyS]) rfl ⟨hs9, .inr (.inr ⟨HZERO.out, HYES.out, .inl rfl⟩)⟩
          case true =>
            go_wp2_with fail
            refine Calls.mono (HCC.out _ HZ3'.out) ?_
            rintro e w4 ⟨hb4, qn, rfl, hqi, hqf, hqb⟩
            have HB4 := Lib.hid (HB3.out.trans (hb4.mono HB3.out.size))
            have KR4 := Lib.hid (KR3.out.below hb4 KR3.out.lt)
            have HQN := Lib.hid (And.intro hqi (And.intro hqf hqb))
            have hr3 := KR3.out.lt
            clear hb4 hqi hqf hqb z0 z1 z2 z3
            obtain ⟨r0, r1, r2, r3⟩ := KR4.out.four
            have rl := KR4.out.lt
            have d0 := KR4.out.free 0
            have d1 := KR4.out.free 1
            have d2 := KR4.out.free 2
            have d3 := KR4.out.free 3
            go_wp2_with fail
            obtain ⟨hs9, hk9⟩ := four_set KR4.out HB4.out (by omega) (.string qn.dof) (.string qn.name) (.int .i64 qn.num) (.slice qn.at_ qn.args.length qn.cap)
            have hq9 : qn.In ((((w4.setCell ⟨w.heap.size + 1, 0, none⟩ (.string qn.dof)).setCell ⟨w.heap.size + 1, 1, none⟩ (.string qn.name)).setCell ⟨w.heap.size + 1, 2, none⟩ (.int .i64 qn.num)).setCell ⟨w.heap.size + 1, 3, none⟩ (.slice qn.at_ qn.args.length qn.cap)).heap.size ((((w4.setCell ⟨w.heap.size + 1, 0, none⟩ (.string qn.dof)).setCell ⟨w.heap.size + 1, 1, none⟩ (.string qn.name)).setCell ⟨w.heap.size + 1, 2, none⟩ (.int .i64 qn.num)).setCell ⟨w.heap.size + 1, 3, none⟩ (.slice qn.at_ qn.args.length qn.cap)) := Pt.In.moved (B0 := w3.heap.size) (fun k hk1 hk2 => by
              have hne : k ≠ w.heap.size + 1 := by omega
              rw [Below.heap_setCell _ _ _ _ hne, Below.heap_setCell _ _ _ _ hne, Below.heap_setCell _ _ _ _ hne, Below.heap_setCell _ _ _ _ hne]) (by simp [World.setCell]) qn HQN.out.1 HQN.out.2.1
            generalize (((w4.setCell ⟨w.heap.size + 1, 0, none⟩ (.string qn.dof)).setCell ⟨w.heap.size + 1, 1, none⟩ (.string qn.name)).setCell ⟨w.heap.size + 1, 2, none⟩ (.int .i64 qn.num)).setCell ⟨w.heap.size + 1, 3, none⟩ (.slice qn.at_ qn.args.length qn.cap) = w9 at hs9 hk9 hq9 ⊢
            obtain ⟨r0, r1, r2, r3⟩ := hk9.four
            exact bodyPost_ret (v := .tuple #[qn.val, .int .i64 0]) (by simp [results, Tryz.results14, go_sem, r0, r1, r2, r3, Pt.val]) rfl ⟨hs9, .inr (.inr ⟨HZERO.out, HYES.out, .inr ⟨qn, rfl, hq9, bare_val HQN.out.2.2 HVQ.out.1, fun p hp => by rw [bare_same HQN.out.2.2]; exact HVQ.out.2 p hp⟩⟩)⟩
  · refine stepAt_of _ rfl rfl (fun K hK => ?_)
    go_simp
    have HD := Lib.hid (show Below w.heap.size w w1.drew from (HB1.out.trans (HZ0.out.mono HB1.out.size)).drew)
    refine Calls.mono (HROWS.out _ HD.out) ?_
    rintro e wx1 ⟨hb9, v9, rfl, hro⟩
    obtain ⟨rs9, A9, c9, hr1, rfl, hr2, hr3⟩ := hro
    have RO : Hid (RowsO w.heap.size wx1 (.slice A9 ps.length c9) ps ps.length) := Lib.hid ⟨rs9, A9, c9, hr1, rfl, own_wide hr2 HD.out.size, hr3⟩
    have HS1 := Lib.hid (show Below w1.heap.size w1 wx1 from (Below.refl _ _).drew.trans hb9)
    have HZ1 := Lib.hid (HZ0.out.trans (HS1.out.mono HZ0.out.size))
    refine hK _ _ ⟨HSF.out _ HZ1.out, ?_⟩
    clear hK K hb9 hr1 hr2 hr3
    refine wpOrd_two ?_ ?_
    · refine stepAt_of _ rfl rfl (fun K hK => ?_)
      go_simp
      have KT := Lib.hid (show Blk (wx1.alloc (.cells #[.string t.dof, .string t.name, .slice t.at_ t.args.length t.cap] 25)) wx1.heap.size #[.string t.dof, .string t.name, .slice t.at_ t.args.length t.cap] 25 from Blk.new wx1 _ _)
      have HS2 := Lib.hid (show Below wx1.heap.size wx1 (wx1.alloc (.cells #[.string t.dof, .string t.name, .slice t.at_ t.args.length t.cap] 25)) from ((Below.refl _ _).alloc (Nat.le_refl _) _))
      have RO := Lib.hid (RO.out.keep HS2.out)
      have HZ2 := Lib.hid (HZ1.out.trans (HS2.out.mono HZ1.out.size))
      refine hK _ _ ⟨HSF.out _ HZ2.out, ?_⟩
      clear hK K
      generalize (wx1.alloc (.cells #[.string t.dof, .string t.name, .slice t.at_ t.args.length t.cap] 25)) = wx2 at RO KT HS2 HZ2 ⊢
      refine wpOrd_one ?_
      refine stepAt_of _ rfl rfl (fun K hK => ?_)
      go_simp
      have KP := Lib.hid (show Blk (wx2.alloc (.cells #[.string ⟨#[97, 110, 121]⟩, .string ⟨#[]⟩, .int .i64 0, .slice none 0 0] 28)) wx2.heap.size #[.string ⟨#[97, 110, 121]⟩, .string ⟨#[]⟩, .int .i64 0, .slice none 0 0] 28 from Blk.new wx2 _ _)
      have HS3 := Lib.hid (show Below wx2.heap.size wx2 (wx2.alloc (.cells #[.string ⟨#[97, 110, 121]⟩, .string ⟨#[]⟩, .int .i64 0, .slice none 0 0] 28)) from ((Below.refl _ _).alloc (Nat.le_refl _) _))
      have RO := Lib.hid (RO.out.keep HS3.out)
      have KT := Lib.hid (KT.out.below HS3.out KT.out.lt)
      have HZ3 := Lib.hid (HZ2.out.trans (HS3.out.mono HZ2.out.size))
      refine hK _ _ ⟨HSF.out _ HZ3.out, ?_⟩
      clear hK K
      generalize (wx2.alloc (.cells #[.string ⟨#[97, 110, 121]⟩, .string ⟨#[]⟩, .int .i64 0, .slice none 0 0] 28)) = wx3 at RO KT KP HS3 HZ3 ⊢
      refine wpOrd_one ?_
      refine stepAt_of _ rfl rfl (fun K hK => ?_)
      go_simp
      refine Calls.mono (HSEEK.out _ _ _ _ _ (HB1.out.trans (HZ3.out.mono HB1.out.size)) (HV1.out.next HZ3.out) KT.out KP.out RO.out) ?_
      rintro e wz ⟨hsz, hmid⟩
      have HSZ := Lib.hid hsz
      have HPZ := Lib.hid (show T3 w.heap.size t wz from by
        have k1 := hsz.blk (K1.out.below HZ3.out K1.out.lt) (by decide)
        exact ⟨k1.cell 0, k1.cell 1, k1.cell 2, k1.lt⟩)
      have KRZ := Lib.hid (hsz.blk (KR1.out.below HZ3.out KR1.out.lt) (by decide))
      have HBZ := Lib.hid ((HB1.out.trans (HZ3.out.mono HB1.out.size)).trans (HSZ.out.below (by have := HB1.out.size; have := HZ3.out.size; omega) HZB.out))
      rcases hmid with ⟨rfl, hno⟩ | ⟨hyes, b, o, c', q, rfl, hin, hval⟩
      · have HNO := Lib.hid hno
        clear hno
        refine hK _ _ ⟨HPZ.out, ?_⟩
        clear hK K hsz
        iterate 3
          refine wpOrd_read _ ?_ rfl (by rfl) (fun W hW => ?_) ?_
          rotate_left
          · unfold T3 at hW
            go_simp
            try with_reducible rfl
          simp only [Act.put, List.setIfInBounds_toArray, List.set_cons_zero, List.set_cons_succ]
        iterate 2
          refine wpOrd_one ?_
          refine stepAt_of _ rfl rfl (fun K hK => ?_)
          go_simp
          refine hK _ _ ⟨HPZ.out, ?_⟩
          clear hK K
        refine wpOrd_done ?_
        refine NoPanic.normal ?_
        obtain ⟨r0, r1, r2, r3⟩ := KRZ.out.four
        have rl := KRZ.out.lt
        have d0 := KRZ.out.free 0
        have d1 := KRZ.out.free 1
        have d2 := KRZ.out.free 2
        have d3 := KRZ.out.free 3
        go_wp2_with fail
        obtain ⟨hs9, hk9⟩ := four_set KRZ.out HBZ.out (by omega) (.string ⟨#[]⟩) (.string ⟨#[]⟩) (.int .i64 0) (.slice none 0 0)
        generalize (((wz.setCell ⟨w.heap.size + 1, 0, none⟩ (.string ⟨#[]⟩)).setCell ⟨w.heap.size + 1, 1, none⟩ (.string ⟨#[]⟩)).setCell ⟨w.heap.size + 1, 2, none⟩ (.int .i64 0)).setCell ⟨w.heap.size + 1, 3, none⟩ (.slice none 0 0) = w9 at hs9 hk9 ⊢
        obtain ⟨r0, r1, r2, r3⟩ := hk9.four
        exact bodyPost_ret (v := .tuple #[zeroPat, .int .i64 5]) (by simp [results, Tryz.results14, go_sem, r0, r1, r2, r3, zeroPat, emptyS]) rfl ⟨hs9, .inr (.inl ⟨HZERO.out, HNO.out, rfl⟩)⟩
      · have HYES := Lib.hid hyes
        have HIN := Lib.hid hin
        have HVAL := Lib.hid hval
        clear hyes hin hval
        refine hK _ _ ⟨HPZ.out, ?_⟩
        clear hK K hsz
        iterate 3
          refine wpOrd_read _ ?_ rfl (by rfl) (fun W hW => ?_) ?_
          rotate_left
          · unfold T3 at hW
            go_simp
            try with_reducible rfl
          simp only [Act.put, List.setIfInBounds_toArray, List.set_cons_zero, List.set_cons_succ]
        iterate 2
          refine wpOrd_one ?_
          refine stepAt_of _ rfl rfl (fun K hK => ?_)
          go_simp
          refine hK _ _ ⟨HPZ.out, ?_⟩
          clear hK K
        refine wpOrd_done ?_
        refine NoPanic.normal ?_
        obtain ⟨f0, f1, -, hf1, -⟩ := HSZ.out.flag
        have HF1 := Lib.hid hf1
        have s4 : wz.cell? ⟨Z.b, 4, none⟩ = some (.bool f1) := (hf1.cell 4).trans rfl
        have sl := hf1.lt
        clear hf1
        cases f1
        case true =>
          obtain ⟨r0, r1, r2, r3⟩ := KRZ.out.four
          have rl := KRZ.out.lt
          have d0 := KRZ.out.free 0
          have d1 := KRZ.out.free 1
          have d2 := KRZ.out.free 2
          have d3 := KRZ.out.free 3
          go_wp2_with fail
          obtain ⟨hs9, hk9⟩ := four_set KRZ.out HBZ.out (by omega) (.string ⟨#[]⟩) (.string ⟨#[]⟩) (.int .i64 0) (.slice none 0 0)
          generalize (((wz.setCell ⟨w.heap.size + 1, 0, none⟩ (.string ⟨#[]⟩)).setCell ⟨w.heap.size + 1, 1, none⟩ (.string ⟨#[]⟩)).setCell ⟨w.heap.size + 1, 2, none⟩ (.int .i64 0)).setCell ⟨w.heap.size + 1, 3, none⟩ (.slice none 0 0) = w9 at hs9 hk9 ⊢
          obtain ⟨r0, r1, r2, r3⟩ := hk9.four
          exact bodyPost_ret (v := .tuple #[zeroPat, .int .i64 4]) (by simp [results, Tryz.results14, go_sem, r0, r1, r2, r3, zeroPat, emptyS]) rfl ⟨hs9, .inr (.inr ⟨HZERO.out, HYES.out, .inl rfl⟩)⟩
        case false =>
          have HVQ := Lib.hid (HVAL.out HF1.out)
          obtain ⟨q', b', o', hq', -, hat', hb', z0, z1, z2, z3⟩ := Pt.arg_at (k := 0) HIN.out.1 (Below.refl _ _) (by simp)
          simp only [List.getElem?_cons_zero, Option.some.injEq, Addr.mk.injEq, and_true] at hq' hat'
          subst hq'
          obtain ⟨rfl, rfl⟩ := hat'
          simp only [Nat.zero_mul, Nat.add_zero] at z0 z1 z2 z3
          have HQI := Lib.hid (HIN.out.2.1 q (by simp))
          have HZC := Lib.hid (fun (W : World) (hW : Below wz.heap.size wz W) => (⟨(hW.cell (p := ⟨b, o, none⟩) hb').trans z0, (hW.cell (p := ⟨b, o + 1, none⟩) hb').trans z1, (hW.cell (p := ⟨b, o + 2, none⟩) hb').trans z2, (hW.cell (p := ⟨b, o + 3, none⟩) hb').trans z3⟩ : P4 b o q W))
          have hc1 := HIN.out.2.2.1
          simp only [List.length_cons, List.length_nil] at hc1
          have HCO := Lib.hid (fun (W : World) (hW : Below wz.heap.size wz W) => ofPat_any q W (HQI.out.next hW))
          have HCC := Lib.hid (fun (W : World) (hW : Below wz.heap.size wz W) => clone_pat q W (HQI.out.next hW))
          unfold PatCloned at HCC
          unfold Pt.val at HCO HCC
          go_wp2_with fail
          refine Calls.mono (HCO.out _ (Below.refl _ _)) ?_
          rintro e w2 ⟨rfl, hb2⟩
          have HB2 := Lib.hid (HBZ.out.trans (hb2.mono HBZ.out.size))
          have HZ2' := Lib.hid hb2
          have KR2 := Lib.hid (KRZ.out.below hb2 KRZ.out.lt)
          clear hb2 z0 z1 z2 z3
          go_wp2_with fail
          refine Calls.mono (fits_any _ _ w2) ?_
          rintro e w3 ⟨rfl, hb3⟩
          have HB3 := Lib.hid (HB2.out.trans (hb3.mono HB2.out.size))
          have HZ3' := Lib.hid (HZ2'.out.trans (hb3.mono HZ2'.out.size))
          have KR3 := Lib.hid (KR2.out.below hb3 KR2.out.lt)
          obtain ⟨z0, z1, z2, z3⟩ := HZC.out _ HZ3'.out
          have zl := HZ3'.out.size
          clear hb3
          generalize Sz.fits _ = fb
          cases fb
          case false =>
            obtain ⟨r0, r1, r2, r3⟩ := KR3.out.four
            have rl := KR3.out.lt
            have d0 := KR3.out.free 0
            have d1 := KR3.out.free 1
            have d2 := KR3.out.free 2
            have d3 := KR3.out.free 3
            go_wp2_with fail
            obtain ⟨hs9, hk9⟩ := four_set KR3.out HB3.out (by omega) (.string ⟨#[]⟩) (.string ⟨#[]⟩) (.int .i64 0) (.slice none 0 0)
            generalize (((w3.setCell ⟨w.heap.size + 1, 0, none⟩ (.string ⟨#[]⟩)).setCell ⟨w.heap.size + 1, 1, none⟩ (.string ⟨#[]⟩)).setCell ⟨w.heap.size + 1, 2, none⟩ (.int .i64 0)).setCell ⟨w.heap.size + 1, 3, none⟩ (.slice none 0 0) = w9 at hs9 hk9 ⊢
            obtain ⟨r0, r1, r2, r3⟩ := hk9.four
            exact bodyPost_ret (v := .tuple #[zeroPat, .int .i64 4]) (by simp [results, Tryz.results14, go_sem, r0, r1, r2, r3, zeroPat, emptyS]) rfl ⟨hs9, .inr (.inr ⟨HZERO.out, HYES.out, .inl rfl⟩)⟩
          case true =>
            go_wp2_with fail
            refine Calls.mono (HCC.out _ HZ3'.out) ?_
            rintro e w4 ⟨hb4, qn, rfl, hqi, hqf, hqb⟩
            have HB4 := Lib.hid (HB3.out.trans (hb4.mono HB3.out.size))
            have KR4 := Lib.hid (KR3.out.below hb4 KR3.out.lt)
            have HQN := Lib.hid (And.intro hqi (And.intro hqf hqb))
            have hr3 := KR3.out.lt
            clear hb4 hqi hqf hqb z0 z1 z2 z3
            obtain ⟨r0, r1, r2, r3⟩ := KR4.out.four
            have rl := KR4.out.lt
            have d0 := KR4.out.free 0
            have d1 := KR4.out.free 1
            have d2 := KR4.out.free 2
            have d3 := KR4.out.free 3
            go_wp2_with fail
            obtain ⟨hs9, hk9⟩ := four_set KR4.out HB4.out (by omega) (.string qn.dof) (.string qn.name) (.int .i64 qn.num) (.slice qn.at_ qn.args.length qn.cap)
            have hq9 : qn.In ((((w4.setCell ⟨w.heap.size + 1, 0, none⟩ (.string qn.dof)).setCell ⟨w.heap.size + 1, 1, none⟩ (.string qn.name)).setCell ⟨w.heap.size + 1, 2, none⟩ (.int .i64 qn.num)).setCell ⟨w.heap.size + 1, 3, none⟩ (.slice qn.at_ qn.args.length qn.cap)).heap.size ((((w4.setCell ⟨w.heap.size + 1, 0, none⟩ (.string qn.dof)).setCell ⟨w.heap.size + 1, 1, none⟩ (.string qn.name)).setCell ⟨w.heap.size + 1, 2, none⟩ (.int .i64 qn.num)).setCell ⟨w.heap.size + 1, 3, none⟩ (.slice qn.at_ qn.args.length qn.cap)) := Pt.In.moved (B0 := w3.heap.size) (fun k hk1 hk2 => by
              have hne : k ≠ w.heap.size + 1 := by omega
              rw [Below.heap_setCell _ _ _ _ hne, Below.heap_setCell _ _ _ _ hne, Below.heap_setCell _ _ _ _ hne, Below.heap_setCell _ _ _ _ hne]) (by simp [World.setCell]) qn HQN.out.1 HQN.out.2.1
            generalize (((w4.setCell ⟨w.heap.size + 1, 0, none⟩ (.string qn.dof)).setCell ⟨w.heap.size + 1, 1, none⟩ (.string qn.name)).setCell ⟨w.heap.size + 1, 2, none⟩ (.int .i64 qn.num)).setCell ⟨w.heap.size + 1, 3, none⟩ (.slice qn.at_ qn.args.length qn.cap) = w9 at hs9 hk9 hq9 ⊢
            obtain ⟨r0, r1, r2, r3⟩ := hk9.four
            exact bodyPost_ret (v := .tuple #[qn.val, .int .i64 0]) (by simp [results, Tryz.results14, go_sem, r0, r1, r2, r3, Pt.val]) rfl ⟨hs9, .inr (.inr ⟨HZERO.out, HYES.out, .inr ⟨qn, rfl, hq9, bare_val HQN.out.2.2 HVQ.out.1, fun p hp => by rw [bare_same HQN.out.2.2]; exact HVQ.out.2 p hp⟩⟩)⟩
    · refine stepAt_of _ rfl rfl (fun K hK => ?_)
      go_simp
      have KP := Lib.hid (show Blk (wx1.alloc (.cells #[.string ⟨#[97, 110, 121]⟩, .string ⟨#[]⟩, .int .i64 0, .slice none 0 0] 28)) wx1.heap.size #[.string ⟨#[97, 110, 121]⟩, .string ⟨#[]⟩, .int .i64 0, .slice none 0 0] 28 from Blk.new wx1 _ _)
      have HS2 := Lib.hid (show Below wx1.heap.size wx1 (wx1.alloc (.cells #[.string ⟨#[97, 110, 121]⟩, .string ⟨#[]⟩, .int .i64 0, .slice none 0 0] 28)) from ((Below.refl _ _).alloc (Nat.le_refl _) _))
      have RO := Lib.hid (RO.out.keep HS2.out)
      have HZ2 := Lib.hid (HZ1.out.trans (HS2.out.mono HZ1.out.size))
      refine hK _ _ ⟨HSF.out _ HZ2.out, ?_⟩
      clear hK K
      generalize (wx1.alloc (.cells #[.string ⟨#[97, 110, 121]⟩, .string ⟨#[]⟩, .int .i64 0, .slice none 0 0] 28)) = wx2 at RO KP HS2 HZ2 ⊢
      refine wpOrd_one ?_
      refine stepAt_of _ rfl rfl (fun K hK => ?_)
      go_simp
      have KT := Lib.hid (show Blk (wx2.alloc (.cells #[.string t.dof, .string t.name, .slice t.at_ t.args.length t.cap] 25)) wx2.heap.size #[.string t.dof, .string t.name, .slice t.at_ t.args.length t.cap] 25 from Blk.new wx2 _ _)
      have HS3 := Lib.hid (show Below wx2.heap.size wx2 (wx2.alloc (.cells #[.string t.dof, .string t.name, .slice t.at_ t.args.length t.cap] 25)) from ((Below.refl _ _).alloc (Nat.le_refl _) _))
      have RO := Lib.hid (RO.out.keep HS3.out)
      have KP := Lib.hid (KP.out.below HS3.out KP.out.lt)
      have HZ3 := Lib.hid (HZ2.out.trans (HS3.out.mono HZ2.out.size))
      refine hK _ _ ⟨HSF.out _ HZ3.out, ?_⟩
      clear hK K
      generalize (wx2.alloc (.cells #[.string t.dof, .string t.name, .slice t.at_ t.args.length t.cap] 25)) = wx3 at RO KP KT HS3 HZ3 ⊢
      refine wpOrd_one ?_
      refine stepAt_of _ rfl rfl (fun K hK => ?_)
      go_simp
      refine Calls.mono (HSEEK.out _ _ _ _ _ (HB1.out.trans (HZ3.out.mono HB1.out.size)) (HV1.out.next HZ3.out) KT.out KP.out RO.out) ?_
      rintro e wz ⟨hsz, hmid⟩
      have HSZ := Lib.hid hsz
      have HPZ := Lib.hid (show T3 w.heap.size t wz from by
        have k1 := hsz.blk (K1.out.below HZ3.out K1.out.lt) (by decide)
        exact ⟨k1.cell 0, k1.cell 1, k1.cell 2, k1.lt⟩)
      have KRZ := Lib.hid (hsz.blk (KR1.out.below HZ3.out KR1.out.lt) (by decide))
      have HBZ := Lib.hid ((HB1.out.trans (HZ3.out.mono HB1.out.size)).trans (HSZ.out.below (by have := HB1.out.size; have := HZ3.out.size; omega) HZB.out))
      rcases hmid with ⟨rfl, hno⟩ | ⟨hyes, b, o, c', q, rfl, hin, hval⟩
      · have HNO := Lib.hid hno
        clear hno
        refine hK _ _ ⟨HPZ.out, ?_⟩
        clear hK K hsz
        iterate 3
          refine wpOrd_read _ ?_ rfl (by rfl) (fun W hW => ?_) ?_
          rotate_left
          · unfold T3 at hW
            go_simp
            try with_reducible rfl
          simp only [Act.put, List.setIfInBounds_toArray, List.set_cons_zero, List.set_cons_succ]
        iterate 2
          refine wpOrd_one ?_
          refine stepAt_of _ rfl rfl (fun K hK => ?_)
          go_simp
          refine hK _ _ ⟨HPZ.out, ?_⟩
          clear hK K
        refine wpOrd_done ?_
        refine NoPanic.normal ?_
        obtain ⟨r0, r1, r2, r3⟩ := KRZ.out.four
        have rl := KRZ.out.lt
        have d0 := KRZ.out.free 0
        have d1 := KRZ.out.free 1
        have d2 := KRZ.out.free 2
        have d3 := KRZ.out.free 3
        go_wp2_with fail
        obtain ⟨hs9, hk9⟩ := four_set KRZ.out HBZ.out (by omega) (.string ⟨#[]⟩) (.string ⟨#[]⟩) (.int .i64 0) (.slice none 0 0)
        generalize (((wz.setCell ⟨w.heap.size + 1, 0, none⟩ (.string ⟨#[]⟩)).setCell ⟨w.heap.size + 1, 1, none⟩ (.string ⟨#[]⟩)).setCell ⟨w.heap.size + 1, 2, none⟩ (.int .i64 0)).setCell ⟨w.heap.size + 1, 3, none⟩ (.slice none 0 0) = w9 at hs9 hk9 ⊢
        obtain ⟨r0, r1, r2, r3⟩ := hk9.four
        exact bodyPost_ret (v := .tuple #[zeroPat, .int .i64 5]) (by simp [results, Tryz.results14, go_sem, r0, r1, r2, r3, zeroPat, emptyS]) rfl ⟨hs9, .inr (.inl ⟨HZERO.out, HNO.out, rfl⟩)⟩
      · have HYES := Lib.hid hyes
        have HIN := Lib.hid hin
        have HVAL := Lib.hid hval
        clear hyes hin hval
        refine hK _ _ ⟨HPZ.out, ?_⟩
        clear hK K hsz
        iterate 3
          refine wpOrd_read _ ?_ rfl (by rfl) (fun W hW => ?_) ?_
          rotate_left
          · unfold T3 at hW
            go_simp
            try with_reducible rfl
          simp only [Act.put, List.setIfInBounds_toArray, List.set_cons_zero, List.set_cons_succ]
        iterate 2
          refine wpOrd_one ?_
          refine stepAt_of _ rfl rfl (fun K hK => ?_)
          go_simp
          refine hK _ _ ⟨HPZ.out, ?_⟩
          clear hK K
        refine wpOrd_done ?_
        refine NoPanic.normal ?_
        obtain ⟨f0, f1, -, hf1, -⟩ := HSZ.out.flag
        have HF1 := Lib.hid hf1
        have s4 : wz.cell? ⟨Z.b, 4, none⟩ = some (.bool f1) := (hf1.cell 4).trans rfl
        have sl := hf1.lt
        clear hf1
        cases f1
        case true =>
          obtain ⟨r0, r1, r2, r3⟩ := KRZ.out.four
          have rl := KRZ.out.lt
          have d0 := KRZ.out.free 0
          have d1 := KRZ.out.free 1
          have d2 := KRZ.out.free 2
          have d3 := KRZ.out.free 3
          go_wp2_with fail
          obtain ⟨hs9, hk9⟩ := four_set KRZ.out HBZ.out (by omega) (.string ⟨#[]⟩) (.string ⟨#[]⟩) (.int .i64 0) (.slice none 0 0)
          generalize (((wz.setCell ⟨w.heap.size + 1, 0, none⟩ (.string ⟨#[]⟩)).setCell ⟨w.heap.size + 1, 1, none⟩ (.string ⟨#[]⟩)).setCell ⟨w.heap.size + 1, 2, none⟩ (.int .i64 0)).setCell ⟨w.heap.size + 1, 3, none⟩ (.slice none 0 0) = w9 at hs9 hk9 ⊢
          obtain ⟨r0, r1, r2, r3⟩ := hk9.four
          exact bodyPost_ret (v := .tuple #[zeroPat, .int .i64 4]) (by simp [results, Tryz.results14, go_sem, r0, r1, r2, r3, zeroPat, emptyS]) rfl ⟨hs9, .inr (.inr ⟨HZERO.out, HYES.out, .inl rfl⟩)⟩
        case false =>
          have HVQ := Lib.hid (HVAL.out HF1.out)
          obtain ⟨q', b', o', hq', -, hat', hb', z0, z1, z2, z3⟩ := Pt.arg_at (k := 0) HIN.out.1 (Below.refl _ _) (by simp)
          simp only [List.getElem?_cons_zero, Option.some.injEq, Addr.mk.injEq, and_true] at hq' hat'
          subst hq'
          obtain ⟨rfl, rfl⟩ := hat'
          simp only [Nat.zero_mul, Nat.add_zero] at z0 z1 z2 z3
          have HQI := Lib.hid (HIN.out.2.1 q (by simp))
          have HZC := Lib.hid (fun (W : World) (hW : Below wz.heap.size wz W) => (⟨(hW.cell (p := ⟨b, o, none⟩) hb').trans z0, (hW.cell (p := ⟨b, o + 1, none⟩) hb').trans z1, (hW.cell (p := ⟨b, o + 2, none⟩) hb').trans z2, (hW.cell (p := ⟨b, o + 3, none⟩) hb').trans z3⟩ : P4 b o q W))
          have hc1 := HIN.out.2.2.1
          simp only [List.length_cons, List.length_nil] at hc1
          have HCO := Lib.hid (fun (W : World) (hW : Below wz.heap.size wz W) => ofPat_any q W (HQI.out.next hW))
          have HCC := Lib.hid (fun (W : World) (hW : Below wz.heap.size wz W) => clone_pat q W (HQI.out.next hW))
          unfold PatCloned at HCC
          unfold Pt.val at HCO HCC
          go_wp2_with fail
          refine Calls.mono (HCO.out _ (Below.refl _ _)) ?_
          rintro e w2 ⟨rfl, hb2⟩
          have HB2 := Lib.hid (HBZ.out.trans (hb2.mono HBZ.out.size))
          have HZ2' := Lib.hid hb2
          have KR2 := Lib.hid (KRZ.out.below hb2 KRZ.out.lt)
          clear hb2 z0 z1 z2 z3
          go_wp2_with fail
          refine Calls.mono (fits_any _ _ w2) ?_
          rintro e w3 ⟨rfl, hb3⟩
          have HB3 := Lib.hid (HB2.out.trans (hb3.mono HB2.out.size))
          have HZ3' := Lib.hid (HZ2'.out.trans (hb3.mono HZ2'.out.size))
          have KR3 := Lib.hid (KR2.out.below hb3 KR2.out.lt)
          obtain ⟨z0, z1, z2, z3⟩ := HZC.out _ HZ3'.out
          have zl := HZ3'.out.size
          clear hb3
          generalize Sz.fits _ = fb
          cases fb
          case false =>
            obtain ⟨r0, r1, r2, r3⟩ := KR3.out.four
            have rl := KR3.out.lt
            have d0 := KR3.out.free 0
            have d1 := KR3.out.free 1
            have d2 := KR3.out.free 2
            have d3 := KR3.out.free 3
            go_wp2_with fail
            obtain ⟨hs9, hk9⟩ := four_set KR3.out HB3.out (by omega) (.string ⟨#[]⟩) (.string ⟨#[]⟩) (.int .i64 0) (.slice none 0 0)
            generalize (((w3.setCell ⟨w.heap.size + 1, 0, none⟩ (.string ⟨#[]⟩)).setCell ⟨w.heap.size + 1, 1, none⟩ (.string ⟨#[]⟩)).setCell ⟨w.heap.size + 1, 2, none⟩ (.int .i64 0)).setCell ⟨w.heap.size + 1, 3, none⟩ (.slice none 0 0) = w9 at hs9 hk9 ⊢
            obtain ⟨r0, r1, r2, r3⟩ := hk9.four
            exact bodyPost_ret (v := .tuple #[zeroPat, .int .i64 4]) (by simp [results, Tryz.results14, go_sem, r0, r1, r2, r3, zeroPat, emptyS]) rfl ⟨hs9, .inr (.inr ⟨HZERO.out, HYES.out, .inl rfl⟩)⟩
          case true =>
            go_wp2_with fail
            refine Calls.mono (HCC.out _ HZ3'.out) ?_
            rintro e w4 ⟨hb4, qn, rfl, hqi, hqf, hqb⟩
            have HB4 := Lib.hid (HB3.out.trans (hb4.mono HB3.out.size))
            have KR4 := Lib.hid (KR3.out.below hb4 KR3.out.lt)
            have HQN := Lib.hid (And.intro hqi (And.intro hqf hqb))
            have hr3 := KR3.out.lt
            clear hb4 hqi hqf hqb z0 z1 z2 z3
            obtain ⟨r0, r1, r2, r3⟩ := KR4.out.four
            have rl := KR4.out.lt
            have d0 := KR4.out.free 0
            have d1 := KR4.out.free 1
            have d2 := KR4.out.free 2
            have d3 := KR4.out.free 3
            go_wp2_with fail
            obtain ⟨hs9, hk9⟩ := four_set KR4.out HB4.out (by omega) (.string qn.dof) (.string qn.name) (.int .i64 qn.num) (.slice qn.at_ qn.args.length qn.cap)
            have hq9 : qn.In ((((w4.setCell ⟨w.heap.size + 1, 0, none⟩ (.string qn.dof)).setCell ⟨w.heap.size + 1, 1, none⟩ (.string qn.name)).setCell ⟨w.heap.size + 1, 2, none⟩ (.int .i64 qn.num)).setCell ⟨w.heap.size + 1, 3, none⟩ (.slice qn.at_ qn.args.length qn.cap)).heap.size ((((w4.setCell ⟨w.heap.size + 1, 0, none⟩ (.string qn.dof)).setCell ⟨w.heap.size + 1, 1, none⟩ (.string qn.name)).setCell ⟨w.heap.size + 1, 2, none⟩ (.int .i64 qn.num)).setCell ⟨w.heap.size + 1, 3, none⟩ (.slice qn.at_ qn.args.length qn.cap)) := Pt.In.moved (B0 := w3.heap.size) (fun k hk1 hk2 => by
              have hne : k ≠ w.heap.size + 1 := by omega
              rw [Below.heap_setCell _ _ _ _ hne, Below.heap_setCell _ _ _ _ hne, Below.heap_setCell _ _ _ _ hne, Below.heap_setCell _ _ _ _ hne]) (by simp [World.setCell]) qn HQN.out.1 HQN.out.2.1
            generalize (((w4.setCell ⟨w.heap.size + 1, 0, none⟩ (.string qn.dof)).setCell ⟨w.heap.size + 1, 1, none⟩ (.string qn.name)).setCell ⟨w.heap.size + 1, 2, none⟩ (.int .i64 qn.num)).setCell ⟨w.heap.size + 1, 3, none⟩ (.slice qn.at_ qn.args.length qn.cap) = w9 at hs9 hk9 hq9 ⊢
            obtain ⟨r0, r1, r2, r3⟩ := hk9.four
            exact bodyPost_ret (v := .tuple #[qn.val, .int .i64 0]) (by simp [results, Tryz.results14, go_sem, r0, r1, r2, r3, Pt.val]) rfl ⟨hs9, .inr (.inr ⟨HZERO.out, HYES.out, .inr ⟨qn, rfl, hq9, bare_val HQN.out.2.2 HVQ.out.1, fun p hp => by rw [bare_same HQN.out.2.2]; exact HVQ.out.2 p hp⟩⟩)⟩
  · refine stepAt_of _ rfl rfl (fun K hK => ?_)
    go_simp
    have KP := Lib.hid (show Blk ((w1.alloc (.cells #[.string ⟨#[97, 110, 121]⟩, .string ⟨#[]⟩, .int .i64 0, .slice none 0 0] 28)).drew) w1.heap.size #[.string ⟨#[97, 110, 121]⟩, .string ⟨#[]⟩, .int .i64 0, .slice none 0 0] 28 from Blk.new w1 _ _)
    have HS1 := Lib.hid (show Below w1.heap.size w1 ((w1.alloc (.cells #[.string ⟨#[97, 110, 121]⟩, .string ⟨#[]⟩, .int .i64 0, .slice none 0 0] 28)).drew) from ((Below.refl _ _).alloc (Nat.le_refl _) _).drew)
    have HZ1 := Lib.hid (HZ0.out.trans (HS1.out.mono HZ0.out.size))
    refine hK _ _ ⟨HSF.out _ HZ1.out, ?_⟩
    clear hK K
    generalize ((w1.alloc (.cells #[.string ⟨#[97, 110, 121]⟩, .string ⟨#[]⟩, .int .i64 0, .slice none 0 0] 28)).drew) = wx1 at KP HS1 HZ1 ⊢
    refine wpOrd_two ?_ ?_
    · refine stepAt_of _ rfl rfl (fun K hK => ?_)
      go_simp
      have KT := Lib.hid (show Blk (wx1.alloc (.cells #[.string t.dof, .string t.name, .slice t.at_ t.args.length t.cap] 25)) wx1.heap.size #[.string t.dof, .string t.name, .slice t.at_ t.args.length t.cap] 25 from Blk.new wx1 _ _)
      have HS2 := Lib.hid (show Below wx1.heap.size wx1 (wx1.alloc (.cells #[.string t.dof, .string t.name, .slice t.at_ t.args.length t.cap] 25)) from ((Below.refl _ _).alloc (Nat.le_refl _) _))
      have KP := Lib.hid (KP.out.below HS2.out KP.out.lt)
      have HZ2 := Lib.hid (HZ1.out.trans (HS2.out.mono HZ1.out.size))
      refine hK _ _ ⟨HSF.out _ HZ2.out, ?_⟩
      clear hK K
      generalize (wx1.alloc (.cells #[.string t.dof, .string t.name, .slice t.at_ t.args.length t.cap] 25)) = wx2 at KP KT HS2 HZ2 ⊢
      refine wpOrd_one ?_
      refine stepAt_of _ rfl rfl (fun K hK => ?_)
      go_simp
      have HD := Lib.hid (show Below w.heap.size w wx2 from (HB1.out.trans (HZ2.out.mono HB1.out.size)))
      refine Calls.mono (HROWS.out _ HD.out) ?_
      rintro e wx3 ⟨hb9, v9, rfl, hro⟩
      obtain ⟨rs9, A9, c9, hr1, rfl, hr2, hr3⟩ := hro
      have RO : Hid (RowsO w.heap.size wx3 (.slice A9 ps.length c9) ps ps.length) := Lib.hid ⟨rs9, A9, c9, hr1, rfl, own_wide hr2 HD.out.size, hr3⟩
      have HS3 := Lib.hid (show Below wx2.heap.size wx2 wx3 from hb9)
      have KP := Lib.hid (KP.out.below HS3.out KP.out.lt)
      have KT := Lib.hid (KT.out.below HS3.out KT.out.lt)
      have HZ3 := Lib.hid (HZ2.out.trans (HS3.out.mono HZ2.out.size))
      refine hK _ _ ⟨HSF.out _ HZ3.out, ?_⟩
      clear hK K hb9 hr1 hr2 hr3
      refine wpOrd_one ?_
      refine stepAt_of _ rfl rfl (fun K hK => ?_)
      go_simp
      refine Calls.mono (HSEEK.out _ _ _ _ _ (HB1.out.trans (HZ3.out.mono HB1.out.size)) (HV1.out.next HZ3.out) KT.out KP.out RO.out) ?_
      rintro e wz ⟨hsz, hmid⟩
      have HSZ := Lib.hid hsz
      have HPZ := Lib.hid (show T3 w.heap.size t wz from by
        have k1 := hsz.blk (K1.out.below HZ3.out K1.out.lt) (by decide)
        exact ⟨k1.cell 0, k1.cell 1, k1.cell 2, k1.lt⟩)
      have KRZ := Lib.hid (hsz.blk (KR1.out.below HZ3.out KR1.out.lt) (by decide))
      have HBZ := Lib.hid ((HB1.out.trans (HZ3.out.mono HB1.out.size)).trans (HSZ.out.below (by have := HB1.out.size; have := HZ3.out.size; omega) HZB.out))
      rcases hmid with ⟨rfl, hno⟩ | ⟨hyes, b, o, c', q, rfl, hin, hval⟩
      · have HNO := Lib.hid hno
        clear hno
        refine hK _ _ ⟨HPZ.out, ?_⟩
        clear hK K hsz
        iterate 3
          refine wpOrd_read _ ?_ rfl (by rfl) (fun W hW => ?_) ?_
          rotate_left
          · unfold T3 at hW
            go_simp
            try with_reducible rfl
          simp only [Act.put, List.setIfInBounds_toArray, List.set_cons_zero, List.set_cons_succ]
        iterate 2
          refine wpOrd_one ?_
          refine stepAt_of _ rfl rfl (fun K hK => ?_)
          go_simp
          refine hK _ _ ⟨HPZ.out, ?_⟩
          clear hK K
        refine wpOrd_done ?_
        refine NoPanic.normal ?_
        obtain ⟨r0, r1, r2, r3⟩ := KRZ.out.four
        have rl := KRZ.out.lt
        have d0 := KRZ.out.free 0
        have d1 := KRZ.out.free 1
        have d2 := KRZ.out.free 2
        have d3 := KRZ.out.free 3
        go_wp2_with fail
        obtain ⟨hs9, hk9⟩ := four_set KRZ.out HBZ.out (by omega) (.string ⟨#[]⟩) (.string ⟨#[]⟩) (.int .i64 0) (.slice none 0 0)
        generalize (((wz.setCell ⟨w.heap.size + 1, 0, none⟩ (.string ⟨#[]⟩)).setCell ⟨w.heap.size + 1, 1, none⟩ (.string ⟨#[]⟩)).setCell ⟨w.heap.size + 1, 2, none⟩ (.int .i64 0)).setCell ⟨w.heap.size + 1, 3, none⟩ (.slice none 0 0) = w9 at hs9 hk9 ⊢
        obtain ⟨r0, r1, r2, r3⟩ := hk9.four
        exact bodyPost_ret (v := .tuple #[zeroPat, .int .i64 5]) (by simp [results, Tryz.results14, go_sem, r0, r1, r2, r3, zeroPat, emptyS]) rfl ⟨hs9, .inr (.inl ⟨HZERO.out, HNO.out, rfl⟩)⟩
      · have HYES := Lib.hid hyes
        have HIN := Lib.hid hin
        have HVAL := Lib.hid hval
        clear hyes hin hval
        refine hK _ _ ⟨HPZ.out, ?_⟩
        clear hK K hsz
        iterate 3
          refine wpOrd_read _ ?_ rfl (by rfl) (fun W hW => ?_) ?_
          rotate_left
          · unfold T3 at hW
            go_simp
            try with_reducible rfl
          simp only [Act.put, List.setIfInBounds_toArray, List.set_cons_zero, List.set_cons_succ]
        iterate 2
          refine wpOrd_one ?_
          refine stepAt_of _ rfl rfl (fun K hK => ?_)
          go_simp
          refine hK _ _ ⟨HPZ.out, ?_⟩
          clear hK K
        refine wpOrd_done ?_
        refine NoPanic.normal ?_
        obtain ⟨f0, f1, -, hf1, -⟩ := HSZ.out.flag
        have HF1 := Lib.hid hf1
        have s4 : wz.cell? ⟨Z.b, 4, none⟩ = some (.bool f1) := (hf1.cell 4).trans rfl
        have sl := hf1.lt
        clear hf1
        cases f1
        case true =>
          obtain ⟨r0, r1, r2, r3⟩ := KRZ.out.four
          have rl := KRZ.out.lt
          have d0 := KRZ.out.free 0
          have d1 := KRZ.out.free 1
          have d2 := KRZ.out.free 2
          have d3 := KRZ.out.free 3
          go_wp2_with fail
          obtain ⟨hs9, hk9⟩ := four_set KRZ.out HBZ.out (by omega) (.string ⟨#[]⟩) (.string ⟨#[]⟩) (.int .i64 0) (.slice none 0 0)
          generalize (((wz.setCell ⟨w.heap.size + 1, 0, none⟩ (.string ⟨#[]⟩)).setCell ⟨w.heap.size + 1, 1, none⟩ (.string ⟨#[]⟩)).setCell ⟨w.heap.size + 1, 2, none⟩ (.int .i64 0)).setCell ⟨w.heap.size + 1, 3, none⟩ (.slice none 0 0) = w9 at hs9 hk9 ⊢
          obtain ⟨r0, r1, r2, r3⟩ := hk9.four
          exact bodyPost_ret (v := .tuple #[zeroPat, .int .i64 4]) (by simp [results, Tryz.results14, go_sem, r0, r1, r2, r3, zeroPat, emptyS]) rfl ⟨hs9, .inr (.inr ⟨HZERO.out, HYES.out, .inl rfl⟩)⟩
        case false =>
          have HVQ := Lib.hid (HVAL.out HF1.out)
          obtain ⟨q', b', o', hq', -, hat', hb', z0, z1, z2, z3⟩ := Pt.arg_at (k := 0) HIN.out.1 (Below.refl _ _) (by simp)
          simp only [List.getElem?_cons_zero, Option.some.injEq, Addr.mk.injEq, and_true] at hq' hat'
          subst hq'
          obtain ⟨rfl, rfl⟩ := hat'
          simp only [Nat.zero_mul, Nat.add_zero] at z0 z1 z2 z3
          have HQI := Lib.hid (HIN.out.2.1 q (by simp))
          have HZC := Lib.hid (fun (W : World) (hW : Below wz.heap.size wz W) => (⟨(hW.cell (p := ⟨b, o, none⟩) hb').trans z0, (hW.cell (p := ⟨b, o + 1, none⟩) hb').trans z1, (hW.cell (p := ⟨b, o + 2, none⟩) hb').trans z2, (hW.cell (p := ⟨b, o + 3, none⟩) hb').trans z3⟩ : P4 b o q W))
          have hc1 := HIN.out.2.2.1
          simp only [List.length_cons, List.length_nil] at hc1
          have HCO := Lib.hid (fun (W : World) (hW : Below wz.heap.size wz W) => ofPat_any q W (HQI.out.next hW))
          have HCC := Lib.hid (fun (W : World) (hW : Below wz.heap.size wz W) => clone_pat q W (HQI.out.next hW))
          unfold PatCloned at HCC
          unfold Pt.val at HCO HCC
          go_wp2_with fail
          refine Calls.mono (HCO.out _ (Below.refl _ _)) ?_
          rintro e w2 ⟨rfl, hb2⟩
          have HB2 := Lib.hid (HBZ.out.trans (hb2.mono HBZ.out.size))
          have HZ2' := Lib.hid hb2
          have KR2 := Lib.hid (KRZ.out.below hb2 KRZ.out.lt)
          clear hb2 z0 z1 z2 z3
          go_wp2_with fail
          refine Calls.mono (fits_any _ _ w2) ?_
          rintro e w3 ⟨rfl, hb3⟩
          have HB3 := Lib.hid (HB2.out.trans (hb3.mono HB2.out.size))
          have HZ3' := Lib.hid (HZ2'.out.trans (hb3.mono HZ2'.out.size))
          have KR3 := Lib.hid (KR2.out.below hb3 KR2.out.lt)
          obtain ⟨z0, z1, z2, z3⟩ := HZC.out _ HZ3'.out
          have zl := HZ3'.out.size
          clear hb3
          generalize Sz.fits _ = fb
          cases fb
          case false =>
            obtain ⟨r0, r1, r2, r3⟩ := KR3.out.four
            have rl := KR3.out.lt
            have d0 := KR3.out.free 0
            have d1 := KR3.out.free 1
            have d2 := KR3.out.free 2
            have d3 := KR3.out.free 3
            go_wp2_with fail
            obtain ⟨hs9, hk9⟩ := four_set KR3.out HB3.out (by omega) (.string ⟨#[]⟩) (.string ⟨#[]⟩) (.int .i64 0) (.slice none 0 0)
            generalize (((w3.setCell ⟨w.heap.size + 1, 0, none⟩ (.string ⟨#[]⟩)).setCell ⟨w.heap.size + 1, 1, none⟩ (.string ⟨#[]⟩)).setCell ⟨w.heap.size + 1, 2, none⟩ (.int .i64 0)).setCell ⟨w.heap.size + 1, 3, none⟩ (.slice none 0 0) = w9 at hs9 hk9 ⊢
            obtain ⟨r0, r1, r2, r3⟩ := hk9.four
            exact bodyPost_ret (v := .tuple #[zeroPat, .int .i64 4]) (by simp [results, Tryz.results14, go_sem, r0, r1, r2, r3, zeroPat, emptyS]) rfl ⟨hs9, .inr (.inr ⟨HZERO.out, HYES.out, .inl rfl⟩)⟩
          case true =>
            go_wp2_with fail
            refine Calls.mono (HCC.out _ HZ3'.out) ?_
            rintro e w4 ⟨hb4, qn, rfl, hqi, hqf, hqb⟩
            have HB4 := Lib.hid (HB3.out.trans (hb4.mono HB3.out.size))
            have KR4 := Lib.hid (KR3.out.below hb4 KR3.out.lt)
            have HQN := Lib.hid (And.intro hqi (And.intro hqf hqb))
            have hr3 := KR3.out.lt
            clear hb4 hqi hqf hqb z0 z1 z2 z3
            obtain ⟨r0, r1, r2, r3⟩ := KR4.out.four
            have rl := KR4.out.lt
            have d0 := KR4.out.free 0
            have d1 := KR4.out.free 1
            have d2 := KR4.out.free 2
            have d3 := KR4.out.free 3
            go_wp2_with fail
            obtain ⟨hs9, hk9⟩ := four_set KR4.out HB4.out (by omega) (.string qn.dof) (.string qn.name) (.int .i64 qn.num) (.slice qn.at_ qn.args.length qn.cap)
            have hq9 : qn.In ((((w4.setCell ⟨w.heap.size + 1, 0, none⟩ (.string qn.dof)).setCell ⟨w.heap.size + 1, 1, none⟩ (.string qn.name)).setCell ⟨w.heap.size + 1, 2, none⟩ (.int .i64 qn.num)).setCell ⟨w.heap.size + 1, 3, none⟩ (.slice qn.at_ qn.args.length qn.cap)).heap.size ((((w4.setCell ⟨w.heap.size + 1, 0, none⟩ (.string qn.dof)).setCell ⟨w.heap.size + 1, 1, none⟩ (.string qn.name)).setCell ⟨w.heap.size + 1, 2, none⟩ (.int .i64 qn.num)).setCell ⟨w.heap.size + 1, 3, none⟩ (.slice qn.at_ qn.args.length qn.cap)) := Pt.In.moved (B0 := w3.heap.size) (fun k hk1 hk2 => by
              have hne : k ≠ w.heap.size + 1 := by omega
              rw [Below.heap_setCell _ _ _ _ hne, Below.heap_setCell _ _ _ _ hne, Below.heap_setCell _ _ _ _ hne, Below.heap_setCell _ _ _ _ hne]) (by simp [World.setCell]) qn HQN.out.1 HQN.out.2.1
            generalize (((w4.setCell ⟨w.heap.size + 1, 0, none⟩ (.string qn.dof)).setCell ⟨w.heap.size + 1, 1, none⟩ (.string qn.name)).setCell ⟨w.heap.size + 1, 2, none⟩ (.int .i64 qn.num)).setCell ⟨w.heap.size + 1, 3, none⟩ (.slice qn.at_ qn.args.length qn.cap) = w9 at hs9 hk9 hq9 ⊢
            obtain ⟨r0, r1, r2, r3⟩ := hk9.four
            exact bodyPost_ret (v := .tuple #[qn.val, .int .i64 0]) (by simp [results, Tryz.results14, go_sem, r0, r1, r2, r3, Pt.val]) rfl ⟨hs9, .inr (.inr ⟨HZERO.out, HYES.out, .inr ⟨qn, rfl, hq9, bare_val HQN.out.2.2 HVQ.out.1, fun p hp => by rw [bare_same HQN.out.2.2]; exact HVQ.out.2 p hp⟩⟩)⟩
    · refine stepAt_of _ rfl rfl (fun K hK => ?_)
      go_simp
      have HD := Lib.hid (show Below w.heap.size w wx1 from (HB1.out.trans (HZ1.out.mono HB1.out.size)))
      refine Calls.mono (HROWS.out _ HD.out) ?_
      rintro e wx2 ⟨hb9, v9, rfl, hro⟩
      obtain ⟨rs9, A9, c9, hr1, rfl, hr2, hr3⟩ := hro
      have RO : Hid (RowsO w.heap.size wx2 (.slice A9 ps.length c9) ps ps.length) := Lib.hid ⟨rs9, A9, c9, hr1, rfl, own_wide hr2 HD.out.size, hr3⟩
      have HS2 := Lib.hid (show Below wx1.heap.size wx1 wx2 from hb9)
      have KP := Lib.hid (KP.out.below HS2.out KP.out.lt)
      have HZ2 := Lib.hid (HZ1.out.trans (HS2.out.mono HZ1.out.size))
      refine hK _ _ ⟨HSF.out _ HZ2.out, ?_⟩
      clear hK K hb9 hr1 hr2 hr3
      refine wpOrd_one ?_
      refine stepAt_of _ rfl rfl (fun K hK => ?_)
      go_simp
      have KT := Lib.hid (show Blk (wx2.alloc (.cells #[.string t.dof, .string t.name, .slice t.at_ t.args.length t.cap] 25)) wx2.heap.size #[.string t.dof, .string t.name, .slice t.at_ t.args.length t.cap] 25 from Blk.new wx2 _ _)
      have HS3 := Lib.hid (show Below wx2.heap.size wx2 (wx2.alloc (.cells #[.string t.dof, .string t.name, .slice t.at_ t.args.length t.cap] 25)) from ((Below.refl _ _).alloc (Nat.le_refl _) _))
      have KP := Lib.hid (KP.out.below HS3.out KP.out.lt)
      have RO := Lib.hid (RO.out.keep HS3.out)
      have HZ3 := Lib.hid (HZ2.out.trans (HS3.out.mono HZ2.out.size))
      refine hK _ _ ⟨HSF.out _ HZ3.out, ?_⟩
      clear hK K
      generalize (wx2.alloc (.cells #[.string t.dof, .string t.name, .slice t.at_ t.args.length t.cap] 25)) = wx3 at KP RO KT HS3 HZ3 ⊢
      refine wpOrd_one ?_
      refine stepAt_of _ rfl rfl (fun K hK => ?_)
      go_simp
      refine Calls.mono (HSEEK.out _ _ _ _ _ (HB1.out.trans (HZ3.out.mono HB1.out.size)) (HV1.out.next HZ3.out) KT.out KP.out RO.out) ?_
      rintro e wz ⟨hsz, hmid⟩
      have HSZ := Lib.hid hsz
      have HPZ := Lib.hid (show T3 w.heap.size t wz from by
        have k1 := hsz.blk (K1.out.below HZ3.out K1.out.lt) (by decide)
        exact ⟨k1.cell 0, k1.cell 1, k1.cell 2, k1.lt⟩)
      have KRZ := Lib.hid (hsz.blk (KR1.out.below HZ3.out KR1.out.lt) (by decide))
      have HBZ := Lib.hid ((HB1.out.trans (HZ3.out.mono HB1.out.size)).trans (HSZ.out.below (by have := HB1.out.size; have := HZ3.out.size; omega) HZB.out))
      rcases hmid with ⟨rfl, hno⟩ | ⟨hyes, b, o, c', q, rfl, hin, hval⟩
      · have HNO := Lib.hid hno
        clear hno
        refine hK _ _ ⟨HPZ.out, ?_⟩
        clear hK K hsz
        iterate 3
          refine wpOrd_read _ ?_ rfl (by rfl) (fun W hW => ?_) ?_
          rotate_left
          · unfold T3 at hW
            go_simp
            try with_reducible rfl
          simp only [Act.put, List.setIfInBounds_toArray, List.set_cons_zero, List.set_cons_succ]
        iterate 2
          refine wpOrd_one ?_
          refine stepAt_of _ rfl rfl (fun K hK => ?_)
          go_simp
          refine hK _ _ ⟨HPZ.out, ?_⟩
          clear hK K
        refine wpOrd_done ?_
        refine NoPanic.normal ?_
        obtain ⟨r0, r1, r2, r3⟩ := KRZ.out.four
        have rl := KRZ.out.lt
        have d0 := KRZ.out.free 0
        have d1 := KRZ.out.free 1
        have d2 := KRZ.out.free 2
        have d3 := KRZ.out.free 3
        go_wp2_with fail
        obtain ⟨hs9, hk9⟩ := four_set KRZ.out HBZ.out (by omega) (.string ⟨#[]⟩) (.string ⟨#[]⟩) (.int .i64 0) (.slice none 0 0)
        generalize (((wz.setCell ⟨w.heap.size + 1, 0, none⟩ (.string ⟨#[]⟩)).setCell ⟨w.heap.size + 1, 1, none⟩ (.string ⟨#[]⟩)).setCell ⟨w.heap.size + 1, 2, none⟩ (.int .i64 0)).setCell ⟨w.heap.size + 1, 3, none⟩ (.slice none 0 0) = w9 at hs9 hk9 ⊢
        obtain ⟨r0, r1, r2, r3⟩ := hk9.four
        exact bodyPost_ret (v := .tuple #[zeroPat, .int .i64 5]) (by simp [results, Tryz.results14, go_sem, r0, r1, r2, r3, zeroPat, emptyS]) rfl ⟨hs9, .inr (.inl ⟨HZERO.out, HNO.out, rfl⟩)⟩
      · have HYES := Lib.hid hyes
        have HIN := Lib.hid hin
        have HVAL := Lib.hid hval
        clear hyes hin hval
        refine hK _ _ ⟨HPZ.out, ?_⟩
        clear hK K hsz
        iterate 3
          refine wpOrd_read _ ?_ rfl (by rfl) (fun W hW => ?_) ?_
          rotate_left
          · unfold T3 at hW
            go_simp
            try with_reducible rfl
          simp only [Act.put, List.setIfInBounds_toArray, List.set_cons_zero, List.set_cons_succ]
        iterate 2
          refine wpOrd_one ?_
          refine stepAt_of _ rfl rfl (fun K hK => ?_)
          go_simp
          refine hK _ _ ⟨HPZ.out, ?_⟩
          clear hK K
        refine wpOrd_done ?_
        refine NoPanic.normal ?_
        obtain ⟨f0, f1, -, hf1, -⟩ := HSZ.out.flag
        have HF1 := Lib.hid hf1
        have s4 : wz.cell? ⟨Z.b, 4, none⟩ = some (.bool f1) := (hf1.cell 4).trans rfl
        have sl := hf1.lt
        clear hf1
        cases f1
        case true =>
          obtain ⟨r0, r1, r2, r3⟩ := KRZ.out.four
          have rl := KRZ.out.lt
          have d0 := KRZ.out.free 0
          have d1 := KRZ.out.free 1
          have d2 := KRZ.out.free 2
          have d3 := KRZ.out.free 3
          go_wp2_with fail
          obtain ⟨hs9, hk9⟩ := four_set KRZ.out HBZ.out (by omega) (.string ⟨#[]⟩) (.string ⟨#[]⟩) (.int .i64 0) (.slice none 0 0)
          generalize (((wz.setCell ⟨w.heap.size + 1, 0, none⟩ (.string ⟨#[]⟩)).setCell ⟨w.heap.size + 1, 1, none⟩ (.string ⟨#[]⟩)).setCell ⟨w.heap.size + 1, 2, none⟩ (.int .i64 0)).setCell ⟨w.heap.size + 1, 3, none⟩ (.slice none 0 0) = w9 at hs9 hk9 ⊢
          obtain ⟨r0, r1, r2, r3⟩ := hk9.four
          exact bodyPost_ret (v := .tuple #[zeroPat, .int .i64 4]) (by simp [results, Tryz.results14, go_sem, r0, r1, r2, r3, zeroPat, emptyS]) rfl ⟨hs9, .inr (.inr ⟨HZERO.out, HYES.out, .inl rfl⟩)⟩
        case false =>
          have HVQ := Lib.hid (HVAL.out HF1.out)
          obtain ⟨q', b', o', hq', -, hat', hb', z0, z1, z2, z3⟩ := Pt.arg_at (k := 0) HIN.out.1 (Below.refl _ _) (by simp)
          simp only [List.getElem?_cons_zero, Option.some.injEq, Addr.mk.injEq, and_true] at hq' hat'
          subst hq'
          obtain ⟨rfl, rfl⟩ := hat'
          simp only [Nat.zero_mul, Nat.add_zero] at z0 z1 z2 z3
          have HQI := Lib.hid (HIN.out.2.1 q (by simp))
          have HZC := Lib.hid (fun (W : World) (hW : Below wz.heap.size wz W) => (⟨(hW.cell (p := ⟨b, o, none⟩) hb').trans z0, (hW.cell (p := ⟨b, o + 1, none⟩) hb').trans z1, (hW.cell (p := ⟨b, o + 2, none⟩) hb').trans z2, (hW.cell (p := ⟨b, o + 3, none⟩) hb').trans z3⟩ : P4 b o q W))
          have hc1 := HIN.out.2.2.1
          simp only [List.length_cons, List.length_nil] at hc1
          have HCO := Lib.hid (fun (W : World) (hW : Below wz.heap.size wz W) => ofPat_any q W (HQI.out.next hW))
          have HCC := Lib.hid (fun (W : World) (hW : Below wz.heap.size wz W) => clone_pat q W (HQI.out.next hW))
          unfold PatCloned at HCC
          unfold Pt.val at HCO HCC
          go_wp2_with fail
          refine Calls.mono (HCO.out _ (Below.refl _ _)) ?_
          rintro e w2 ⟨rfl, hb2⟩
          have HB2 := Lib.hid (HBZ.out.trans (hb2.mono HBZ.out.size))
          have HZ2' := Lib.hid hb2
          have KR2 := Lib.hid (KRZ.out.below hb2 KRZ.out.lt)
          clear hb2 z0 z1 z2 z3
          go_wp2_with fail
          refine Calls.mono (fits_any _ _ w2) ?_
          rintro e w3 ⟨rfl, hb3⟩
          have HB3 := Lib.hid (HB2.out.trans (hb3.mono HB2.out.size))
          have HZ3' := Lib.hid (HZ2'.out.trans (hb3.mono HZ2'.out.size))
          have KR3 := Lib.hid (KR2.out.below hb3 KR2.out.lt)
          obtain ⟨z0, z1, z2, z3⟩ := HZC.out _ HZ3'.out
          have zl := HZ3'.out.size
          clear hb3
          generalize Sz.fits _ = fb
          cases fb
          case false =>
            obtain ⟨r0, r1, r2, r3⟩ := KR3.out.four
            have rl := KR3.out.lt
            have d0 := KR3.out.free 0
            have d1 := KR3.out.free 1
            have d2 := KR3.out.free 2
            have d3 := KR3.out.free 3
            go_wp2_with fail
            obtain ⟨hs9, hk9⟩ := four_set KR3.out HB3.out (by omega) (.string ⟨#[]⟩) (.string ⟨#[]⟩) (.int .i64 0) (.slice none 0 0)
            generalize (((w3.setCell ⟨w.heap.size + 1, 0, none⟩ (.string ⟨#[]⟩)).setCell ⟨w.heap.size + 1, 1, none⟩ (.string ⟨#[]⟩)).setCell ⟨w.heap.size + 1, 2, none⟩ (.int .i64 0)).setCell ⟨w.heap.size + 1, 3, none⟩ (.slice none 0 0) = w9 at hs9 hk9 ⊢
            obtain ⟨r0, r1, r2, r3⟩ := hk9.four
            exact bodyPost_ret (v := .tuple #[zeroPat, .int .i64 4]) (by simp [results, Tryz.results14, go_sem, r0, r1, r2, r3, zeroPat, emptyS]) rfl ⟨hs9, .inr (.inr ⟨HZERO.out, HYES.out, .inl rfl⟩)⟩
          case true =>
            go_wp2_with fail
            refine Calls.mono (HCC.out _ HZ3'.out) ?_
            rintro e w4 ⟨hb4, qn, rfl, hqi, hqf, hqb⟩
            have HB4 := Lib.hid (HB3.out.trans (hb4.mono HB3.out.size))
            have KR4 := Lib.hid (KR3.out.below hb4 KR3.out.lt)
            have HQN := Lib.hid (And.intro hqi (And.intro hqf hqb))
            have hr3 := KR3.out.lt
            clear hb4 hqi hqf hqb z0 z1 z2 z3
            obtain ⟨r0, r1, r2, r3⟩ := KR4.out.four
            have rl := KR4.out.lt
            have d0 := KR4.out.free 0
            have d1 := KR4.out.free 1
            have d2 := KR4.out.free 2
            have d3 := KR4.out.free 3
            go_wp2_with fail
            obtain ⟨hs9, hk9⟩ := four_set KR4.out HB4.out (by omega) (.string qn.dof) (.string qn.name) (.int .i64 qn.num) (.slice qn.at_ qn.args.length qn.cap)
            have hq9 : qn.In ((((w4.setCell ⟨w.heap.size + 1, 0, none⟩ (.string qn.dof)).setCell ⟨w.heap.size + 1, 1, none⟩ (.string qn.name)).setCell ⟨w.heap.size + 1, 2, none⟩ (.int .i64 qn.num)).setCell ⟨w.heap.size + 1, 3, none⟩ (.slice qn.at_ qn.args.length qn.cap)).heap.size ((((w4.setCell ⟨w.heap.size + 1, 0, none⟩ (.string qn.dof)).setCell ⟨w.heap.size + 1, 1, none⟩ (.string qn.name)).setCell ⟨w.heap.size + 1, 2, none⟩ (.int .i64 qn.num)).setCell ⟨w.heap.size + 1, 3, none⟩ (.slice qn.at_ qn.args.length qn.cap)) := Pt.In.moved (B0 := w3.heap.size) (fun k hk1 hk2 => by
              have hne : k ≠ w.heap.size + 1 := by omega
              rw [Below.heap_setCell _ _ _ _ hne, Below.heap_setCell _ _ _ _ hne, Below.heap_setCell _ _ _ _ hne, Below.heap_setCell _ _ _ _ hne]) (by simp [World.setCell]) qn HQN.out.1 HQN.out.2.1
            generalize (((w4.setCell ⟨w.heap.size + 1, 0, none⟩ (.string qn.dof)).setCell ⟨w.heap.size + 1, 1, none⟩ (.string qn.name)).setCell ⟨w.heap.size + 1, 2, none⟩ (.int .i64 qn.num)).setCell ⟨w.heap.size + 1, 3, none⟩ (.slice qn.at_ qn.args.length qn.cap) = w9 at hs9 hk9 hq9 ⊢
            obtain ⟨r0, r1, r2, r3⟩ := hk9.four
            exact bodyPost_ret (v := .tuple #[qn.val, .int .i64 0]) (by simp [results, Tryz.results14, go_sem, r0, r1, r2, r3, Pt.val]) rfl ⟨hs9, .inr (.inr ⟨HZERO.out, HYES.out, .inr ⟨qn, rfl, hq9, bare_val HQN.out.2.2 HVQ.out.1, fun p hp => by rw [bare_same HQN.out.2.2]; exact HVQ.out.2 p hp⟩⟩)⟩
end Go.Proofs.YtjeggkfgdhepaaaGreatDoor

/- Rows of indexes: has. -/
set_option linter.unusedVariables false
set_option linter.unusedSimpArgs false
namespace Go.Proofs.YtjeggkfgdhepaaaGreatDoor
open Go.RowKit
open Go.Proofs

def natV (i : Nat) : Value := .int .i64 (i : Int)
/-- A row of indexes. -/
def NatsAt (B : Nat) (w : World) (A : Option Addr) (ns : List Nat) : Prop := RowAt B w 1 A (ns.map fun i => [natV i])
theorem NatsAt.cell {B : Nat} {w w' : World} {A : Option Addr} {ns : List Nat} {k : Nat} (h : NatsAt B w A ns) (hb : Below B w w') (hk : k < ns.length) : ∃ b o x, A = some ⟨b, o, none⟩ ∧ b < B ∧ ns[k]? = some x ∧ w'.cell? ⟨b, o + k, none⟩ = some (.int .i64 (x : Int)) := by
  obtain ⟨b, o, e, hlt, hc⟩ := h (by simp; omega)
  refine ⟨b, o, ns[k], e, hlt, List.getElem?_eq_getElem hk, ?_⟩
  have := hc k [natV ns[k]] (by rw [List.getElem?_map, List.getElem?_eq_getElem hk]; rfl) 0 _ rfl
  rw [Nat.mul_one, Nat.add_zero] at this
  exact (hb.cell (p := ⟨b, o + k, none⟩) hlt).trans this
theorem OwnI.nats {B : Nat} {w : World} {v : Value} {ns : List Nat} (h : OwnI B w v (ns.map natV)) : ∃ A c, v = .slice A ns.length c ∧ NatsAt w.heap.size w A ns := by
  obtain ⟨A, c, rfl, ho⟩ := h
  refine ⟨A, c, by rw [List.length_map], ?_⟩
  have := row_vals ho
  rw [List.map_map] at this
  exact this
set_option maxRecDepth 100000 in
set_option maxHeartbeats 2000000 in
theorem has_any (ns : List Nat) (A : Option Addr) (c : Nat) (n : Int) (w : World) (h : NatsAt w.heap.size w A ns) (hl : ns.length ≤ 1048576) :
    Calls Tryz.prog 19 #[.slice A ns.length c, .int .i64 n] w fun e w' => e = .returned (.bool (ns.any fun i => (i : Int) == n)) ∧ Below w.heap.size w w' := by
  have H := Lib.hid h
  obtain ⟨res, hres⟩ : ∃ r, r = (ns.any fun i => (i : Int) == n) := ⟨_, rfl⟩
  have HRES := Lib.hid hres
  rw [← hres]
  clear hres
  clear h
  go_enter Tryz.func19, Tryz.ntmps19
  go_wp2_with fail
  go_loopw [9] (fun iv wr => ∃ k : Nat, iv = .int .i64 k ∧ k ≤ ns.length ∧ Hid (Below w.heap.size w wr) ∧ Hid (∀ (j x : Nat), j < k → ns[j]? = some x → ((x : Int) == n) = false)) (fun iv _ => ns.length - (intOf iv).toNat)
  case atStart => exact ⟨0, rfl, Nat.zero_le _, Below.refl _ _, Lib.hid fun j x hj => absurd hj (Nat.not_lt_zero _)⟩
  case round =>
    obtain ⟨k, rfl, hk, HB, HN⟩ := hrel
    by_cases hlt : k < ns.length
    · obtain ⟨b, o, x, rfl, hb, hx, x0⟩ := H.out.cell HB.out hlt
      have HX := Lib.hid hx
      obtain ⟨q, hq⟩ : ∃ q, ((x : Int) == n) = q := ⟨_, rfl⟩
      have HQ := Lib.hid hq
      have hs := HB.out.size
      clear hx
      cases q
      case true =>
        have HR := Lib.hid (show res = true by rw [HRES.out, List.any_eq_true]; exact ⟨x, List.mem_of_getElem? HX.out, HQ.out⟩)
        go_wp2_with fail
        go_ret
        exact ⟨by rw [HR.out]; rfl, HB.out⟩
      case false =>
        go_wp2_with fail
        exact ⟨⟨k + 1, by go_num, by omega, HB.out, Lib.hid (fun j y hj hy => by
          by_cases hjk : j < k
          · exact HN.out j y hjk hy
          · have : j = k := by omega
            subst this
            rw [HX.out] at hy
            cases hy
            exact HQ.out)⟩, by simp [intOf]; omega⟩
    · have hk2 : k = ns.length := by omega
      have hn := HN.out
      rw [hk2] at hn
      have HR := Lib.hid (show res = false by
        rw [HRES.out, List.any_eq_false]
        intro x hx
        obtain ⟨j, hj⟩ := List.getElem?_of_mem hx
        have := hn j x (List.getElem?_eq_some_iff.1 hj).1 hj
        rw [this]
        decide)
      clear hn hk2
      go_wp2_with fail
      go_ret
      exact ⟨by rw [HR.out]; rfl, HB.out⟩
end Go.Proofs.YtjeggkfgdhepaaaGreatDoor

/- Small things for the laws on lists and values. -/
set_option linter.unusedVariables false
set_option linter.unusedSimpArgs false
namespace Go.Proofs.YtjeggkfgdhepaaaGreatDoor
open Go.RowKit
open Go.Proofs
open Go.Maps

theorem idle_any {l : List Dt} {t : Ty} {ps : List Pt} {n k : Nat} (hk : k < n) : ((idleN l t ps n).any fun i => (i : Int) == (k : Int)) = idle l t ps k := by
  rw [Bool.eq_iff_iff, List.any_eq_true]
  constructor
  · rintro ⟨i, hi, he⟩
    have : i = k := by simp at he; omega
    subst this
    exact (idleN_mem.1 hi).2
  · intro h
    exact ⟨k, idleN_mem.2 ⟨hk, h⟩, by simp⟩
theorem idleN_len (l : List Dt) (t : Ty) (ps : List Pt) (k : Nat) : (idleN l t ps k).length ≤ k := by
  have := idleL_len l t ps k
  unfold idleL at this
  rwa [List.length_map] at this
theorem val_of {l : List Dt} (hr : Right l) {t : Ty} (ht : okT l t) {v : Pt} (hp : v.patB = true) (hv : v.isVal l t = true) : Val l t v ∧ v.valueB = true := by
  refine ⟨⟨patB_well hp, hv⟩, ?_⟩
  unfold Pt.valueB
  rw [hp, val_binds hr v t ht (patB_well hp) hv]
  rfl
theorem first_of {w w' : World} {e : Ending} {ps : List Pt} {v : Pt} (hv : v.valueB = true) (hps : ∀ p ∈ ps, p.patB = true) (h : FirstPost w ps v e w') : Below w.heap.size w w' ∧ e = .returned (.tuple #[.int .i64 (firstOf ps v), .int .i64 0]) := by
  obtain ⟨h1, h2⟩ := h
  have : (v.valueB && ps.all Pt.patB) = true := by
    rw [hv, Bool.true_and, List.all_eq_true]
    exact hps
  rw [this] at h2
  exact ⟨h1, h2⟩
end Go.Proofs.YtjeggkfgdhepaaaGreatDoor

/- The law MatchFirst, walked. -/
set_option linter.unusedVariables false
set_option linter.unusedSimpArgs false
namespace Go.Proofs.YtjeggkfgdhepaaaGreatDoor
open Go.RowKit
open Go.Proofs
open Go.Maps

theorem miss_brief {l : List Dt} {t : Ty} {ps : List Pt} {w w' : World} {e : Ending} (h : MissPost l t ps w e w') : Below w.heap.size w w' ∧ ∃ (p : Pt) (f : Int), e = .returned (.tuple #[p.val, .int .i64 f]) ∧ (f = 5 → askedErr l t ps = 0 → ¬Useful l [t] (oneCol ps) [anyPt]) := by
  obtain ⟨hb, ⟨h1, rfl⟩ | ⟨h1, h2, rfl⟩ | ⟨h1, h2, rfl | ⟨q, rfl, -⟩⟩⟩ := h
  · exact ⟨hb, .mk emptyS emptyS 0 none 0 [], _, rfl, fun _ h => absurd h h1⟩
  · exact ⟨hb, .mk emptyS emptyS 0 none 0 [], _, rfl, fun _ _ => h2⟩
  · exact ⟨hb, .mk emptyS emptyS 0 none 0 [], _, rfl, fun h _ => by cases h⟩
  · exact ⟨hb, q, _, rfl, fun h _ => by cases h⟩
theorem missed {l : List Dt} {t : Ty} {ps : List Pt} {v : Pt} (hv : Val l t v) (h : ∀ (j : Nat) (q : Pt), ps[j]? = some q → q.matchB v = false) : Useful l [t] (oneCol ps) [anyPt] := by
  refine ⟨[v], vals_one.2 hv, ?_, fun r hr => ?_⟩
  · rw [matchAll_cons, wild_of anyPt (by unfold anyPt; decide +kernel)]
    rfl
  · unfold oneCol at hr
    obtain ⟨q, hq, rfl⟩ := List.mem_map.1 hr
    obtain ⟨j, hj⟩ := List.getElem?_of_mem hq
    rw [matchAll_cons, h j q hj]
    rfl
/-- The first match is no useless pattern, and there is one if nothing is missing. -/
theorem first_right {l : List Dt} {t : Ty} {ps : List Pt} {v : Pt} (hv : Val l t v) : ((idleN l t ps ps.length).any fun i => (i : Int) == firstOf ps v) = false ∧ (firstOf ps v < 0 → Useful l [t] (oneCol ps) [anyPt]) ∧ -1 ≤ firstOf ps v ∧ firstOf ps v ≤ ps.length := by
  rcases firstOf_cases ps v with ⟨i, q, h1, h2, h3, h4⟩ | ⟨h1, h2⟩
  · have hlt := (List.getElem?_eq_some_iff.1 h1).1
    rw [h4, idle_any hlt]
    refine ⟨?_, fun h => by omega, by omega, by omega⟩
    cases h : idle l t ps i with
    | false => rfl
    | true => exact absurd (first_useful hv h1 h2 h3) ((idle_iff h1).1 h)
  · rw [h2]
    refine ⟨?_, fun _ => missed hv h1, by omega, by omega⟩
    rw [List.any_eq_false]
    intro x _
    simp <;> omega
set_option maxRecDepth 100000 in
set_option maxHeartbeats 16000000 in
theorem first_law (A : Option Addr) (l : List Dt) (c : Nat) (t : Ty) (Ap : Option Addr) (ps : List Pt) (cp : Nat) (v : Pt) (w : World) (h : AskIn w A l t Ap ps) (hcap : ps.length ≤ cp) (hv : v.In w.heap.size w) (hvb : v.binds.length ≤ 1048576) :
    Calls Tryz.prog 8 #[.slice A l.length c, t.val, .slice Ap ps.length cp, v.val] w fun e w' => e = .returned (.bool true) ∧ Below w.heap.size w w' := by
  have H := Lib.hid h
  have HAQ := Lib.hid (asked_iff (l := l) (t := t) h.count)
  have HU := Lib.hid (fun (W : World) (hW : Below w.heap.size w W) => useless_any A l c t Ap ps cp W (h.next hW) hcap)
  have HM := Lib.hid (fun (W : World) (hW : Below w.heap.size w W) => Calls.mono (missing_any A l c t Ap ps cp W (h.next hW)) (fun e w' hp => miss_brief hp))
  have HVF := Lib.hid (fun (W : World) (hW : Below w.heap.size w W) => validFlat_any v W (h.env.next hW) (hv.next hW) hvb)
  have HIV := Lib.hid (fun (ha : Asked l t ps) (hb : v.patB = true) (W : World) (hW : Below w.heap.size w W) => isVal_any A l c ha.right v t W (h.dts.next hW) (hv.next hW) (patB_well hb) (h.ty.next hW) ha.ty)
  have HF1 := Lib.hid (fun (W : World) (hW : Below w.heap.size w W) => pFirst_any ps Ap cp v W (h.env.next hW) (h.pts.at_ hW hW.size) (hv.next hW) hvb)
  have HAW := Lib.hid (fun (W : World) (hW : Below w.heap.size w W) => awake_any W (h.env.next hW))
  have HVO := Lib.hid (fun (ha : Asked l t ps) (hb : v.patB = true) (hv : v.isVal l t = true) => val_of ha.right ha.ty hb hv)
  have hpl := h.pts.len
  have HB0 := Lib.hid (((Below.refl w.heap.size w).alloc (Nat.le_refl _) (.cells #[.string t.dof, .string t.name, .slice t.at_ t.args.length t.cap] 25)).alloc (by simp) (.cells #[.string v.dof, .string v.name, .int .i64 v.num, .slice v.at_ v.args.length v.cap] 28))
  have K1 := Lib.hid ((Blk.new w #[.string t.dof, .string t.name, .slice t.at_ t.args.length t.cap] 25).alloc (.cells #[.string v.dof, .string v.name, .int .i64 v.num, .slice v.at_ v.args.length v.cap] 28))
  have K2 := Lib.hid (Blk.new' (w.alloc (.cells #[.string t.dof, .string t.name, .slice t.at_ t.args.length t.cap] 25)) #[.string v.dof, .string v.name, .int .i64 v.num, .slice v.at_ v.args.length v.cap] 28 (w.heap.size + 1) (by simp))
  unfold UselessPost at HU
  obtain ⟨er, her⟩ : ∃ er, askedErr l t ps = er := ⟨_, rfl⟩
  obtain ⟨pb, hpb⟩ : ∃ pb, v.patB = pb := ⟨_, rfl⟩
  obtain ⟨vb, hvv⟩ : ∃ vb, v.isVal l t = vb := ⟨_, rfl⟩
  rw [her] at HU HAQ HM
  rw [hpb] at HVF HIV HVO
  rw [hvv] at HIV HVO
  clear h hv hcap hvb her hpb hvv
  unfold Ty.val Pt.val at *
  go_enter Tryz.func8, Tryz.ntmps8
  go_wp2_with fail
  generalize (w.alloc (.cells #[.string t.dof, .string t.name, .slice t.at_ t.args.length t.cap] 25)).alloc (.cells #[.string v.dof, .string v.name, .int .i64 v.num, .slice v.at_ v.args.length v.cap] 28) = w0 at HB0 K1 K2 ⊢
  refine Calls.mono (HU.out _ HB0.out) ?_
  rintro e w1 ⟨hb1, hres1⟩
  have HRES1 := Lib.hid hres1
  have HB1 := Lib.hid (HB0.out.trans (hb1.mono HB0.out.size))
  have K11 := Lib.hid (K1.out.below hb1 K1.out.lt)
  have K21 := Lib.hid (K2.out.below hb1 K2.out.lt)
  obtain ⟨y0, y1, y2⟩ := K11.out.three
  have yl := K11.out.lt
  clear hb1 hres1
  by_cases hne : er = 0
  case neg =>
    have hrr : e = .returned (.tuple #[.slice none 0 0, .int .i64 er]) := by
      rcases HRES1.out with ⟨h0, -⟩ | ⟨-, h1⟩
      · exact absurd h0 hne
      · exact h1
    subst hrr
    have hne2 : (er == 0) = false := by simpa using hne
    have hne3 : (er != 0) = true := by simpa using hne
    clear HRES1 hne
    go_wp2_with fail
    refine Calls.mono (HM.out _ HB1.out) ?_
    rintro e w2 ⟨hb2, p, f, rfl, -⟩
    have HB2 := Lib.hid (HB1.out.trans (hb2.mono HB1.out.size))
    have HB3 := Lib.hid (HB2.out.alloc HB2.out.size (.cells #[.string p.dof, .string p.name, .int .i64 p.num, .slice p.at_ p.args.length p.cap] 28))
    clear hb2 y0 y1 y2 yl
    go_wp2_with fail
    refine Calls.mono (HAW.out _ HB3.out) ?_
    rintro e w4 ⟨rfl, hb4⟩
    have HB4 := Lib.hid (HB3.out.trans (hb4.mono HB3.out.size))
    clear hb4
    go_wp2_with fail
    go_ret
    exact ⟨rfl, HB4.out⟩
  subst hne
  have HASKED := Lib.hid (HAQ.out.1 rfl)
  have hl12 := HASKED.out.len
  obtain ⟨v1, rfl, hown1⟩ : ∃ v1, e = .returned (.tuple #[v1, .int .i64 0]) ∧ OwnI w0.heap.size w1 v1 (idleL l t ps ps.length) := by
    rcases HRES1.out with ⟨-, h⟩ | ⟨h1, -⟩
    · exact h
    · exact absurd rfl h1
  obtain ⟨A1, c1, rfl, hn1⟩ := OwnI.nats (show OwnI w0.heap.size w1 v1 ((idleN l t ps ps.length).map natV) from hown1)
  have HHAS := Lib.hid (fun (W : World) (hW : Below w1.heap.size w1 W) (k : Int) => has_any (idleN l t ps ps.length) A1 c1 k W ((hn1.keep hW).wider hW.size) (by have := idleN_len l t ps ps.length; omega))
  clear hown1 hn1 HRES1
  go_wp2_with fail
  refine Calls.mono (HM.out _ HB1.out) ?_
  rintro e w2 ⟨hb2, p, f, rfl, hfive⟩
  have HFIVE := Lib.hid (fun hf => hfive hf (by simp))
  have HBA := Lib.hid ((Below.refl w2.heap.size w2).alloc (Nat.le_refl _) (.cells #[.string p.dof, .string p.name, .int .i64 p.num, .slice p.at_ p.args.length p.cap] 28))
  have HC2 := Lib.hid (hb2.trans (HBA.out.mono hb2.size))
  have HB2 := Lib.hid (HB1.out.trans (HC2.out.mono HB1.out.size))
  have K12 := Lib.hid (K11.out.below HC2.out K11.out.lt)
  have K22 := Lib.hid (K21.out.below HC2.out K21.out.lt)
  have k9 := (K21.out.below hb2 K21.out.lt)
  obtain ⟨z0, z1, z2, z3⟩ := k9.four
  have zl := k9.lt
  clear hb2 y0 y1 y2 yl hfive k9
  go_wp2_with fail
  clear z0 z1 z2 z3 zl
  generalize w2.alloc (.cells #[.string p.dof, .string p.name, .int .i64 p.num, .slice p.at_ p.args.length p.cap] 28) = w3 at HBA HC2 HB2 K12 K22 ⊢
  refine Calls.mono (HVF.out _ HB2.out) ?_
  rintro e w4 ⟨rfl, hb4⟩
  have HB4 := Lib.hid (HB2.out.trans (hb4.mono HB2.out.size))
  have HC4 := Lib.hid (HC2.out.trans (hb4.mono HC2.out.size))
  have K14 := Lib.hid (K12.out.below hb4 K12.out.lt)
  have K24 := Lib.hid (K22.out.below hb4 K22.out.lt)
  clear hb4
  cases pb
  case false =>
    go_wp2_with fail
    refine Calls.mono (HAW.out _ HB4.out) ?_
    rintro e w5 ⟨rfl, hb5⟩
    have HB5 := Lib.hid (HB4.out.trans (hb5.mono HB4.out.size))
    clear hb5
    go_wp2_with fail
    go_ret
    exact ⟨rfl, HB5.out⟩
  have HIV2 := Lib.hid (HIV.out HASKED.out rfl)
  obtain ⟨y0, y1, y2⟩ := K14.out.three
  have yl := K14.out.lt
  obtain ⟨z0, z1, z2, z3⟩ := K24.out.four
  have zl := K24.out.lt
  go_wp2_with fail
  refine Calls.mono (HIV2.out _ HB4.out) ?_
  rintro e w5 ⟨rfl, hb5⟩
  have HB5 := Lib.hid (HB4.out.trans (hb5.mono HB4.out.size))
  have HC5 := Lib.hid (HC4.out.trans (hb5.mono HC4.out.size))
  have K25 := Lib.hid (K24.out.below hb5 K24.out.lt)
  clear hb5 y0 y1 y2 yl z0 z1 z2 z3 zl
  cases vb
  case false =>
    go_wp2_with fail
    refine Calls.mono (HAW.out _ HB5.out) ?_
    rintro e w6 ⟨rfl, hb6⟩
    have HB6 := Lib.hid (HB5.out.trans (hb6.mono HB5.out.size))
    clear hb6
    go_wp2_with fail
    go_ret
    exact ⟨rfl, HB6.out⟩
  obtain ⟨hval, hvalb⟩ := HVO.out HASKED.out (by simp) (by simp)
  have HVALB := Lib.hid hvalb
  obtain ⟨hr1, hr2, hr3, hr4⟩ := first_right (ps := ps) hval
  have HR1 := Lib.hid hr1
  have HR2 := Lib.hid hr2
  obtain ⟨z0, z1, z2, z3⟩ := K25.out.four
  have zl := K25.out.lt
  clear hval hvalb HIV HIV2 HVO HU HM hr1 hr2
  go_wp2_with fail
  refine Calls.mono (HF1.out _ HB5.out) ?_
  rintro e w6 hpost6
  obtain ⟨hb6, rfl⟩ := first_of HVALB.out (fun p hp => (HASKED.out.pats p hp).1) hpost6
  have HB6 := Lib.hid (HB5.out.trans (hb6.mono HB5.out.size))
  have HC6 := Lib.hid (HC5.out.trans (hb6.mono HC5.out.size))
  clear hb6 z0 z1 z2 z3 zl hpost6
  have hhas := HHAS.out _ HC6.out (firstOf ps v)
  rw [HR1.out] at hhas
  have HH := Lib.hid hhas
  clear hhas HHAS HR1
  obtain ⟨fi, hfi⟩ : ∃ fi, firstOf ps v = fi := ⟨_, rfl⟩
  rw [hfi] at HH HR2 hr3 hr4 ⊢
  clear hfi
  by_cases hneg : fi < 0
  · have hf5 : f ≠ 5 := fun h => HFIVE.out h (HR2.out hneg)
    have hf6 : (f == 5) = false := by simpa using hf5
    clear hf5
    go_wp2_with fail
    refine Calls.mono HH.out ?_
    rintro e w7 ⟨rfl, hb7⟩
    have HB7 := Lib.hid (HB6.out.trans (hb7.mono HB6.out.size))
    clear hb7
    go_wp2_with fail
    refine Calls.mono (HAW.out _ HB7.out) ?_
    rintro e w8 ⟨rfl, hb8⟩
    have HB8 := Lib.hid (HB7.out.trans (hb8.mono HB7.out.size))
    clear hb8
    go_wp2_with fail
    go_ret
    exact ⟨rfl, HB8.out⟩
  · obtain ⟨b5, hf6⟩ : ∃ b, (f == 5) = b := ⟨_, rfl⟩
    cases b5
    all_goals
      go_wp2_with fail
      refine Calls.mono HH.out ?_
      rintro e w7 ⟨rfl, hb7⟩
      have HB7 := Lib.hid (HB6.out.trans (hb7.mono HB6.out.size))
      clear hb7
      go_wp2_with fail
      refine Calls.mono (HAW.out _ HB7.out) ?_
      rintro e w8 ⟨rfl, hb8⟩
      have HB8 := Lib.hid (HB7.out.trans (hb8.mono HB7.out.size))
      clear hb8
      go_wp2_with fail
      go_ret
      exact ⟨rfl, HB8.out⟩
end Go.Proofs.YtjeggkfgdhepaaaGreatDoor
