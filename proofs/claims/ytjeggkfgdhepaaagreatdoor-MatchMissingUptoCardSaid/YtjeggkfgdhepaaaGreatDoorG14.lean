/- The reference's heads: shapes of pairs, lists, bools and units. -/
import Derived.Test.YtjeggkfgdhepaaaGreatDoorG13
set_option linter.unusedVariables false
set_option linter.unusedSimpArgs false
namespace Go.Proofs.YtjeggkfgdhepaaaGreatDoor
open Go.RowKit
open Go.Proofs
open Go.Maps
structure HeadOk (l : List Dt) (t : Ty) (f : Form) (h : Pt) : Prop where
 head : Head h f
 len : h.args.length = f.types.length
 parts : f.types = partsD l t h.dof h.name
 two : f.types.length ≤ 2
def HeadsPost (l : List Dt) (t : Ty) (col : List Pt) (w : World) (e : Ending) (w' : World) : Prop :=
 Below w.heap.size w w' ∧ ∃ (A : Option Addr) (c : Nat) (hs : List Pt) (fs : List Form), e = .returned (.slice A hs.length c) ∧ RowAt w'.heap.size w' 4 A (hs.map Pt.cells) ∧ (∀ h ∈ hs, h.In w'.heap.size w') ∧ hs.length ≤ 1099511627776 ∧ IsForms l t col fs ∧ F2 (HeadOk l t) fs hs
theorem flat_in3 (B : Nat) (w : World) (d : ByteArray) (n : Int) (hd : d.size ≤ 1099511627776) (hn : -9223372036854775808 ≤ n ∧ n ≤ 9223372036854775807) : (Pt.mk d emptyS n none 0 []).In B w := flat_in B w d emptyS n hd (by decide) hn
theorem heads_fin {l : List Dt} {t : Ty} {col : List Pt} {w w' : World} {g : Nat} {T : TypeId} {cs : Array Value} (hb : Below w.heap.size w w') (hs : List Pt) (fs : List Form) (hk : Blk w' g cs T) (hc : cs = ((hs.map Pt.cells).flatten).toArray) (hin : ∀ h ∈ hs, h.In w'.heap.size w') (hl : hs.length ≤ 1099511627776) (hf : IsForms l t col fs) (h2 : F2 (HeadOk l t) fs hs) (n c : Nat) (hn : n = hs.length) :
  HeadsPost l t col w (.returned (.slice (some ⟨g, 0, none⟩) n c)) w' := ⟨hb, some ⟨g, 0, none⟩, c, hs, fs, by rw [hn], pats_blk hs hk hc, hin, hl, hf, h2⟩
theorem parts_flat (l : List Dt) (t : Ty) (d : ByteArray) (h : d = dUnit ∨ d = dBool ∨ d = dNil ∨ d = dInt) : partsD l t d emptyS = [] := by
 unfold partsD isDo
 rcases h with rfl | rfl | rfl | rfl
 ·rw [l_unit]; rfl
 ·rw [l_bool]; rfl
 ·rw [l_nil]; rfl
 ·rw [l_int]; rfl
theorem head_flat (l : List Dt) (t : Ty) (d : ByteArray) (n : Int) (h : d = dUnit ∨ d = dBool ∨ d = dNil ∨ d = dInt) : HeadOk l t ⟨d, emptyS, n, []⟩ (.mk d emptyS n none 0 []) := ⟨⟨rfl, rfl, rfl⟩, rfl, (parts_flat l t d h).symm, by simp⟩
def twoC : Array Value := #[.string ⟨#[97, 110, 121]⟩, .string ⟨#[]⟩, .int .i64 0, .slice none 0 0, .string ⟨#[97, 110, 121]⟩, .string ⟨#[]⟩, .int .i64 0, .slice none 0 0]
theorem two_row {w : World} {g : Nat} {T : TypeId} (h : Blk w g twoC T) : RowAt w.heap.size w 4 (some ⟨g, 0, none⟩) ([anyPt, anyPt].map Pt.cells) := pats_blk [anyPt, anyPt] h rfl
theorem two_in {w : World} {g : Nat} {T : TypeId} (h : Blk w g twoC T) (d : ByteArray) (hd : d.size ≤ 1099511627776) : (Pt.mk d emptyS 0 (some ⟨g, 0, none⟩) 2 [anyPt, anyPt]).In w.heap.size w :=
 Pt.In_mk.2 ⟨hd, (by decide : emptyS.size ≤ 1099511627776), ⟨by decide, by decide⟩, by simp, ⟨by simp, fun h => (by cases h)⟩, two_row h, fun p hp => by simp only [List.mem_cons, List.not_mem_nil, or_false] at hp; rcases hp with rfl | rfl <;> exact anyPt_in _ _⟩
section
variable (A : Option Addr) (l : List Dt) (c : Nat) (t : Ty) (Ac : Option Addr) (col : List Pt) (cc : Nat) (w : World)
set_option maxRecDepth 100000 in
set_option maxHeartbeats 4000000 in
theorem heads_unit (hd : isDo [117, 110, 105, 116] t.dof = true) : Calls Tryz.prog 81 #[.slice A l.length c, t.val, .slice Ac col.length cc] w (HeadsPost l t col w) := by
 have hp : (t.dof.toList == [117, 110, 105, 116]) = true := hd
 have HB0 := Lib.hid (((Below.refl w.heap.size w).alloc (Nat.le_refl _) (.cells #[.string t.dof, .string t.name, .slice t.at_ t.args.length t.cap] 25)).alloc (by simp) (.cells twoC 28))
 have HPOST := Lib.hid (fun (w' : World) (g : Nat) (hb : Below w.heap.size w w') (hk : Blk w' g #[.string ⟨#[117, 110, 105, 116]⟩, .string ⟨#[]⟩, .int .i64 0, .slice none 0 0] 28) =>
  heads_fin (l := l) (t := t) (col := col) hb [.mk dUnit emptyS 0 none 0 []] [⟨dUnit, emptyS, 0, []⟩] hk rfl (fun h hh => by simp only [List.mem_cons, List.not_mem_nil, or_false] at hh; subst hh; exact flat_in3 _ _ _ _ (by decide) (by decide)) (by simp) (.inr (.inr (.inr (.inl ⟨hd, rfl⟩)))) (.cons (head_flat l t _ _ (by simp)) .nil) 1 1 rfl)
 unfold twoC at HB0
 unfold Ty.val
 go_enter Tryz.func81, Tryz.ntmps81
 go_wp2_with fail
 have HB1 := Lib.hid (HB0.out.alloc HB0.out.size (.cells #[.string ⟨#[117, 110, 105, 116]⟩, .string ⟨#[]⟩, .int .i64 0, .slice none 0 0] 28))
 exact bodyPost_ret (v := .slice (some ⟨w.heap.size + 1 + 1, 0, none⟩) 1 1) (by simp [results, Tryz.results81, go_sem]) rfl (HPOST.out _ _ HB1.out (Blk.new' _ _ _ _ (by simp)))
set_option maxRecDepth 100000 in
set_option maxHeartbeats 4000000 in
theorem heads_bool (hd : isDo [98, 111, 111, 108] t.dof = true) : Calls Tryz.prog 81 #[.slice A l.length c, t.val, .slice Ac col.length cc] w (HeadsPost l t col w) := by
 have hp : (t.dof.toList == [98, 111, 111, 108]) = true := hd
 have g1 := do_other (b := [117, 110, 105, 116]) hp (by decide)
 have HB0 := Lib.hid (((Below.refl w.heap.size w).alloc (Nat.le_refl _) (.cells #[.string t.dof, .string t.name, .slice t.at_ t.args.length t.cap] 25)).alloc (by simp) (.cells twoC 28))
 have HPOST := Lib.hid (fun (w' : World) (g : Nat) (hb : Below w.heap.size w w') (hk : Blk w' g #[.string ⟨#[98, 111, 111, 108]⟩, .string ⟨#[]⟩, .int .i64 0, .slice none 0 0, .string ⟨#[98, 111, 111, 108]⟩, .string ⟨#[]⟩, .int .i64 1, .slice none 0 0] 28) =>
  heads_fin (l := l) (t := t) (col := col) hb [.mk dBool emptyS 0 none 0 [], .mk dBool emptyS 1 none 0 []] [⟨dBool, emptyS, 0, []⟩, ⟨dBool, emptyS, 1, []⟩] hk rfl (fun h hh => by simp only [List.mem_cons, List.not_mem_nil, or_false] at hh; rcases hh with rfl | rfl <;> exact flat_in3 _ _ _ _ (by decide) (by decide)) (by simp) (.inr (.inr (.inl ⟨hd, rfl⟩))) (.cons (head_flat l t _ _ (by simp)) (.cons (head_flat l t _ _ (by simp)) .nil)) 2 2 rfl)
 unfold twoC at HB0
 unfold Ty.val
 go_enter Tryz.func81, Tryz.ntmps81
 go_wp2_with fail
 have HB1 := Lib.hid (HB0.out.alloc HB0.out.size (.cells #[.string ⟨#[98, 111, 111, 108]⟩, .string ⟨#[]⟩, .int .i64 0, .slice none 0 0, .string ⟨#[98, 111, 111, 108]⟩, .string ⟨#[]⟩, .int .i64 1, .slice none 0 0] 28))
 exact bodyPost_ret (v := .slice (some ⟨w.heap.size + 1 + 1, 0, none⟩) 2 2) (by simp [results, Tryz.results81, go_sem]) rfl (HPOST.out _ _ HB1.out (Blk.new' _ _ _ _ (by simp)))
set_option maxRecDepth 100000 in
set_option maxHeartbeats 4000000 in
theorem heads_pair (ht : okT l t) (hd : isDo [112, 97, 105, 114] t.dof = true) : Calls Tryz.prog 81 #[.slice A l.length c, t.val, .slice Ac col.length cc] w (HeadsPost l t col w) := by
 have hp : (t.dof.toList == [112, 97, 105, 114]) = true := hd
 have g1 := do_other (b := [117, 110, 105, 116]) hp (by decide)
 have g2 := do_other (b := [98, 111, 111, 108]) hp (by decide)
 obtain ⟨t0, t1, hargs⟩ := pair_args ht hd
 have HB0 := Lib.hid (((Below.refl w.heap.size w).alloc (Nat.le_refl _) (.cells #[.string t.dof, .string t.name, .slice t.at_ t.args.length t.cap] 25)).alloc (by simp) (.cells twoC 28))
 have HPOST := Lib.hid (fun (w' : World) (g g2 : Nat) (hb : Below w.heap.size w w') (h2 : Blk w' g2 twoC 28) (hk : Blk w' g #[.string ⟨#[112, 97, 105, 114]⟩, .string ⟨#[]⟩, .int .i64 0, .slice (some ⟨g2, 0, none⟩) 2 2] 28) =>
  heads_fin (l := l) (t := t) (col := col) hb [.mk dPair emptyS 0 (some ⟨g2, 0, none⟩) 2 [anyPt, anyPt]] [⟨dPair, emptyS, 0, t.args⟩] hk rfl (fun h hh => by simp only [List.mem_cons, List.not_mem_nil, or_false] at hh; subst hh; exact two_in h2 _ (by decide)) (by simp) (.inl ⟨hd, rfl⟩) (.cons ⟨⟨rfl, rfl, rfl⟩, by rw [hargs]; rfl, by unfold partsD isDo; simp [Pt.dof, l_pair], by rw [hargs]; simp⟩ .nil) 1 1 rfl)
 clear hargs ht
 unfold twoC at HB0
 unfold Ty.val
 go_enter Tryz.func81, Tryz.ntmps81
 go_wp2_with fail
 have HB1 := Lib.hid (HB0.out.alloc HB0.out.size (.cells #[.string ⟨#[112, 97, 105, 114]⟩, .string ⟨#[]⟩, .int .i64 0, .slice (some ⟨w.heap.size + 1, 0, none⟩) 2 2] 28))
 exact bodyPost_ret (v := .slice (some ⟨w.heap.size + 1 + 1, 0, none⟩) 1 1) (by simp [results, Tryz.results81, go_sem]) rfl (HPOST.out _ _ (w.heap.size + 1) HB1.out ((Blk.new' _ _ _ (w.heap.size + 1) (by simp)).alloc _) (Blk.new' _ _ _ _ (by simp)))
set_option maxRecDepth 100000 in
set_option maxHeartbeats 4000000 in
theorem heads_list (ht : okT l t) (hd : isDo [108, 105, 115, 116] t.dof = true) : Calls Tryz.prog 81 #[.slice A l.length c, t.val, .slice Ac col.length cc] w (HeadsPost l t col w) := by
 have hp : (t.dof.toList == [108, 105, 115, 116]) = true := hd
 have g1 := do_other (b := [117, 110, 105, 116]) hp (by decide)
 have g2 := do_other (b := [98, 111, 111, 108]) hp (by decide)
 have g3 := do_other (b := [112, 97, 105, 114]) hp (by decide)
 obtain ⟨t0, hargs⟩ := list_args ht hd
 have HB0 := Lib.hid (((Below.refl w.heap.size w).alloc (Nat.le_refl _) (.cells #[.string t.dof, .string t.name, .slice t.at_ t.args.length t.cap] 25)).alloc (by simp) (.cells twoC 28))
 have HPOST := Lib.hid (fun (w' : World) (g g2 : Nat) (hb : Below w.heap.size w w') (h2 : Blk w' g2 twoC 28) (hk : Blk w' g #[.string ⟨#[110, 105, 108]⟩, .string ⟨#[]⟩, .int .i64 0, .slice none 0 0, .string ⟨#[99, 111, 110, 115]⟩, .string ⟨#[]⟩, .int .i64 0, .slice (some ⟨g2, 0, none⟩) 2 2] 28) =>
  heads_fin (l := l) (t := t) (col := col) hb [.mk dNil emptyS 0 none 0 [], .mk dCons emptyS 0 (some ⟨g2, 0, none⟩) 2 [anyPt, anyPt]] [⟨dNil, emptyS, 0, []⟩, ⟨dCons, emptyS, 0, t.args.take 1 ++ [t]⟩] hk rfl (fun h hh => by simp only [List.mem_cons, List.not_mem_nil, or_false] at hh; rcases hh with rfl | rfl; exact flat_in3 _ _ _ _ (by decide) (by decide); exact two_in h2 _ (by decide)) (by simp) (.inr (.inl ⟨hd, rfl⟩)) (.cons (head_flat l t _ _ (by simp)) (.cons ⟨⟨rfl, rfl, rfl⟩, by rw [hargs]; rfl, by unfold partsD isDo; simp [Pt.dof, l_cons], by rw [hargs]; simp⟩ .nil)) 2 2 rfl)
 clear hargs ht
 unfold twoC at HB0
 unfold Ty.val
 go_enter Tryz.func81, Tryz.ntmps81
 go_wp2_with fail
 have HB1 := Lib.hid (HB0.out.alloc HB0.out.size (.cells #[.string ⟨#[110, 105, 108]⟩, .string ⟨#[]⟩, .int .i64 0, .slice none 0 0, .string ⟨#[99, 111, 110, 115]⟩, .string ⟨#[]⟩, .int .i64 0, .slice (some ⟨w.heap.size + 1, 0, none⟩) 2 2] 28))
 exact bodyPost_ret (v := .slice (some ⟨w.heap.size + 1 + 1, 0, none⟩) 2 2) (by simp [results, Tryz.results81, go_sem]) rfl (HPOST.out _ _ (w.heap.size + 1) HB1.out ((Blk.new' _ _ _ (w.heap.size + 1) (by simp)).alloc _) (Blk.new' _ _ _ _ (by simp)))
end
end Go.Proofs.YtjeggkfgdhepaaaGreatDoor

namespace Go.Proofs.YtjeggkfgdhepaaaGreatDoor
open Go.RowKit
open Go.Proofs
open Go.Maps
def colI (col : List Pt) (k : Nat) : List Pt := (col.take k).filter fun p => isDo [105, 110, 116] p.dof
theorem colI_succ {col : List Pt} {k : Nat} {q : Pt} (h : col[k]? = some q) : colI col (k + 1) = colI col k ++ (if isDo [105, 110, 116] q.dof then [q] else []) := by
 unfold colI
 rw [List.take_add_one, h, List.filter_append]
 cases hq : isDo [105, 110, 116] q.dof <;> simp [hq]
theorem colI_len (col : List Pt) (k : Nat) : (colI col k).length ≤ col.length := by
 unfold colI
 have h1 := List.length_filter_le (fun p : Pt => isDo [105, 110, 116] p.dof) (col.take k)
 have h2 := List.length_take_le k col
 have h3 := List.length_take_le' k col
 omega
theorem colI_mem {col : List Pt} {k : Nat} {q : Pt} (h : q ∈ colI col k) : q ∈ col ∧ isDo [105, 110, 116] q.dof = true := by
 unfold colI at h
 rw [List.mem_filter] at h
 exact ⟨List.mem_of_mem_take h.1, h.2⟩
theorem intsOf_mem {col : List Pt} {p : Pt} (hp : p ∈ col) (hi : isDo [105, 110, 116] p.dof = true) : p.num ∈ intsOf col := by
 unfold intsOf
 exact List.mem_map.2 ⟨p, List.mem_filter.2 ⟨hp, hi⟩, rfl⟩
theorem int_well {p : Pt} (hw : p.wellB = true) (hi : isDo [105, 110, 116] p.dof = true) : p.dof = dInt ∧ p.name = emptyS ∧ p.args = [] := by
 obtain ⟨d, s, n, a, c, ps⟩ := p
 simp only [Pt.dof, Pt.name, Pt.args] at *
 rw [Pt.wellB_mk, Bool.and_eq_true] at hw
 have h1 := hw.1
 unfold nodeOk at h1
 have hd := do_is hi
 rw [hd] at h1
 have h2 : s.toList = [] ∧ ps.length = 0 := by simpa using h1
 exact ⟨bytes_is hi l_int, bytes_of (h2.1.trans l_empty.symm), List.eq_nil_of_length_eq_zero h2.2⟩
theorem ints_heads (l : List Dt) (t : Ty) : ∀ ps : List Pt, (∀ p ∈ ps, p.wellB = true ∧ isDo [105, 110, 116] p.dof = true) → F2 (HeadOk l t) ((ps.map Pt.num).map fun n => (⟨dInt, emptyS, n, []⟩ : Form)) ps
 | [], _ => .nil
 | p :: ps, h => by
  obtain ⟨h1, h2, h3⟩ := int_well (h p (by simp)).1 (h p (by simp)).2
  refine .cons ⟨⟨h1, h2, rfl⟩, by rw [h3]; rfl, by rw [h1, h2]; exact (parts_flat l t dInt (by simp)).symm, by simp⟩ (ints_heads l t ps fun q hq => h q (by simp [hq]))
section
variable (A : Option Addr) (l : List Dt) (c : Nat) (t : Ty) (Ac : Option Addr) (col : List Pt) (cc : Nat) (w : World)
set_option maxRecDepth 100000 in
set_option maxHeartbeats 8000000 in
theorem heads_int (hd : isDo [105, 110, 116] t.dof = true) (hrow : RowAt w.heap.size w 4 Ac (col.map Pt.cells)) (hall : ∀ p ∈ col, p.In w.heap.size w ∧ p.wellB = true) (hl : col.length ≤ 1048576) :
  Calls Tryz.prog 81 #[.slice A l.length c, t.val, .slice Ac col.length cc] w (HeadsPost l t col w) := by
 have hp : (t.dof.toList == [105, 110, 116]) = true := hd
 have g1 := do_other (b := [117, 110, 105, 116]) hp (by decide)
 have g2 := do_other (b := [98, 111, 111, 108]) hp (by decide)
 have g3 := do_other (b := [112, 97, 105, 114]) hp (by decide)
 have g4 := do_other (b := [108, 105, 115, 116]) hp (by decide)
 have HROW := Lib.hid hrow
 have HALL := Lib.hid hall
 have HD := Lib.hid hd
 obtain ⟨i0, hi, hz0, hz1, hz2⟩ := info_parts infoPat
 have HB0 := Lib.hid (((Below.refl w.heap.size w).alloc (Nat.le_refl _) (.cells #[.string t.dof, .string t.name, .slice t.at_ t.args.length t.cap] 25)).alloc (by simp) (.cells twoC 28))
 clear hrow hall hd
 unfold twoC at HB0
 unfold Ty.val
 go_enter Tryz.func81, Tryz.ntmps81
 go_wp2_with fail
 generalize (w.alloc (.cells #[.string t.dof, .string t.name, .slice t.at_ t.args.length t.cap] 25)).alloc (.cells #[.string ⟨#[97, 110, 121]⟩, .string ⟨#[]⟩, .int .i64 0, .slice none 0 0, .string ⟨#[97, 110, 121]⟩, .string ⟨#[]⟩, .int .i64 0, .slice none 0 0] 28) = w0 at HB0 ⊢
 go_loopw [8, 10] (fun ov av wr => ∃ (o : Nat) (ag : Bool), ov = .int .i64 o ∧ av = .bool ag ∧ o ≤ col.length ∧ Hid (Below w.heap.size w wr) ∧ Hid (∀ i : Nat, i < o → (i : Int) ∈ intsOf col) ∧ Hid (ag = false → ∀ p ∈ col, isDo [105, 110, 116] p.dof = true → p.num ≠ (o : Int))) (fun ov av _ => isT av + 2 * (col.length + 1 - (intOf ov).toNat))
 case atStart => exact ⟨0, true, rfl, rfl, Nat.zero_le _, HB0.out, Lib.hid (fun i hi => absurd hi (Nat.not_lt_zero _)), Lib.hid (fun h => by cases h)⟩
 case round =>
  obtain ⟨o, ag, rfl, rfl, ho, HB1, HI1, HE1⟩ := hrel
  cases ag
  case true =>
   obtain ⟨wo, rfl⟩ : ∃ wo : World, wo = wr := ⟨_, rfl⟩
   go_wp2_with fail
   go_loopw [51, 8, 10] (fun iv ov av wr => ∃ (k o2 : Nat) (ag : Bool), iv = .int .i64 k ∧ ov = .int .i64 o2 ∧ av = .bool ag ∧ k ≤ col.length ∧ o2 ≤ col.length ∧ Hid (Below w.heap.size w wr) ∧ Hid (o ≤ o2) ∧ Hid (∀ i : Nat, i < o2 → (i : Int) ∈ intsOf col) ∧ Hid (ag = true → o + 1 ≤ o2) ∧ Hid (ag = false → o2 = o ∧ ∀ p ∈ col.take k, isDo [105, 110, 116] p.dof = true → p.num ≠ (o : Int))) (fun iv _ _ _ => col.length - (intOf iv).toNat)
   case atStart => exact ⟨0, o, false, rfl, rfl, rfl, Nat.zero_le _, ho, HB1.out, Lib.hid (Nat.le_refl _), HI1.out, Lib.hid (fun h => by cases h), Lib.hid (fun _ => ⟨rfl, fun p hp => by simp at hp⟩)⟩
   case round =>
    obtain ⟨k, o2, ag, rfl, rfl, rfl, hk, ho2, HB2, HO2, HI2, HT2, HF2⟩ := hrel
    by_cases hlt : k < col.length
    ·obtain ⟨q, b0, off, hq, hmem, rfl, hb, x0, x1, x2, x3⟩ := Pt.arg_at HROW.out HB2.out hlt
     have HQ := Lib.hid hq
     have HMEM := Lib.hid hmem
     have HBA := Lib.hid (HB2.out.alloc HB2.out.size (.cells #[.string q.dof, .string q.name, .int .i64 q.num, .slice q.at_ q.args.length q.cap] 28))
     have hs2 := HB2.out.size
     obtain ⟨bd, hbd⟩ : ∃ x, (q.dof.toList == [105, 110, 116]) = x := ⟨_, rfl⟩
     obtain ⟨bn, hbn⟩ : ∃ x, (q.num == (o2 : Int)) = x := ⟨_, rfl⟩
     have HBD := Lib.hid hbd
     have HBN := Lib.hid hbn
     have HNO := Lib.hid (show (bd && bn) = false → ag = false → o2 = o ∧ ∀ p ∈ col.take (k + 1), isDo [105, 110, 116] p.dof = true → p.num ≠ (o : Int) from fun hno hf => by
      obtain ⟨e, h⟩ := HF2.out hf
      refine ⟨e, fun p hp hi hn => ?_⟩
      rw [take_snoc HQ.out, List.mem_append, List.mem_singleton] at hp
      rcases hp with hp | rfl
      ·exact h p hp hi hn
      ·have hi2 : (p.dof.toList == [105, 110, 116]) = true := hi
       rw [HBD.out] at hi2
       rw [hi2] at hno
       have : (p.num == (o2 : Int)) = true := by rw [e, hn]; simp
       rw [HBN.out] at this
       rw [this] at hno
       cases hno)
     clear hq hmem
     cases bd
     case false =>
      go_wp2_with fail
      exact ⟨⟨k + 1, o2, ag, by go_num, rfl, rfl, by omega, ho2, HBA.out, HO2.out, HI2.out, HT2.out, Lib.hid (HNO.out rfl)⟩, by simp [intOf]; omega⟩
     cases bn
     case false =>
      go_wp2_with fail
      exact ⟨⟨k + 1, o2, ag, by go_num, rfl, rfl, by omega, ho2, HBA.out, HO2.out, HI2.out, HT2.out, Lib.hid (HNO.out rfl)⟩, by simp [intOf]; omega⟩
     case true =>
      have HI3 := Lib.hid (show ∀ i : Nat, i < o2 + 1 → (i : Int) ∈ intsOf col from fun i hi => by
       by_cases h : i < o2
       ·exact HI2.out i h
       ·have : i = o2 := by omega
        subst this
        have hn : q.num = (i : Int) := by simpa using HBN.out
        rw [← hn]
        exact intsOf_mem HMEM.out HBD.out)
      have ho3 : o2 + 1 ≤ col.length := Nat.le_trans (pigeon (o2 + 1) (intsOf col) HI3.out) (intsOf_len col)
      have ho4 := HO2.out
      go_wp2_with fail
      exact ⟨⟨k + 1, o2 + 1, true, by go_num, by go_num, rfl, by omega, ho3, HBA.out, Lib.hid (by omega), HI3.out, Lib.hid (fun _ => by omega), Lib.hid (fun h => by cases h)⟩, by simp [intOf]; omega⟩
    ·have hk2 : k = col.length := by omega
     have HE2 := Lib.hid (show ag = false → ∀ p ∈ col, isDo [105, 110, 116] p.dof = true → p.num ≠ (o2 : Int) from fun hf => by
      obtain ⟨e, h⟩ := HF2.out hf
      rw [hk2, List.take_length] at h
      rw [e]
      exact h)
     have ho4 := HO2.out
     have ht4 := HT2.out
     clear hk2
     go_wp2_with fail
     refine ⟨⟨o2, ag, rfl, rfl, ho2, HB2.out, HI2.out, HE2.out⟩, ?_⟩
     cases ag
     ·simp [isT, intOf]; omega
     ·have := ht4 rfl
      simp [isT, intOf]; omega
  case false =>
   have HNO := Lib.hid (HE1.out rfl)
   obtain ⟨wo, rfl⟩ : ∃ wo : World, wo = wr := ⟨_, rfl⟩
   go_wp2_with fail
   go_loopw [69, 9] (fun iv hv wr => ∃ (k : Nat) (A1 : Option Addr) (c1 : Nat), iv = .int .i64 k ∧ hv = .slice A1 (colI col k).length c1 ∧ k ≤ col.length ∧ Hid (Below w.heap.size w wr) ∧ Hid (wr.ownsRow w.heap.size 28 4 (.slice A1 (colI col k).length c1) (colI col k).length (((colI col k).map Pt.cells).flatten))) (fun iv _ _ => col.length - (intOf iv).toNat)
   case atStart => exact ⟨0, none, 0, rfl, rfl, Nat.zero_le _, HB1.out, World.ownsRow_nil _ _ _ _⟩
   case round =>
    obtain ⟨k, A1, c1, rfl, rfl, hk, HB2, HO⟩ := hrel
    have hs2 := HB2.out.size
    have hcl := colI_len col k
    by_cases hlt : k < col.length
    ·obtain ⟨q, b0, off, hq, hmem, rfl, hb, x0, x1, x2, x3⟩ := Pt.arg_at HROW.out HB2.out hlt
     have HSU := Lib.hid (colI_succ hq)
     have HBA := Lib.hid (HB2.out.alloc hs2 (.cells #[.string q.dof, .string q.name, .int .i64 q.num, .slice q.at_ q.args.length q.cap] 28))
     obtain ⟨bd, hbd⟩ : ∃ x, (q.dof.toList == [105, 110, 116]) = x := ⟨_, rfl⟩
     have hbd2 : isDo [105, 110, 116] q.dof = bd := hbd
     rw [hbd2] at HSU
     have HOA := Lib.hid (World.ownsRow.alloc HO.out (.cells #[.string q.dof, .string q.name, .int .i64 q.num, .slice q.at_ q.args.length q.cap] 28))
     generalize hlp : colI col k = lp at HSU HOA HO hcl ⊢
     clear hq hmem hbd2 hlp
     cases bd
     case false =>
      have HS2 := Lib.hid (show colI col (k + 1) = lp by rw [HSU.out]; simp)
      go_wp2_with fail
      exact ⟨⟨k + 1, A1, c1, by go_num, by rw [HS2.out], by omega, HBA.out, by rw [HS2.out]; exact HOA.out⟩, by simp [intOf]; omega⟩
     case true =>
      have HS2 := Lib.hid (show colI col (k + 1) = lp ++ [q] by rw [HSU.out]; simp)
      go_wp2_with (at_builtin; go_must (refine wpList_append_own_at _ rfl (.tmp 76) (.tmp 78) 26 rfl w.heap.size 28 i0 _ 4 64 Tryz.underlying26 hi hz0 hz1 hz2 rfl (by decide) (.slice A1 lp.length c1) lp.length ((lp.map Pt.cells).flatten) rfl ?hown ⟨wr.heap.size + 1, 0, none⟩ 1 1 q.cells rfl rfl ?c1 ?c2 ?c3 ?c4 ?c5 ?_))
      case hown => exact World.ownsRow.alloc HOA.out _
      case c1 => exact fun j u hu => hu
      case c2 => simp [Value.oneCell', Pt.cells]
      case c3 => unfold maxLen; omega
      case c4 => omega
      case c5 => first | omega | (simp; omega)
      intro v' w5 hown hgrow _ _
      obtain ⟨A5, c5, rfl, -⟩ := row_slice hown
      have HB5 := Lib.hid ((HBA.out.alloc HBA.out.size (.cells #[.string q.dof, .string q.name, .int .i64 q.num, .slice q.at_ q.args.length q.cap] 28)).grown hgrow (by simp; omega) (fun i hi => (HO.out.lt i hi).1))
      have HO5 := Lib.hid hown
      clear hown hgrow x0 x1 x2 x3
      go_wp2_with fail
      exact ⟨⟨k + 1, A5, c5, by go_num, by rw [HS2.out]; simp, by omega, HB5.out, Lib.hid (by rw [HS2.out]; have := HO5.out; simpa using this)⟩, by simp [intOf]; omega⟩
    ·have hk2 : k = col.length := by omega
     subst hk2
     have HMEM := Lib.hid (fun q (hq : q ∈ colI col col.length) => colI_mem hq)
     have HINTS := Lib.hid (show intsOf col = (colI col col.length).map Pt.num by unfold intsOf colI; rw [List.take_length])
     generalize colI col col.length = lp at *
     have hob : (o : Int) ≤ 9223372036854775807 := by omega
     go_wp2_with (at_builtin; go_must (refine wpList_append_own_at _ rfl (.tmp 81) (.tmp 84) 26 rfl w.heap.size 28 i0 _ 4 64 Tryz.underlying26 hi hz0 hz1 hz2 rfl (by decide) (.slice A1 lp.length c1) lp.length ((lp.map Pt.cells).flatten) rfl ?hown2 ⟨wr.heap.size, 0, none⟩ 1 1 (Pt.mk dInt emptyS (o : Int) none 0 []).cells rfl rfl ?d1 ?d2 ?d3 ?d4 ?d5 ?_))
     case hown2 => exact World.ownsRow.alloc HO.out _
     case d1 => exact World.news_of_block (Blk.new' _ _ _ _ (by simp))
     case d2 => simp [Value.oneCell', Pt.cells]
     case d3 => unfold maxLen; omega
     case d4 => omega
     case d5 => first | omega | (simp; omega)
     intro v' w5 hown hgrow _ _
     obtain ⟨A5, c5, rfl, -⟩ := row_slice hown
     have HB5 := Lib.hid ((HB2.out.alloc hs2 (.cells (Pt.mk dInt emptyS (o : Int) none 0 []).cells.toArray 28)).grown hgrow (by simp; omega) (fun i hi => (HO.out.lt i hi).1))
     have HO5 := Lib.hid (show w5.ownsRow w.heap.size 28 4 (.slice A5 (lp ++ [Pt.mk dInt emptyS (o : Int) none 0 []]).length c5) (lp ++ [Pt.mk dInt emptyS (o : Int) none 0 []]).length (((lp ++ [Pt.mk dInt emptyS (o : Int) none 0 []]).map Pt.cells).flatten) by simpa using hown)
     clear hown hgrow
     go_wp2_with fail
     refine bodyPost_ret (v := .slice A5 (lp.length + 1) c5) (by simp [results, Tryz.results81, go_sem]) rfl ⟨HB5.out, A5, c5, lp ++ [Pt.mk dInt emptyS (o : Int) none 0 []], (intsOf col).map (fun n => (⟨dInt, emptyS, n, []⟩ : Form)) ++ [⟨dInt, emptyS, (o : Int), []⟩], by simp, PatsO.row HO5.out, fun h hh => ?_, by simp; omega, .inr (.inr (.inr (.inr (.inl ⟨HD.out, intsOf col, (o : Int), rfl, fun p hp hi => ⟨intsOf_mem hp hi, HNO.out p hp hi⟩⟩)))), ?_⟩
     ·rcases List.mem_append.1 hh with hh | hh
      ·exact (HALL.out h (HMEM.out h hh).1).1.next HB5.out
      ·simp only [List.mem_singleton] at hh
       subst hh
       exact flat_in3 _ _ _ _ (by decide) ⟨by omega, hob⟩
     ·refine f2_append ?_ (.cons (head_flat l t _ _ (by simp)) .nil)
      rw [HINTS.out]
      exact ints_heads l t lp fun p hp => ⟨(HALL.out p (HMEM.out p hp).1).2, (HMEM.out p hp).2⟩
def conHead (g : Nat) (c : Cn) : Pt := if c.has then .mk dCon c.name 0 (some ⟨g, 0, none⟩) 2 [anyPt] else .mk dCon c.name 0 none 0 []
def conCells (g : Nat) (c : Cn) : List Value := [.string dCon, .string c.name, .int .i64 0, if c.has then .slice (some ⟨g, 0, none⟩) 1 2 else .slice none 0 0]
theorem conHead_cells (g : Nat) (c : Cn) : (conHead g c).cells = conCells g c := by
 unfold conHead conCells
 cases c.has <;> rfl
theorem conHead_ok {l : List Dt} (hr : Right l) {t : Ty} {c : Cn} (hc : c ∈ consOf l t.name) (g : Nat) : HeadOk l t (conForm c) (conHead g c) := by
 have hp := parts_con hr hc
 unfold conForm conHead
 cases hh : c.has with
 | false =>
  rw [hh] at hp
  exact ⟨⟨rfl, rfl, rfl⟩, rfl, hp.symm, by simp⟩
 | true =>
  rw [hh] at hp
  exact ⟨⟨rfl, rfl, rfl⟩, rfl, hp.symm, by simp⟩
theorem conHead_in {W : World} {g B : Nat} (h : Blk W g twoC 28) (hB : g < B) {c : Cn} (hc : c.name.size ≤ 1099511627776) : (conHead g c).In B W := by
 unfold conHead
 cases c.has with
 | false => exact flat_in B W dCon c.name 0 (by decide) hc (by decide)
 | true =>
  refine Pt.In_mk.2 ⟨by decide, hc, ⟨by decide, by decide⟩, by simp, ⟨by simp, fun h => (by cases h)⟩, ?_, fun p hp => by simp only [List.mem_cons, List.not_mem_nil, or_false] at hp; subst hp; exact anyPt_in _ _⟩
  intro _
  refine ⟨g, 0, rfl, hB, fun i x hi j v hj => ?_⟩
  rcases i with _ | i
  ·simp only [List.map_cons, List.getElem?_cons_zero, Option.some.injEq] at hi
   subst hi
   rw [h.cell]
   rcases j with _ | _ | _ | _ | j
   ·exact hj
   ·exact hj
   ·exact hj
   ·exact hj
   ·simp [Pt.cells] at hj
  ·simp at hi
theorem f2_map {α β γ : Type} {R : β → γ → Prop} {f : α → β} {g : α → γ} : ∀ (l : List α), (∀ a ∈ l, R (f a) (g a)) → F2 R (l.map f) (l.map g)
 | [], _ => .nil
 | a :: l, h => .cons (h a (by simp)) (f2_map l fun x hx => h x (by simp [hx]))
set_option maxRecDepth 100000 in
set_option maxHeartbeats 8000000 in
theorem heads_data (hr : Right l) (hd : isDo [100, 97, 116, 97] t.dof = true) (hdt : DtsIn w.heap.size w A l) (hdl : ∀ d ∈ l, d.cons.length ≤ 1048576) :
  Calls Tryz.prog 81 #[.slice A l.length c, t.val, .slice Ac col.length cc] w (HeadsPost l t col w) := by
 have hp : (t.dof.toList == [100, 97, 116, 97]) = true := hd
 have g1 := do_other (b := [117, 110, 105, 116]) hp (by decide)
 have g2 := do_other (b := [98, 111, 111, 108]) hp (by decide)
 have g3 := do_other (b := [112, 97, 105, 114]) hp (by decide)
 have g4 := do_other (b := [108, 105, 115, 116]) hp (by decide)
 have g5 := do_other (b := [105, 110, 116]) hp (by decide)
 obtain ⟨nm, A9, c9, hform, hrow9, hx9, hl9⟩ := dtFound_cons hdt t.name
 have HR9 := Lib.hid hrow9
 have HX9 := Lib.hid hx9
 have HFORM := Lib.hid hform
 have HCD := Lib.hid (fun (W : World) (hW : Below w.heap.size w W) => datatype_any A l c t.name W (hdt.next hW))
 have HOKC := Lib.hid (fun (g : Nat) (x : Cn) (hx : x ∈ consOf l t.name) => conHead_ok hr hx g)
 have HISF := Lib.hid (show IsForms l t col ((consOf l t.name).map conForm) from .inr (.inr (.inr (.inr (.inr ⟨hd, rfl⟩)))))
 have hcl : (consOf l t.name).length ≤ 1048576 := by
  by_cases hne : consOf l t.name = []
  ·rw [hne]; simp
  ·obtain ⟨x, hx⟩ := List.exists_mem_of_ne_nil _ hne
   obtain ⟨d0, hd0, -, -, he⟩ := consOf_mem hx
   rw [he]
   exact hdl d0 hd0
 obtain ⟨i0, hi, hz0, hz1, hz2⟩ := info_parts infoPat
 have HB0 := Lib.hid (((Below.refl w.heap.size w).alloc (Nat.le_refl _) (.cells #[.string t.dof, .string t.name, .slice t.at_ t.args.length t.cap] 25)).alloc (by simp) (.cells twoC 28))
 have K1 := Lib.hid ((Blk.new w #[.string t.dof, .string t.name, .slice t.at_ t.args.length t.cap] 25).alloc (.cells twoC 28))
 have K2 := Lib.hid (Blk.new' (w.alloc (.cells #[.string t.dof, .string t.name, .slice t.at_ t.args.length t.cap] 25)) twoC 28 (w.heap.size + 1) (by simp))
 generalize hcs : consOf l t.name = cs at hform hrow9 hx9 hl9 HR9 HX9 HFORM HOKC HISF hcl
 clear hform hrow9 hx9 hdt hd hcs
 unfold Ty.val
 have htw : twoC = #[.string ⟨#[97, 110, 121]⟩, .string ⟨#[]⟩, .int .i64 0, .slice none 0 0, .string ⟨#[97, 110, 121]⟩, .string ⟨#[]⟩, .int .i64 0, .slice none 0 0] := rfl
 rw [htw] at HB0 K1 K2
 go_enter Tryz.func81, Tryz.ntmps81
 go_wp2_with fail
 generalize (w.alloc (.cells #[.string t.dof, .string t.name, .slice t.at_ t.args.length t.cap] 25)).alloc (.cells #[.string ⟨#[97, 110, 121]⟩, .string ⟨#[]⟩, .int .i64 0, .slice none 0 0, .string ⟨#[97, 110, 121]⟩, .string ⟨#[]⟩, .int .i64 0, .slice none 0 0] 28) = w0 at HB0 K1 K2 ⊢
 rw [← htw] at K2
 refine Calls.mono (HCD.out _ HB0.out) ?_
 rintro e w1 ⟨rfl, hb1⟩
 rw [HFORM.out]
 have HB1 := Lib.hid (HB0.out.trans (hb1.mono HB0.out.size))
 have K21 := Lib.hid (K2.out.below hb1 K2.out.lt)
 generalize (dtFound l t.name).2 = fnd at *
 clear hb1
 go_wp2_with fail
 have HB2 := Lib.hid (HB1.out.alloc HB1.out.size (.cells #[.string nm, .slice A9 cs.length c9] 111))
 have K22 := Lib.hid (K21.out.alloc (.cells #[.string nm, .slice A9 cs.length c9] 111))
 generalize w1.alloc (.cells #[.string nm, .slice A9 cs.length c9] 111) = w2 at HB2 K22 ⊢
 have hk2 := K22.out.lt
 go_loopw [96, 15] (fun iv hv wr => ∃ (k : Nat) (A1 : Option Addr) (c1 : Nat), iv = .int .i64 k ∧ hv = .slice A1 k c1 ∧ k ≤ cs.length ∧ Hid (Below w2.heap.size w2 wr) ∧ Hid (wr.ownsRow w2.heap.size 28 4 (.slice A1 k c1) k (((cs.take k).map (conCells (w.heap.size + 1))).flatten))) (fun iv _ _ => cs.length - (intOf iv).toNat)
 case atStart => exact ⟨0, none, 0, rfl, rfl, Nat.zero_le _, Below.refl _ _, World.ownsRow_nil _ _ _ _⟩
 case round =>
  obtain ⟨k, A1, c1, rfl, rfl, hk, HC, HO⟩ := hrel
  have HBW := Lib.hid (HB2.out.trans (HC.out.mono HB2.out.size))
  have hs2 := HC.out.size
  by_cases hlt : k < cs.length
  ·obtain ⟨x, b5, off5, hq5, hm5, hat5, hb5, z0, z1, z2, z3, z4⟩ := Cn.arg_at HR9.out HBW.out hlt
   have HTS := Lib.hid (show (cs.take (k + 1)).map (conCells (w.heap.size + 1)) = (cs.take k).map (conCells (w.heap.size + 1)) ++ [conCells (w.heap.size + 1) x] by rw [take_snoc hq5, List.map_append]; rfl)
   rw [hat5]
   have hbs := HBW.out.size
   clear hq5 hm5
   have hcc : conCells (w.heap.size + 1) x = [.string dCon, .string x.name, .int .i64 0, if x.has then .slice (some ⟨w.heap.size + 1, 0, none⟩) 1 2 else .slice none 0 0] := rfl
   obtain ⟨hh, hhs⟩ : ∃ y, x.has = y := ⟨_, rfl⟩
   rw [hhs] at z1 hcc
   have HCX := Lib.hid hcc
   clear hcc hhs
   cases hh
   case false =>
    have HC5 := Lib.hid (show conCells (w.heap.size + 1) x = [.string ⟨#[99, 111, 110]⟩, .string x.name, .int .i64 0, .slice none 0 0] from HCX.out)
    have hfree := K22.out.lt
    go_wp2_with (at_builtin; go_must (refine wpList_append_own_at _ rfl (.tmp 108) (.tmp 110) 26 rfl w2.heap.size 28 i0 _ 4 64 Tryz.underlying26 hi hz0 hz1 hz2 rfl (by decide) (.slice A1 k c1) k (((cs.take k).map (conCells (w.heap.size + 1))).flatten) rfl ?ha0 ⟨wr.heap.size + 1 + 1, 0, none⟩ 1 1 [.string ⟨#[99, 111, 110]⟩, .string x.name, .int .i64 0, .slice none 0 0] rfl rfl ?ha1 ?ha2 ?ha3 ?ha4 ?ha5 ?_))
    try case ha0 => first | exact ((HO.out.alloc _).alloc _).alloc _ | (rw [← List.map_take]; exact ((HO.out.alloc _).alloc _).alloc _)
    try case ha1 => exact World.news_of_block (Blk.new' _ _ _ _ (by simp))
    case ha2 => simp [Value.oneCell']
    case ha3 => unfold maxLen; omega
    case ha4 => omega
    case ha5 => first | omega | (simp; omega)
    intro v' w5 hown hgrow _ _
    obtain ⟨A5, c5, rfl, -⟩ := row_slice hown
    have HB5 := Lib.hid ((((HC.out.alloc hs2 (.cells #[.string x.name, .bool false, .string x.ty.dof, .string x.ty.name, .slice x.ty.at_ x.ty.args.length x.ty.cap] 117)).alloc (by simp; omega) (.cells #[.string ⟨#[99, 111, 110]⟩, .string x.name, .int .i64 0, .slice none 0 0] 28)).alloc (by simp; omega) (.cells #[.string ⟨#[99, 111, 110]⟩, .string x.name, .int .i64 0, .slice none 0 0] 28)).grown hgrow (by simp; omega) (fun i hi => (HO.out.lt i hi).1))
    have HO5 := Lib.hid hown
    clear hown hgrow z0 z1 z2 z3 z4
    go_wp2_with fail
    refine ⟨⟨k + 1, A5, c5, by go_num, rfl, by omega, HB5.out, Lib.hid ?_⟩, by simp [intOf]; omega⟩
    rw [HTS.out, List.flatten_append, HC5.out]
    simpa using HO5.out
   case true =>
    have HC5 := Lib.hid (show conCells (w.heap.size + 1) x = [.string ⟨#[99, 111, 110]⟩, .string x.name, .int .i64 0, .slice (some ⟨w.heap.size + 1, 0, none⟩) 1 2] from HCX.out)
    have hfree := K22.out.lt
    go_wp2_with (at_builtin; go_must (refine wpList_append_own_at _ rfl (.tmp 108) (.tmp 110) 26 rfl w2.heap.size 28 i0 _ 4 64 Tryz.underlying26 hi hz0 hz1 hz2 rfl (by decide) (.slice A1 k c1) k (((cs.take k).map (conCells (w.heap.size + 1))).flatten) rfl ?hb0 ⟨wr.heap.size + 1 + 1, 0, none⟩ 1 1 [.string ⟨#[99, 111, 110]⟩, .string x.name, .int .i64 0, .slice (some ⟨w.heap.size + 1, 0, none⟩) 1 2] rfl rfl ?hb1 ?hb2 ?hb3 ?hb4 ?hb5 ?_))
    try case hb0 => first | exact ((HO.out.alloc _).alloc _).alloc _ | (rw [← List.map_take]; exact ((HO.out.alloc _).alloc _).alloc _)
    try case hb1 => exact World.news_of_block (Blk.new' _ _ _ _ (by simp))
    case hb2 => simp [Value.oneCell']
    case hb3 => unfold maxLen; omega
    case hb4 => omega
    case hb5 => first | omega | (simp; omega)
    intro v' w5 hown hgrow _ _
    obtain ⟨A5, c5, rfl, -⟩ := row_slice hown
    have HB5 := Lib.hid ((((HC.out.alloc hs2 (.cells #[.string x.name, .bool true, .string x.ty.dof, .string x.ty.name, .slice x.ty.at_ x.ty.args.length x.ty.cap] 117)).alloc (by simp; omega) (.cells #[.string ⟨#[99, 111, 110]⟩, .string x.name, .int .i64 0, .slice (some ⟨w.heap.size + 1, 0, none⟩) 1 2] 28)).alloc (by simp; omega) (.cells #[.string ⟨#[99, 111, 110]⟩, .string x.name, .int .i64 0, .slice (some ⟨w.heap.size + 1, 0, none⟩) 1 2] 28)).grown hgrow (by simp; omega) (fun i hi => (HO.out.lt i hi).1))
    have HO5 := Lib.hid hown
    clear hown hgrow z0 z1 z2 z3 z4
    go_wp2_with fail
    refine ⟨⟨k + 1, A5, c5, by go_num, rfl, by omega, HB5.out, Lib.hid ?_⟩, by simp [intOf]; omega⟩
    rw [HTS.out, List.flatten_append, HC5.out]
    simpa using HO5.out
  ·have hk3 : k = cs.length := by omega
   have ho := HO.out
   rw [hk3, List.take_length] at ho
   have hcells : cs.map (conCells (w.heap.size + 1)) = (cs.map (conHead (w.heap.size + 1))).map Pt.cells := by
    rw [List.map_map]
    exact List.map_congr_left fun x _ => (conHead_cells _ x).symm
   rw [hcells] at ho
   have HO2 := Lib.hid (show wr.ownsRow w2.heap.size 28 4 (.slice A1 (cs.map (conHead (w.heap.size + 1))).length c1) (cs.map (conHead (w.heap.size + 1))).length (((cs.map (conHead (w.heap.size + 1))).map Pt.cells).flatten) by rw [List.length_map]; exact ho)
   have HK := Lib.hid (K22.out.below HC.out K22.out.lt)
   have hkeq : k = (cs.map (conHead (w.heap.size + 1))).length := by rw [List.length_map]; exact hk3
   have HKE := Lib.hid hkeq
   clear hk3 ho hcells hkeq
   go_wp2_with fail
   exact bodyPost_ret (v := .slice A1 k c1) (by simp [results, Tryz.results81, go_sem]) rfl ⟨HBW.out, A1, c1, cs.map (conHead (w.heap.size + 1)), cs.map conForm, by rw [HKE.out], PatsO.row HO2.out, fun h hh => by
    obtain ⟨x, hx, rfl⟩ := List.mem_map.1 hh
    exact conHead_in HK.out HK.out.lt (HX9.out x hx).1.1, by simp; omega, HISF.out, f2_map cs fun x hx => HOKC.out _ x hx⟩
theorem heads_any (hr : Right l) (ht : okT l t) (hop : opaqueT t = false) (hdt : DtsIn w.heap.size w A l) (hdl : ∀ d ∈ l, d.cons.length ≤ 1048576) (hrow : RowAt w.heap.size w 4 Ac (col.map Pt.cells)) (hall : ∀ p ∈ col, p.In w.heap.size w ∧ p.wellB = true) (hl : col.length ≤ 1048576) :
  Calls Tryz.prog 81 #[.slice A l.length c, t.val, .slice Ac col.length cc] w (HeadsPost l t col w) := by
 rcases ty_kinds ht with h | h | h | h | h | h | h
 ·rw [hop] at h; cases h
 ·exact heads_pair A l c t Ac col cc w ht h
 ·exact heads_list A l c t Ac col cc w ht h
 ·exact heads_bool A l c t Ac col cc w h
 ·exact heads_unit A l c t Ac col cc w h
 ·exact heads_int A l c t Ac col cc w h hrow hall hl
 ·exact heads_data A l c t Ac col cc w hr h hdt hdl
end
end Go.Proofs.YtjeggkfgdhepaaaGreatDoor

namespace Go.Proofs.YtjeggkfgdhepaaaGreatDoor
open Go.RowKit
open Go.Proofs
open Go.Maps
structure UsAt (l : List Dt) (A : Option Addr) (c : Nat) (bs : List Bool) (g bS : Nat) (w : World) : Prop where
 blk : Blk w bS #[.slice A l.length c, .slice (some ⟨g, 0, none⟩) l.length l.length] 79
 dts : DtsIn w.heap.size w A l
 bools : BoolsAt w.heap.size w (some ⟨g, 0, none⟩) bs
 blen : bs.length = l.length
theorem UsAt.next {l : List Dt} {A : Option Addr} {c : Nat} {bs : List Bool} {g bS : Nat} {w w1 : World} (h : UsAt l A c bs g bS w) (hb : Below w.heap.size w w1) : UsAt l A c bs g bS w1 := ⟨h.blk.below hb h.blk.lt, h.dts.next hb, h.bools.next hb, h.blen⟩
structure UsIn (l : List Dt) (A : Option Addr) (c : Nat) (bs : List Bool) (g bS : Nat) (tys : Rt) (A2 : Option Addr) (rows : List Rw) (row : Rw) (w : World) : Prop where
 us : UsAt l A c bs g bS w
 dlen : ∀ d ∈ l, d.cons.length ≤ 1048576
 tin : tys.In w.heap.size w
 tok : ∀ t ∈ tys.tys, okT l t
 rin : RowsIn w.heap.size w A2 rows
 rok : ∀ r ∈ rows, POks l tys.tys r.pats
 rlen : rows.length ≤ 1000
 win : row.In w.heap.size w
 wok : POks l tys.tys row.pats
def UsPost (l : List Dt) (ts : List Ty) (rows : List (List Pt)) (row : List Pt) (w : World) (e : Ending) (w' : World) : Prop := Below w.heap.size w w' ∧ ∃ b, e = .returned (.bool b) ∧ (b = true ↔ Useful l ts rows row)
def UsTo (l : List Dt) (A : Option Addr) (c : Nat) (bs : List Bool) (g bS : Nat) (n : Nat) : Prop := ∀ (tys : Rt) (A2 : Option Addr) (rows : List Rw) (c2 : Nat) (row : Rw) (w : World), UsIn l A c bs g bS tys A2 rows row w → sizeL tys.tys (patsL rows) row.pats ≤ n →
 Calls Tryz.prog 42 #[.pointer (some ⟨bS, 0, none⟩), .slice A2 rows.length c2, row.val, tys.val] w (UsPost l tys.tys (patsL rows) row.pats w)
theorem UsPost.of {l : List Dt} {ts : List Ty} {rows : List (List Pt)} {row : List Pt} {w w' : World} {b : Bool} (hb : Below w.heap.size w w') (h : b = true ↔ Useful l ts rows row) : UsPost l ts rows row w (.returned (.bool b)) w' := ⟨hb, b, rfl, h⟩
set_option maxRecDepth 100000 in
set_option maxHeartbeats 2000000 in
theorem rus_nil (l : List Dt) (A : Option Addr) (c : Nat) (bs : List Bool) (g bS : Nat) (At : Option Addr) (ct : Nat) (A2 : Option Addr) (rows : List Rw) (c2 : Nat) (row : Rw) (w : World) (h : UsIn l A c bs g bS ⟨At, ct, []⟩ A2 rows row w) :
  Calls Tryz.prog 42 #[.pointer (some ⟨bS, 0, none⟩), .slice A2 rows.length c2, row.val, (Rt.mk At ct []).val] w (UsPost l [] (patsL rows) row.pats w) := by
 have hu := useful_nil l (patsL rows) row.pats (fun r hr => by
  obtain ⟨x, hx, rfl⟩ := List.mem_map.1 hr
  exact h.rok x hx)
 have HU := Lib.hid (show (((rows.length : Int) == 0) = true) ↔ Useful l [] (patsL rows) row.pats by
  rw [hu]
  unfold patsL
  rw [List.map_eq_nil_iff]
  cases rows with
  | nil => simp
  | cons a b => simp; omega)
 have hl := h.rlen
 clear h hu
 unfold Rt.val Rw.val
 simp only [List.length_nil]
 obtain ⟨z, hz⟩ : ∃ z, ((rows.length : Int) == 0) = z := ⟨_, rfl⟩
 rw [hz] at HU
 go_enter Tryz.func42, Tryz.ntmps42
 go_wp2_with fail
 exact bodyPost_ret (v := .bool z) (by simp [results, Tryz.results42, go_sem]) rfl (UsPost.of (Below.refl _ _) HU.out)
def flatTo (p : Pt) (rs : List Rw) (k : Nat) : Bool := (headsTo rs k ++ [p]).all fun q => wildD q.dof
theorem flatTo_zero (p : Pt) (rs : List Rw) : flatTo p rs 0 = wildD p.dof := by unfold flatTo headsTo; simp
theorem flatTo_succ {p : Pt} {rs : List Rw} {k : Nat} {r : Rw} {q : Pt} (h : rs[k]? = some r) (hq : r.pats[0]? = some q) : flatTo p rs (k + 1) = (flatTo p rs k && wildD q.dof) := by
 unfold flatTo
 rw [headsTo_succ h hq]
 simp only [List.all_append, List.all_cons, List.all_nil, Bool.and_true]
 cases (headsTo rs k).all (fun q => wildD q.dof) <;> cases wildD q.dof <;> cases wildD p.dof <;> rfl
end Go.Proofs.YtjeggkfgdhepaaaGreatDoor

namespace Go.Proofs.YtjeggkfgdhepaaaGreatDoor
open Go.RowKit
open Go.Proofs
open Go.Maps
def SUW (bS : Nat) (A : Option Addr) (n c g bt ot : Nat) (t : Ty) (W : World) : Prop := W.cell? ⟨bS, 0, none⟩ = some (.slice A n c) ∧ W.cell? ⟨bS, 1, none⟩ = some (.slice (some ⟨g, 0, none⟩) n n) ∧ bS < W.heap.size ∧ bt < W.heap.size ∧
 W.cell? ⟨bt, ot, none⟩ = some (.string t.dof) ∧ W.cell? ⟨bt, ot + 1, none⟩ = some (.string t.name) ∧ W.cell? ⟨bt, ot + 2, none⟩ = some (.slice t.at_ t.args.length t.cap)
theorem us_flat_in {l : List Dt} {A : Option Addr} {c : Nat} {bs : List Bool} {g bS : Nat} {bt ot ct : Nat} {t : Ty} {ts : List Ty} {A2 : Option Addr} {rs : List Rw} {b1 off1 cr : Nat} {p : Pt} {ps : List Pt} {w W0 W : World} {B : Nat} {A' : Option Addr} {c' : Nat}
  (h : UsIn l A c bs g bS ⟨some ⟨bt, ot, none⟩, ct, t :: ts⟩ A2 rs ⟨some ⟨b1, off1, none⟩, cr, p :: ps⟩ w) (hb : Below w.heap.size w W0) (ho : W0.ownsRow B 26 1 (.slice A' rs.length c') rs.length ((rs.map fun r => (tailRw r).val).take rs.length)) (hb2 : Below W0.heap.size W0 W) :
  UsIn l A c bs g bS ⟨tailAd 3 bt ot ct, ct - 1, ts⟩ A' (rs.map tailRw) ⟨tailAd 4 b1 off1 cr, cr - 1, ps⟩ W := by
 have hd := hb.trans (hb2.mono hb.size)
 have hlen : ∀ r ∈ rs, 0 < r.pats.length := fun r hr => by
  have := (h.rok r hr).length
  simp only [List.length_cons] at this
  omega
 have ht : ∀ r ∈ rs, (tailRw r).In W.heap.size W ∧ (tailRw r).pats = r.pats.tail := fun r hr =>
  tail_in2 (((h.rin.each r hr).keep hd).wider hd.size) (hlen r hr)
 have hrow := (RowAt.keep (row_vals ho) hb2).wider hb2.size
 have htl : (rs.map fun r => (tailRw r).val).take rs.length = rs.map fun r => (tailRw r).val := by
  have := List.take_length (l := rs.map fun r => (tailRw r).val)
  rwa [List.length_map] at this
 rw [htl, List.map_map] at hrow
 have htail : ∀ {qs : List Pt}, POks l (t :: ts) qs → POks l ts qs.tail := fun hq => by
  cases hq with
  | cons _ k => exact k
 exact {
  us := h.us.next hd
  dlen := h.dlen
  tin := (Rt.In.keep (tail_ty h.tin) hd).wider hd.size
  tok := fun u hu => h.tok u (by simp [hu])
  rin := ⟨by rw [List.map_map]; exact hrow, fun r hr => by
   obtain ⟨x, hx, rfl⟩ := List.mem_map.1 hr
   exact (ht x hx).1, by have := h.rlen; simp; omega⟩
  rok := fun r hr => by
   obtain ⟨x, hx, rfl⟩ := List.mem_map.1 hr
   rw [(ht x hx).2]
   exact htail (h.rok x hx)
  rlen := by have := h.rlen; simpa using this
  win := (Rw.In.keep (tail_in h.win) hd).wider hd.size
  wok := htail h.wok }
set_option maxRecDepth 100000 in
set_option maxHeartbeats 16000000 in
theorem rus_wild (l : List Dt) (hr : Right l) (A : Option Addr) (c : Nat) (bs : List Bool) (g bS : Nat) (hinh : Inh l (someB l bs)) (n : Nat) (ih : UsTo l A c bs g bS n) (bt ot ct : Nat) (t : Ty) (ts : List Ty) (A2 : Option Addr) (rs : List Rw) (c2 : Nat) (b1 off1 cr : Nat) (p : Pt) (ps : List Pt) (w : World)
  (h : UsIn l A c bs g bS ⟨some ⟨bt, ot, none⟩, ct, t :: ts⟩ A2 rs ⟨some ⟨b1, off1, none⟩, cr, p :: ps⟩ w) (hn : sizeL (t :: ts) (patsL rs) (p :: ps) ≤ n + 1) (hn2 : n < 100000) (hwild : flatTo p rs rs.length = true) :
  Calls Tryz.prog 42 #[.pointer (some ⟨bS, 0, none⟩), .slice A2 rs.length c2, .slice (some ⟨b1, off1, none⟩) (ps.length + 1) cr, .slice (some ⟨bt, ot, none⟩) (ts.length + 1) ct] w (UsPost l (t :: ts) (patsL rs) (p :: ps) w) := by
 have H := Lib.hid h
 have HRS := Lib.hid h.rin
 obtain ⟨t', bt', ot', ht, -, hat, hbt, y0, y1, y2⟩ := Ty.arg_at (k := 0) h.tin.1 (Below.refl _ _) (by simp)
 obtain ⟨p', b1', off1', hp, -, hap, hb1, z0, z1, z2, z3⟩ := Pt.arg_at (k := 0) h.win.1 (Below.refl _ _) (by simp)
 simp only [List.getElem?_cons_zero, Option.some.injEq] at ht hp
 simp only [Option.some.injEq, Addr.mk.injEq, and_true] at hat hap
 subst ht
 subst hp
 obtain ⟨rfl, rfl⟩ := hat
 obtain ⟨rfl, rfl⟩ := hap
 simp only [Nat.zero_mul, Nat.add_zero] at y0 y1 y2 z0 z1 z2 z3
 have HNE := Lib.hid (fun (r : Rw) (hr : r ∈ rs) => (show 0 < r.pats.length by
  have := (h.rok r hr).length
  simp only [List.length_cons] at this
  omega))
 have HY := Lib.hid (fun W (hW : Below w.heap.size w W) => (And.intro ((hW.cell (p := ⟨bt, ot, none⟩) hbt).trans y0) (And.intro ((hW.cell (p := ⟨bt, ot + 1, none⟩) hbt).trans y1) ((hW.cell (p := ⟨bt, ot + 2, none⟩) hbt).trans y2))))
 have HZ := Lib.hid (fun W (hW : Below w.heap.size w W) => (⟨(hW.cell (p := ⟨b1, off1, none⟩) hb1).trans z0, (hW.cell (p := ⟨b1, off1 + 1, none⟩) hb1).trans z1, (hW.cell (p := ⟨b1, off1 + 2, none⟩) hb1).trans z2, (hW.cell (p := ⟨b1, off1 + 3, none⟩) hb1).trans z3⟩ : P4 b1 off1 p W))
 have HN := Lib.hid hn
 have HWILD := Lib.hid hwild
 have HR := Lib.hid hr
 have HINH := Lib.hid hinh
 have HIH := Lib.hid ih
 have hlen := h.rlen
 have hcc : ts.length + 1 ≤ ct ∧ ct ≤ 9223372036854775807 := by have := h.tin.2.2; simpa using this
 have hcr : ps.length + 1 ≤ cr ∧ cr ≤ 9223372036854775807 := by have := h.win.2.2; simpa using this
 have hlt0 : ts.length ≤ 100000 := by unfold sizeL at hn; simp only [List.length_cons] at hn; omega
 have HLP := Lib.hid (show ps.length = ts.length by have := h.wok.length; simp only [List.length_cons] at this; omega)
 have hlp : ps.length ≤ 100000 := by rw [HLP.out]; exact hlt0
 clear h hn hwild hr ih hinh
 obtain ⟨i0, hi, hz0, hz1, hz2⟩ := info_parts infoPat
 obtain ⟨i1, hj, hw0, hw1, hw2⟩ := info_parts infoRow
 have HCW := Lib.hid (fun (q : Pt) (W : World) => rwild_any q W)
 unfold Pt.val at HCW
 go_enter Tryz.func42, Tryz.ntmps42
 go_wp2_with fail
 clear y0 y1 y2 z0 z1 z2 z3
 refine Calls.mono (HCW.out p _) ?_
 rintro e w1 ⟨rfl, hb1w⟩
 have HB1 := Lib.hid hb1w
 clear hb1w
 go_wp2_with fail
 go_loopw [38, 9, 10] (fun iv cv fv wr => ∃ (k : Nat) (Ac : Option Addr) (cc : Nat), iv = .int .i64 k ∧ cv = .slice Ac k cc ∧ fv = .bool (flatTo p rs k) ∧ k ≤ rs.length ∧ Hid (Below w.heap.size w wr) ∧ Hid (wr.ownsRow w.heap.size 28 4 (.slice Ac k cc) k (((headsTo rs k).map Pt.cells).flatten))) (fun iv _ _ _ => rs.length - (intOf iv).toNat)
 case atStart => exact ⟨0, none, 0, rfl, rfl, by rw [flatTo_zero], Nat.zero_le _, HB1.out, World.ownsRow_nil _ _ _ _⟩
 case round =>
  obtain ⟨k, Ac, cc, rfl, rfl, rfl, hk, HB, HO⟩ := hrel
  by_cases hlt : k < rs.length
  ·obtain ⟨r, b0, off, hr, hmem, rfl, hb, x0⟩ := HRS.out.arg_at HB.out hlt
   obtain ⟨ra, rc, rp⟩ := r
   have hri := HRS.out.each _ hmem
   obtain ⟨q, b2, off2, hq, hqm, hra, hb2, z0, z1, z2, z3⟩ := Pt.arg_at (k := 0) hri.1 HB.out (HNE.out _ hmem)
   simp only at hra
   subst hra
   have HSU := Lib.hid (headsTo_succ hr hq)
   have HFS := Lib.hid (flatTo_succ (p := p) hr hq)
   have hs0 := HB.out.size
   have hpos := HNE.out _ hmem
   have hrc : rp.length ≤ rc := hri.2.2.1
   have HZ2 := Lib.hid (fun W (hW : Below w.heap.size w W) => (hri.2.1 q hqm).next hW)
   have HRW := Lib.hid hri
   have HQ0 := Lib.hid hq
   simp only [Nat.zero_mul, Nat.add_zero] at z0 z1 z2 z3 hpos
   unfold Rw.val at x0
   clear hr hq hri
   go_wp2_with (at_builtin; go_must (refine wpList_append_own_at _ rfl (.tmp 42) (.tmp 46) 26 rfl w.heap.size 28 i0 _ 4 64 Tryz.underlying26 hi hz0 hz1 hz2 rfl (by decide) (.slice Ac k cc) k (((headsTo rs k).map Pt.cells).flatten) rfl ?hown ⟨wr.heap.size, 0, none⟩ 1 1 q.cells rfl rfl ?c1 ?c2 ?c3 ?c4 ?c5 ?_))
   case hown => exact World.ownsRow.alloc HO.out _
   case c1 => exact fun j u hu => hu
   case c2 => simp [Value.oneCell', Pt.cells]
   case c3 => unfold maxLen; omega
   case c4 => omega
   case c5 => first | omega | (simp; omega)
   intro v' w2 hown hgrow _ _
   obtain ⟨A2', c2', rfl, -⟩ := row_slice hown
   have hbb : Below w.heap.size w w2 := (HB.out.alloc hs0 _).grown hgrow (by simp; omega) (fun i hi => (HO.out.lt i hi).1)
   have HB2 := Lib.hid hbb
   have HO2 := Lib.hid (show w2.ownsRow w.heap.size 28 4 (.slice A2' (k + 1) c2') (k + 1) (((headsTo rs (k + 1)).map Pt.cells).flatten) by
    rw [HSU.out, List.map_append, List.flatten_append]
    simpa using hown)
   obtain ⟨q', b3, off3, hq', -, hra3, hb3, z0', z1', z2', z3'⟩ := Pt.arg_at (k := 0) HRW.out.1 hbb hpos
   have hq2 := HQ0.out.symm.trans hq'
   simp only [Option.some.injEq] at hq2
   subst hq2
   simp only [Option.some.injEq, Addr.mk.injEq, and_true] at hra3
   obtain ⟨rfl, rfl⟩ := hra3
   simp only [Nat.zero_mul, Nat.add_zero] at z0' z1' z2' z3'
   have hbx := hbb.size
   clear hown hgrow hbb x0 z0 z1 z2 z3 hq'
   cases hfl : flatTo p rs k
   case false =>
    rw [hfl] at HFS
    have HF2 := Lib.hid (show flatTo p rs (k + 1) = false by rw [HFS.out]; rfl)
    go_wp2_with fail
    exact ⟨⟨k + 1, A2', c2', by go_num, rfl, by rw [HF2.out], by omega, HB2.out, HO2.out⟩, by simp [intOf]; omega⟩
   case true =>
    rw [hfl] at HFS
    go_wp2_with fail
    refine Calls.mono (HCW.out _ _) ?_
    rintro e w3 ⟨rfl, hb3w⟩
    have HB3 := Lib.hid (HB2.out.trans (hb3w.mono HB2.out.size))
    have HO3 := Lib.hid (row_stays HO2.out fun i hi => hb3w.block i (HO2.out.lt i hi).2)
    clear hb3w
    go_wp2_with fail
    exact ⟨⟨k + 1, A2', c2', by go_num, rfl, by rw [HFS.out]; simp, by omega, HB3.out, HO3.out⟩, by simp [intOf]; omega⟩
  ·have hk2 : k = rs.length := by omega
   subst hk2
   rw [HWILD.out]
   have HOKT := Lib.hid (H.out.tok t (by simp))
   have HTI := Lib.hid (H.out.tin.2.1 t (by simp))
   have HALLW := Lib.hid (show wildD p.dof = true ∧ ∀ r ∈ patsL rs, ∀ q r', r = q :: r' → wildD q.dof = true from heads_all HWILD.out)
   have HU := Lib.hid (useful_flat l t ts (patsL rs) p ps (fun r hr => by
    obtain ⟨x, hx, rfl⟩ := List.mem_map.1 hr
    exact H.out.rok x hx) HALLW.out.1 HALLW.out.2)
   have HOKV := Lib.hid (hasV_iff HR.out HINH.out HOKT.out)
   have HCALL := Lib.hid (fun (W : World) (hW : Below w.heap.size w W) => (by
    have hu := H.out.us.next hW
    have h := hasVal_any A l c (some ⟨g, 0, none⟩) bs l.length hu.blen t W HOKT.out (HTI.out.next hW) hu.dts hu.bools
    rw [hu.blen] at h
    exact h : Calls Tryz.prog 80 #[.slice A l.length c, .slice (some ⟨g, 0, none⟩) l.length l.length, t.val] W fun e w' => e = .returned (.bool (hasV (someB l bs) t)) ∧ Below W.heap.size W w'))
   obtain ⟨hv, hhv⟩ : ∃ x, hasV (someB l bs) t = x := ⟨_, rfl⟩
   rw [hhv] at HCALL HOKV
   unfold Ty.val at HCALL
   clear HO hhv HALLW
   go_wp2_with fail
   obtain ⟨wo, rfl⟩ : ∃ wo : World, wo = wr := ⟨_, rfl⟩
   go_loopw [59, 13] (fun iv ov wr => ∃ (k : Nat) (A' : Option Addr) (c' : Nat), iv = .int .i64 k ∧ k ≤ rs.length ∧ ov = .slice A' k c' ∧ Hid (Below w.heap.size w wr) ∧ Hid (wr.ownsRow w.heap.size 26 1 (.slice A' k c') k ((rs.map fun r => (tailRw r).val).take k))) (fun iv _ _ => rs.length - (intOf iv).toNat)
   case atStart => exact ⟨0, none, 0, rfl, Nat.zero_le _, rfl, HB.out, Lib.hid (World.ownsRow_nil _ _ _ _)⟩
   case round =>
    obtain ⟨k, A', c', rfl, hk, rfl, HB, HO⟩ := hrel
    have hs0 := HB.out.size
    by_cases hlt : k < rs.length
    ·obtain ⟨r, b0, off, hr, hmem, rfl, hb, x0⟩ := HRS.out.arg_at HB.out hlt
     have HTS := Lib.hid (take_snoc (l := rs.map fun r => (tailRw r).val) (q := (tailRw r).val) (by rw [List.getElem?_map, hr]; rfl))
     obtain ⟨ra, rc, rp⟩ := r
     cases rp with
     | nil => exact absurd (HNE.out _ hmem) (by simp)
     | cons q qs =>
     have hri := HRS.out.each _ hmem
     obtain ⟨b2, off2, rfl, hb2⟩ := hri.some
     have hrc : qs.length + 1 ≤ rc ∧ rc ≤ 9223372036854775807 := by have := hri.2.2; simpa using this
     unfold Rw.val at x0
     simp only [List.length_cons] at x0
     clear hr hri hmem
     by_cases hc1 : rc = 1
     ·subst hc1
      have hqs : qs = [] := List.eq_nil_of_length_eq_zero (by omega)
      subst hqs
      simp only [List.length_nil, Nat.zero_add] at x0
      have HTV := Lib.hid (show (tailRw ⟨some ⟨b2, off2, none⟩, 1, [q]⟩).val = .slice (some ⟨b2, off2, none⟩) 0 0 from rfl)
      go_wp2_with (at_builtin; go_must (refine wpList_append_own_at _ rfl (.tmp 63) (.tmp 66) 80 rfl w.heap.size 26 i1 _ 1 24 Tryz.underlying80 hj hw0 hw1 hw2 rfl (by decide) (.slice A' k c') k ((rs.map fun r => (tailRw r).val).take k) rfl ?ha0 ⟨wr.heap.size, 0, none⟩ 1 1 [.slice (some ⟨b2, off2, none⟩) 0 0] rfl rfl ?ha1 ?ha2 ?ha3 ?ha4 ?ha5 ?_))
      case ha0 => exact World.ownsRow.alloc HO.out _
      case ha1 => exact World.news_of_block (heap_alloc_new wr _)
      case ha2 => simp [Value.oneCell']
      case ha3 => unfold maxLen; omega
      case ha4 => omega
      case ha5 => first | omega | (simp; omega)
      intro v' w5 hown hgrow _ _
      obtain ⟨A5, c5, rfl, -⟩ := row_slice hown
      have hb5 : Below w.heap.size w w5 := (HB.out.alloc hs0 _).grown hgrow (by simp; omega) (fun i hi => by have := (HO.out.lt i hi).1; omega)
      have HB5 := Lib.hid hb5
      have HO5 := Lib.hid hown
      clear hown hgrow hb5 x0
      go_wp2_with fail
      refine ⟨⟨k + 1, A5, c5, by go_num, by omega, rfl, HB5.out, Lib.hid ?_⟩, by simp [intOf]; omega⟩
      rw [HTS.out, HTV.out]
      exact HO5.out
     ·have HTV := Lib.hid (show (tailRw ⟨some ⟨b2, off2, none⟩, rc, q :: qs⟩).val = .slice (some ⟨b2, off2 + 4, none⟩) qs.length (rc - 1) by rw [tailRw_mk]; unfold tailAd Rw.val; simp [hc1])
      go_wp2_with (at_builtin; go_must (refine wpList_append_own_at _ rfl (.tmp 63) (.tmp 66) 80 rfl w.heap.size 26 i1 _ 1 24 Tryz.underlying80 hj hw0 hw1 hw2 rfl (by decide) (.slice A' k c') k ((rs.map fun r => (tailRw r).val).take k) rfl ?hb0 ⟨wr.heap.size, 0, none⟩ 1 1 [.slice (some ⟨b2, off2 + 4, none⟩) qs.length (rc - 1)] rfl rfl ?hb1 ?hb2 ?hb3 ?hb4 ?hb5 ?_))
      case hb0 => exact World.ownsRow.alloc HO.out _
      case hb1 => exact World.news_of_block (heap_alloc_new wr _)
      case hb2 => simp [Value.oneCell']
      case hb3 => unfold maxLen; omega
      case hb4 => omega
      case hb5 => first | omega | (simp; omega)
      intro v' w5 hown hgrow _ _
      obtain ⟨A5, c5, rfl, -⟩ := row_slice hown
      have hb5 : Below w.heap.size w w5 := (HB.out.alloc hs0 _).grown hgrow (by simp; omega) (fun i hi => by have := (HO.out.lt i hi).1; omega)
      have HB5 := Lib.hid hb5
      have HO5 := Lib.hid hown
      clear hown hgrow hb5 x0
      go_wp2_with fail
      refine ⟨⟨k + 1, A5, c5, by go_num, by omega, rfl, HB5.out, Lib.hid ?_⟩, by simp [intOf]; omega⟩
      rw [HTS.out, HTV.out]
      exact HO5.out
    ·have hk2 : k = rs.length := by omega
     subst hk2
     have HBX := Lib.hid (fun (W : World) (hW : Below wr.heap.size wr W) => (show SUW bS A l.length c g bt ot t W from by
      have hw := HB.out.trans (hW.mono HB.out.size)
      have hu := H.out.us.next hw
      obtain ⟨q0, q1, q2⟩ := HY.out W hw
      exact ⟨hu.blk.cell 0, hu.blk.cell 1, hu.blk.lt, by have := hw.size; omega, q0, q1, q2⟩))
     have HSZ := Lib.hid (show sizeL ts (patsL (rs.map tailRw)) ps ≤ n by
      have h1 := HN.out
      rw [tail_pats (fun r hr => (HRS.out.each r hr)) HNE.out]
      have h2 := tails_weight (patsL rs)
      have h3 : rowW ps ≤ rowW (p :: ps) := by
       have : rowW (p :: ps) = p.weight + rowW ps := by unfold rowW; simp
       omega
      unfold sizeL at h1 ⊢
      simp only [List.length_cons] at h1
      omega)
     have HPT := Lib.hid (show patsL (rs.map tailRw) = (patsL rs).map List.tail from tail_pats (fun r hr => HRS.out.each r hr) HNE.out)
     have HREC := Lib.hid (fun (W : World) (hW : Below wr.heap.size wr W) => (by
      have h := HIH.out ⟨tailAd 3 bt ot ct, ct - 1, ts⟩ A' (rs.map tailRw) c' ⟨tailAd 4 b1 off1 cr, cr - 1, ps⟩ W (us_flat_in H.out HB.out HO.out hW) HSZ.out
      rw [List.length_map] at h
      exact h : Calls Tryz.prog 42 #[.pointer (some ⟨bS, 0, none⟩), .slice A' rs.length c', .slice (tailAd 4 b1 off1 cr) ps.length (cr - 1), .slice (tailAd 3 bt ot ct) ts.length (ct - 1)] W (UsPost l ts (patsL (rs.map tailRw)) ps W)))
     unfold UsPost at HREC
     have hn0 : -9223372036854775808 ≤ (0 : Int) := by decide
     go_wp2_with fail
     refine region_mix (SUW bS A l.length c g bt ot t) [(0, true), (1, true), (2, true), (3, true), (4, true), (5, true), (6, true), (7, true), (8, true), (9, true), (10, true), (11, false), (12, false), (13, true), (14, true), (15, true), (16, true), (17, true), (18, true), (19, false), (20, false), (21, false)] 19 (by kernel_rfl) (by kernel_rfl) (HBX.out _ (Below.refl _ _).drew) ?_
     simp only [pickM, List.filterMap_cons, List.getElem?_cons_zero, List.getElem?_cons_succ, List.filterMap_nil, Option.map_some]
     iterate 11
      refine wpMix_read ?_ (by rfl) (fun W hW => ?_) ?_
      rotate_left
      ·unfold SUW at hW
       go_simp
       try with_reducible rfl
      simp only [Act.put, List.setIfInBounds_toArray, List.set_cons_zero, List.set_cons_succ]
     refine wpMix_step rfl (fun K hK => ?_)
     go_simp
     refine Calls.mono (HCALL.out _ HB.out.drew) ?_
     rintro e w6 ⟨rfl, hb6⟩
     have HD6 := Lib.hid ((Below.refl wr.heap.size wr).drew.trans (hb6.mono (Below.refl wr.heap.size wr).drew.size))
     clear hb6
     refine hK _ _ (fun _ => HBX.out _ HD6.out) ?_
     clear hK K
     refine wpMix_step rfl (fun K hK => ?_)
     go_simp
     refine hK _ _ (fun _ => HBX.out _ HD6.out) ?_
     clear hK K
     cases hv
     case false =>
      iterate 6
       refine wpMix_none (by rfl) ?_
       simp only [Act.put, List.setIfInBounds_toArray, List.set_cons_zero, List.set_cons_succ]
      refine wpMix_skip (by rfl) (HBX.out _ HD6.out) ?_
      simp only [Act.put, List.setIfInBounds_toArray, List.set_cons_zero, List.set_cons_succ]
      iterate 2
       refine wpMix_step rfl (fun K hK => ?_)
       go_simp
       refine hK _ _ (fun h => absurd h (by decide)) ?_
       clear hK K
      refine wpMix_nil ?_
      refine NoPanic.normal ?_
      go_wp2_with fail
      exact bodyPost_ret (v := .bool false) (by simp [results, Tryz.results42, go_sem]) rfl (UsPost.of (HB.out.trans (HD6.out.mono HB.out.size)) ⟨fun h => (by cases h), fun h => (by have := HOKV.out.2 (HU.out.1 h).1; first | (cases this; done) | exact this.elim | simp at this)⟩)
     case true =>
      iterate 3
       refine wpMix_read ?_ (by rfl) (fun W hW => ?_) ?_
       rotate_left
       ·unfold SUW at hW
        go_simp
        try with_reducible rfl
       simp only [Act.put, List.setIfInBounds_toArray, List.set_cons_zero, List.set_cons_succ]
      refine wpMix_read (.slice (tailAd 4 b1 off1 cr) ps.length (cr - 1)) (by rfl) (fun W hW => ?_) ?_
      ·unfold tailAd
       by_cases hc1 : cr = 1
       ·subst hc1
        have hps : ps = [] := List.eq_nil_of_length_eq_zero (by omega)
        rw [hps]
        go_simp
       ·rw [if_neg hc1]
        go_simp
        all_goals (try (intro h9; omega))
      simp only [Act.put, List.setIfInBounds_toArray, List.set_cons_zero, List.set_cons_succ]
      refine wpMix_read ?_ (by rfl) (fun W hW => ?_) ?_
      rotate_left
      ·unfold SUW at hW
       go_simp
       try with_reducible rfl
      simp only [Act.put, List.setIfInBounds_toArray, List.set_cons_zero, List.set_cons_succ]
      refine wpMix_read (.slice (tailAd 3 bt ot ct) ts.length (ct - 1)) (by rfl) (fun W hW => ?_) ?_
      ·unfold tailAd
       by_cases hc1 : ct = 1
       ·subst hc1
        have hts : ts = [] := List.eq_nil_of_length_eq_zero (by omega)
        rw [hts]
        go_simp
       ·rw [if_neg hc1]
        go_simp
        all_goals (try (intro h9; omega))
      simp only [Act.put, List.setIfInBounds_toArray, List.set_cons_zero, List.set_cons_succ]
      refine wpMix_stepw (by rfl) (fun K hK => ?_)
      go_simp
      refine Calls.mono (HREC.out _ HD6.out) ?_
      rintro e w7 ⟨hb7, b, rfl, hbu⟩
      have HD7 := Lib.hid (HD6.out.trans (hb7.mono HD6.out.size))
      have HBU := Lib.hid hbu
      clear hb7 hbu
      refine hK _ _ (fun h => absurd h (by decide)) ?_
      clear hK K
      iterate 2
       refine wpMix_step rfl (fun K hK => ?_)
       go_simp
       refine hK _ _ (fun h => absurd h (by decide)) ?_
       clear hK K
      refine wpMix_nil ?_
      refine NoPanic.normal ?_
      go_wp2_with fail
      exact bodyPost_ret (v := .bool b) (by simp [results, Tryz.results42, go_sem]) rfl (UsPost.of (HB.out.trans (HD7.out.mono HB.out.size)) (by rw [HBU.out, HPT.out, HU.out]; exact ⟨fun h => ⟨HOKV.out.1 (by simp), h⟩, fun h => h.2⟩))
end Go.Proofs.YtjeggkfgdhepaaaGreatDoor
