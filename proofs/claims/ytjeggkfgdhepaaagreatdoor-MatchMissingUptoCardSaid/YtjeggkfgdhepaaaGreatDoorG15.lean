/- The reference's useful by the shapes of a type. -/
import Derived.Test.YtjeggkfgdhepaaaGreatDoorG14
set_option linter.unusedVariables false
set_option linter.unusedSimpArgs false
namespace Go.Proofs.YtjeggkfgdhepaaaGreatDoor
open Go.RowKit
open Go.Proofs
open Go.Maps
def SUF (bS : Nat) (A : Option Addr) (n c : Nat) (bt ot : Nat) (t : Ty) (b1 off1 : Nat) (p : Pt) (W : World) : Prop := W.cell? ⟨bS, 0, none⟩ = some (.slice A n c) ∧ bS < W.heap.size ∧ bt < W.heap.size ∧ b1 < W.heap.size ∧
 (W.cell? ⟨bt, ot, none⟩ = some (.string t.dof) ∧ W.cell? ⟨bt, ot + 1, none⟩ = some (.string t.name) ∧ W.cell? ⟨bt, ot + 2, none⟩ = some (.slice t.at_ t.args.length t.cap)) ∧
 W.cell? ⟨b1, off1, none⟩ = some (.string p.dof) ∧ W.cell? ⟨b1, off1 + 1, none⟩ = some (.string p.name) ∧ W.cell? ⟨b1, off1 + 2, none⟩ = some (.int .i64 p.num) ∧ W.cell? ⟨b1, off1 + 3, none⟩ = some (.slice p.at_ p.args.length p.cap)
def SUP (bS : Nat) (A : Option Addr) (n c : Nat) (bt ot : Nat) (t : Ty) (bx : Nat) (h : Pt) (W : World) : Prop := W.cell? ⟨bS, 0, none⟩ = some (.slice A n c) ∧ bS < W.heap.size ∧ bt < W.heap.size ∧ bx < W.heap.size ∧
 (W.cell? ⟨bt, ot, none⟩ = some (.string t.dof) ∧ W.cell? ⟨bt, ot + 1, none⟩ = some (.string t.name) ∧ W.cell? ⟨bt, ot + 2, none⟩ = some (.slice t.at_ t.args.length t.cap)) ∧
 W.cell? ⟨bx, 0, none⟩ = some (.string h.dof) ∧ W.cell? ⟨bx, 1, none⟩ = some (.string h.name) ∧ W.cell? ⟨bx, 2, none⟩ = some (.int .i64 h.num) ∧ W.cell? ⟨bx, 3, none⟩ = some (.slice h.at_ h.args.length h.cap)
theorem F2.get {α β : Type} {R : α → β → Prop} {l : List α} {m : List β} (h : F2 R l m) : ∀ (k : Nat) (b : β), m[k]? = some b → ∃ a, l[k]? = some a ∧ R a b := by
 induction h with
 | nil => intro k b hb; simp at hb
 | cons h1 _ ih =>
  intro k b hb
  cases k with
  | zero =>
   simp only [List.getElem?_cons_zero, Option.some.injEq] at hb
   subst hb
   exact ⟨_, rfl, h1⟩
  | succ k => exact ih k b (by simpa using hb)
theorem forms_cons {l : List Dt} {t : Ty} {col : List Pt} {fs : List Form} (h : IsForms l t col fs) {f : Form} (hf : f ∈ fs) (hc : (f.dof.toList == [99, 111, 110, 115]) = true) : isDo [108, 105, 115, 116] t.dof = true := by
 have key : ∀ d : ByteArray, (d.toList == [99, 111, 110, 115]) = false → f.dof = d → False := fun d hd he => by rw [he, hd] at hc; cases hc
 rcases h with ⟨hd, rfl⟩ | ⟨hd, rfl⟩ | ⟨hd, rfl⟩ | ⟨hd, rfl⟩ | ⟨hd, ns, m, rfl, hns⟩ | ⟨hd, rfl⟩
 ·simp only [List.mem_singleton] at hf
  exact (key dPair (by rw [l_pair]; decide) (by rw [hf])).elim
 ·exact hd
 ·simp only [List.mem_cons, List.not_mem_nil, or_false] at hf
  exact (key dBool (by rw [l_bool]; decide) (by rcases hf with rfl | rfl <;> rfl)).elim
 ·simp only [List.mem_singleton] at hf
  exact (key dUnit (by rw [l_unit]; decide) (by rw [hf])).elim
 ·refine (key dInt (by rw [l_int]; decide) ?_).elim
  rcases List.mem_append.1 hf with h | h
  ·obtain ⟨n, -, rfl⟩ := List.mem_map.1 h
   rfl
  ·simp only [List.mem_singleton] at h
   rw [h]
 ·obtain ⟨c, -, rfl⟩ := List.mem_map.1 hf
  exact (key dCon (by rw [l_con]; decide) rfl).elim
theorem us_open_in {l : List Dt} {A : Option Addr} {c : Nat} {bs : List Bool} {g bS : Nat} {bt ot ct : Nat} {t : Ty} {ts : List Ty} {A2 : Option Addr} {rs : List Rw} {b1 off1 cr : Nat} {p : Pt} {ps : List Pt} {w w4 wr W : World} {f : Form} {next : List Pt} {An A7 Aa : Option Addr} {cn c7 ca B7 : Nat} {acc : List Rw}
  (h : UsIn l A c bs g bS ⟨some ⟨bt, ot, none⟩, ct, t :: ts⟩ A2 rs ⟨some ⟨b1, off1, none⟩, cr, p :: ps⟩ w) (hf : FormOk l t f) (hti : ∀ u ∈ f.types, u.In w.heap.size w) (hon : opened f (p :: ps) = some next)
  (h4 : Below w.heap.size w w4) (hown4 : w4.ownsRow w.heap.size 28 4 (.slice An next.length cn) next.length ((next.map Pt.cells).flatten)) (hr : Below w4.heap.size w4 wr) (ho : wr.ownsRow w4.heap.size 26 1 (.slice Aa acc.length ca) acc.length (acc.map Rw.val)) (hor : ∀ r ∈ acc, OwnRw w4 wr r)
  (hpa : patsL acc = (patsL rs).filterMap (opened f)) (hal : acc.length ≤ rs.length) (hW : Below wr.heap.size wr W) (hown7 : W.ownsRow B7 25 3 (.slice A7 (f.types ++ ts).length c7) (f.types ++ ts).length (((f.types ++ ts).map Ty.cells).flatten)) :
  UsIn l A c bs g bS ⟨A7, c7, f.types ++ ts⟩ Aa acc ⟨An, cn, next⟩ W := by
 have hb4W : Below w4.heap.size w4 W := hr.trans (hW.mono hr.size)
 have hbW : Below w.heap.size w W := h4.trans (hb4W.mono h4.size)
 have hrow9 := row_vals (row_stays ho fun i hi => hW.block i (ho.lt i hi).2)
 rw [List.map_map] at hrow9
 have hnext : ∀ q ∈ next, q.In w4.heap.size w4 := opened_in (fun q hq => (h.win.2.1 q hq).next h4) hon
 have hlen := h.rlen
 exact {
  us := h.us.next hbW
  dlen := h.dlen
  tin := tysO_in hown7 fun u hu => by
   rcases List.mem_append.1 hu with hh | hh
   ·exact (hti u hh).next hbW
   ·exact (h.tin.2.1 u (by simp [hh])).next hbW
  tok := fun u hu => by
   rcases List.mem_append.1 hu with hh | hh
   ·exact hf.types u hh
   ·exact h.tok u (by simp [hh])
  rin := ⟨hrow9, fun r hr9 => Rw.In.wider (Rw.In.keep ((hor r hr9).in_ hr) hW) hW.size, by omega⟩
  rok := fun r hr9 => by
   have hm : r.pats ∈ (patsL rs).filterMap (opened f) := by
    rw [← hpa]
    exact List.mem_map.2 ⟨r, hr9, rfl⟩
   obtain ⟨y, hy, ho9⟩ := List.mem_filterMap.1 hm
   obtain ⟨x, hx, rfl⟩ := List.mem_map.1 hy
   exact opened_ok hf (h.rok x hx) ho9
  rlen := by omega
  win := Rw.In.wider (Rw.In.keep (PatsO.in_ hown4 hnext) hb4W) hb4W.size
  wok := opened_ok hf h.wok hon }
theorem us_size {l : List Dt} {t : Ty} {ts : List Ty} {rs : List Rw} {p : Pt} {ps next : List Pt} {f : Form} {n : Nat} (htwo : f.types.length ≤ 2) (hon : opened f (p :: ps) = some next) (hn : sizeL (t :: ts) (patsL rs) (p :: ps) ≤ n + 1) (htame : wildD p.dof = false ∨ ∃ q r, q :: r ∈ patsL rs ∧ wildD q.dof = false) :
  sizeL (f.types ++ ts) ((patsL rs).filterMap (opened f)) next ≤ n := by
 have g1 := filter_weight f (patsL rs)
 have g2 := opened_weight hon
 unfold sizeL at hn ⊢
 simp only [List.length_cons, List.length_append] at hn ⊢
 rcases htame with h | h
 ·have := g2.2 h
  omega
 ·have := g1.2 h
  omega
theorem us_call {n : Nat} {l : List Dt} {A : Option Addr} {c : Nat} {bs : List Bool} {g bS : Nat} {bt ot ct : Nat} {t : Ty} {ts : List Ty} {A2 : Option Addr} {rs : List Rw} {b1 off1 cr : Nat} {p : Pt} {ps : List Pt} {w w4 wr W : World} {f : Form} {next : List Pt} {An A7 Aa : Option Addr} {cn c7 ca B7 : Nat} {acc : List Rw}
  (ih : UsTo l A c bs g bS n) (h : UsIn l A c bs g bS ⟨some ⟨bt, ot, none⟩, ct, t :: ts⟩ A2 rs ⟨some ⟨b1, off1, none⟩, cr, p :: ps⟩ w) (hf : FormOk l t f) (hti : ∀ u ∈ f.types, u.In w.heap.size w) (hon : opened f (p :: ps) = some next)
  (h4 : Below w.heap.size w w4) (hown4 : w4.ownsRow w.heap.size 28 4 (.slice An next.length cn) next.length ((next.map Pt.cells).flatten)) (hr : Below w4.heap.size w4 wr) (ho : wr.ownsRow w4.heap.size 26 1 (.slice Aa acc.length ca) acc.length (acc.map Rw.val)) (hor : ∀ r ∈ acc, OwnRw w4 wr r)
  (hpa : patsL acc = (patsL rs).filterMap (opened f)) (hal : acc.length ≤ rs.length) (hW : Below wr.heap.size wr W) (k : Nat) (hk : k = (f.types ++ ts).length) (hown7 : W.ownsRow B7 25 3 (.slice A7 k c7) k (((f.types ++ ts).map Ty.cells).flatten)) (htwo : f.types.length ≤ 2) (hn : sizeL (t :: ts) (patsL rs) (p :: ps) ≤ n + 1) (htame : wildD p.dof = false ∨ ∃ q r, q :: r ∈ patsL rs ∧ wildD q.dof = false) :
  Calls Tryz.prog 42 #[.pointer (some ⟨bS, 0, none⟩), .slice Aa acc.length ca, .slice An next.length cn, .slice A7 k c7] W (UsPost l (f.types ++ ts) ((patsL rs).filterMap (opened f)) next W) := by
 subst hk
 have h8 := ih ⟨A7, c7, f.types ++ ts⟩ Aa acc ca ⟨An, cn, next⟩ W (us_open_in h hf hti hon h4 hown4 hr ho hor hpa hal hW hown7) (by
  rw [hpa]
  exact us_size (l := l) htwo hon hn htame)
 rw [hpa] at h8
 exact h8
theorem own_zero (w : World) (B : Nat) (hB : B ≤ w.heap.size) : (w.alloc (.cells #[] 25)).ownsRow B 25 3 (.slice (some ⟨w.heap.size, 0, none⟩) 0 0) 0 [] :=
 ⟨rfl, .inr ⟨_, 0, _, rfl, hB, heap_alloc_new w _, Nat.le_refl _, by decide, rfl, rfl⟩⟩
set_option maxRecDepth 100000 in
set_option maxHeartbeats 32000000 in
theorem rus_forms (l : List Dt) (hr : Right l) (A : Option Addr) (c : Nat) (bs : List Bool) (g bS : Nat) (hinh : Inh l (someB l bs)) (n : Nat) (ih : UsTo l A c bs g bS n) (bt ot ct : Nat) (t : Ty) (ts : List Ty) (A2 : Option Addr) (rs : List Rw) (c2 : Nat) (b1 off1 cr : Nat) (p : Pt) (ps : List Pt) (w : World)
  (h : UsIn l A c bs g bS ⟨some ⟨bt, ot, none⟩, ct, t :: ts⟩ A2 rs ⟨some ⟨b1, off1, none⟩, cr, p :: ps⟩ w) (hn : sizeL (t :: ts) (patsL rs) (p :: ps) ≤ n + 1) (hn2 : n < 100000) (hwild : flatTo p rs rs.length = false) :
  Calls Tryz.prog 42 #[.pointer (some ⟨bS, 0, none⟩), .slice A2 rs.length c2, .slice (some ⟨b1, off1, none⟩) (ps.length + 1) cr, .slice (some ⟨bt, ot, none⟩) (ts.length + 1) ct] w (UsPost l (t :: ts) (patsL rs) (p :: ps) w) := by
 have H := Lib.hid h
 have HRS := Lib.hid h.rin
 obtain ⟨t', bt', ot', ht, -, hat, hbt, y0, y1, y2⟩ := Ty.arg_at (k := 0) h.tin.1 (Below.refl _ _) (by simp)
 obtain ⟨p', b1', off1', hp, -, hap, hb1, z0, z1, z2, z3⟩ := Pt.arg_at (k := 0) h.win.1 (Below.refl _ _) (by simp)
 simp only [List.getElem?_cons_zero, Option.some.injEq] at ht hp
 simp only [Option.some.injEq, Addr.mk.injEq, and_true] at hat hap
 subst ht
 subst hp
 obtain ⟨rfl, rfl⟩ := hat
 obtain ⟨rfl, rfl⟩ := hap
 simp only [Nat.zero_mul, Nat.add_zero] at y0 y1 y2 z0 z1 z2 z3
 have HNE := Lib.hid (fun (r : Rw) (hr : r ∈ rs) => (show 0 < r.pats.length by
  have := (h.rok r hr).length
  simp only [List.length_cons] at this
  omega))
 have HY := Lib.hid (fun W (hW : Below w.heap.size w W) => (And.intro ((hW.cell (p := ⟨bt, ot, none⟩) hbt).trans y0) (And.intro ((hW.cell (p := ⟨bt, ot + 1, none⟩) hbt).trans y1) ((hW.cell (p := ⟨bt, ot + 2, none⟩) hbt).trans y2))))
 have HZ := Lib.hid (fun W (hW : Below w.heap.size w W) => (⟨(hW.cell (p := ⟨b1, off1, none⟩) hb1).trans z0, (hW.cell (p := ⟨b1, off1 + 1, none⟩) hb1).trans z1, (hW.cell (p := ⟨b1, off1 + 2, none⟩) hb1).trans z2, (hW.cell (p := ⟨b1, off1 + 3, none⟩) hb1).trans z3⟩ : P4 b1 off1 p W))
 have HN := Lib.hid hn
 have HWILD := Lib.hid hwild
 have HR := Lib.hid hr
 have HINH := Lib.hid hinh
 have HIH := Lib.hid ih
 have hlen := h.rlen
 have hcc : ts.length + 1 ≤ ct ∧ ct ≤ 9223372036854775807 := by have := h.tin.2.2; simpa using this
 have hcr : ps.length + 1 ≤ cr ∧ cr ≤ 9223372036854775807 := by have := h.win.2.2; simpa using this
 have hlt0 : ts.length ≤ 100000 := by unfold sizeL at hn; simp only [List.length_cons] at hn; omega
 have HLP := Lib.hid (show ps.length = ts.length by have := h.wok.length; simp only [List.length_cons] at this; omega)
 have hlp : ps.length ≤ 100000 := by rw [HLP.out]; exact hlt0
 clear h hn hwild hr ih hinh
 obtain ⟨i0, hi, hz0, hz1, hz2⟩ := info_parts infoPat
 obtain ⟨i1, hj, hw0, hw1, hw2⟩ := info_parts infoRow
 have HCW := Lib.hid (fun (q : Pt) (W : World) => rwild_any q W)
 unfold Pt.val at HCW
 go_enter Tryz.func42, Tryz.ntmps42
 go_wp2_with fail
 clear y0 y1 y2 z0 z1 z2 z3
 refine Calls.mono (HCW.out p _) ?_
 rintro e w1 ⟨rfl, hb1w⟩
 have HB1 := Lib.hid hb1w
 clear hb1w
 go_wp2_with fail
 go_loopw [38, 9, 10] (fun iv cv fv wr => ∃ (k : Nat) (Ac : Option Addr) (cc : Nat), iv = .int .i64 k ∧ cv = .slice Ac k cc ∧ fv = .bool (flatTo p rs k) ∧ k ≤ rs.length ∧ Hid (Below w.heap.size w wr) ∧ Hid (wr.ownsRow w.heap.size 28 4 (.slice Ac k cc) k (((headsTo rs k).map Pt.cells).flatten))) (fun iv _ _ _ => rs.length - (intOf iv).toNat)
 case atStart => exact ⟨0, none, 0, rfl, rfl, by rw [flatTo_zero], Nat.zero_le _, HB1.out, World.ownsRow_nil _ _ _ _⟩
 case round =>
  obtain ⟨k, Ac, cc, rfl, rfl, rfl, hk, HB, HO⟩ := hrel
  by_cases hlt : k < rs.length
  ·obtain ⟨r, b0, off, hr, hmem, rfl, hb, x0⟩ := HRS.out.arg_at HB.out hlt
   obtain ⟨ra, rc, rp⟩ := r
   have hri := HRS.out.each _ hmem
   obtain ⟨q, b2, off2, hq, hqm, hra, hb2, z0, z1, z2, z3⟩ := Pt.arg_at (k := 0) hri.1 HB.out (HNE.out _ hmem)
   simp only at hra
   subst hra
   have HSU := Lib.hid (headsTo_succ hr hq)
   have HFS := Lib.hid (flatTo_succ (p := p) hr hq)
   have hs0 := HB.out.size
   have hpos := HNE.out _ hmem
   have hrc : rp.length ≤ rc := hri.2.2.1
   have HZ2 := Lib.hid (fun W (hW : Below w.heap.size w W) => (hri.2.1 q hqm).next hW)
   have HRW := Lib.hid hri
   have HQ0 := Lib.hid hq
   simp only [Nat.zero_mul, Nat.add_zero] at z0 z1 z2 z3 hpos
   unfold Rw.val at x0
   clear hr hq hri
   go_wp2_with (at_builtin; go_must (refine wpList_append_own_at _ rfl (.tmp 42) (.tmp 46) 26 rfl w.heap.size 28 i0 _ 4 64 Tryz.underlying26 hi hz0 hz1 hz2 rfl (by decide) (.slice Ac k cc) k (((headsTo rs k).map Pt.cells).flatten) rfl ?hown ⟨wr.heap.size, 0, none⟩ 1 1 q.cells rfl rfl ?c1 ?c2 ?c3 ?c4 ?c5 ?_))
   case hown => exact World.ownsRow.alloc HO.out _
   case c1 => exact fun j u hu => hu
   case c2 => simp [Value.oneCell', Pt.cells]
   case c3 => unfold maxLen; omega
   case c4 => omega
   case c5 => first | omega | (simp; omega)
   intro v' w2 hown hgrow _ _
   obtain ⟨A2', c2', rfl, -⟩ := row_slice hown
   have hbb : Below w.heap.size w w2 := (HB.out.alloc hs0 _).grown hgrow (by simp; omega) (fun i hi => (HO.out.lt i hi).1)
   have HB2 := Lib.hid hbb
   have HO2 := Lib.hid (show w2.ownsRow w.heap.size 28 4 (.slice A2' (k + 1) c2') (k + 1) (((headsTo rs (k + 1)).map Pt.cells).flatten) by
    rw [HSU.out, List.map_append, List.flatten_append]
    simpa using hown)
   obtain ⟨q', b3, off3, hq', -, hra3, hb3, z0', z1', z2', z3'⟩ := Pt.arg_at (k := 0) HRW.out.1 hbb hpos
   have hq2 := HQ0.out.symm.trans hq'
   simp only [Option.some.injEq] at hq2
   subst hq2
   simp only [Option.some.injEq, Addr.mk.injEq, and_true] at hra3
   obtain ⟨rfl, rfl⟩ := hra3
   simp only [Nat.zero_mul, Nat.add_zero] at z0' z1' z2' z3'
   have hbx := hbb.size
   clear hown hgrow hbb x0 z0 z1 z2 z3 hq'
   cases hfl : flatTo p rs k
   case false =>
    rw [hfl] at HFS
    have HF2 := Lib.hid (show flatTo p rs (k + 1) = false by rw [HFS.out]; rfl)
    go_wp2_with fail
    exact ⟨⟨k + 1, A2', c2', by go_num, rfl, by rw [HF2.out], by omega, HB2.out, HO2.out⟩, by simp [intOf]; omega⟩
   case true =>
    rw [hfl] at HFS
    go_wp2_with fail
    refine Calls.mono (HCW.out _ _) ?_
    rintro e w3 ⟨rfl, hb3w⟩
    have HB3 := Lib.hid (HB2.out.trans (hb3w.mono HB2.out.size))
    have HO3 := Lib.hid (row_stays HO2.out fun i hi => hb3w.block i (HO2.out.lt i hi).2)
    clear hb3w
    go_wp2_with fail
    exact ⟨⟨k + 1, A2', c2', by go_num, rfl, by rw [HFS.out]; simp, by omega, HB3.out, HO3.out⟩, by simp [intOf]; omega⟩
  ·have hk2 : k = rs.length := by omega
   subst hk2
   rw [HWILD.out]
   have HTAME := Lib.hid (heads_tame HWILD.out HNE.out)
   have HPCOL := Lib.hid (show p ∈ headsTo rs rs.length ++ [p] ∧ ∀ q r', q :: r' ∈ patsL rs → q ∈ headsTo rs rs.length ++ [p] from ⟨by simp, fun q r' hm => by
    obtain ⟨x, hx, he⟩ := List.mem_map.1 hm
    refine List.mem_append_left _ ?_
    unfold headsTo
    rw [List.take_length]
    exact List.mem_map.2 ⟨x, hx, by rw [he]; rfl⟩⟩)
   have HCOLIN := Lib.hid (show ∀ q ∈ headsTo rs rs.length ++ [p], q.In w.heap.size w ∧ POk l t q from fun q hq => by
    rcases List.mem_append.1 hq with h | h
    ·unfold headsTo at h
     rw [List.take_length] at h
     obtain ⟨r, hr, rfl⟩ := List.mem_map.1 h
     have hn := HNE.out r hr
     have hall := (HRS.out.each r hr).2.1
     have hok := H.out.rok r hr
     cases hp : r.pats with
     | nil => rw [hp] at hn; simp at hn
     | cons q0 qs0 =>
      rw [hp] at hok hall
      cases hok with
      | cons k1 _ => exact ⟨hall q0 (by simp), k1⟩
    ·simp only [List.mem_singleton] at h
     subst h
     have hok := H.out.wok
     cases hok with
     | cons k1 _ => exact ⟨H.out.win.2.1 _ (by simp), k1⟩)
   have hop : opaqueT t = false := by
    rcases HTAME.out with h | ⟨q, r, hm, hw⟩
    ·exact tame_clear (HCOLIN.out p HPCOL.out.1).2 h
    ·exact tame_clear (HCOLIN.out q (HPCOL.out.2 q r hm)).2 hw
   have HOKT := Lib.hid (H.out.tok t (by simp))
   have HTI := Lib.hid (H.out.tin.2.1 t (by simp))
   have hcl : (headsTo rs rs.length ++ [p]).length ≤ 1048576 := by simp [headsTo_len (Nat.le_refl _)]; omega
   have HHEADS := Lib.hid (fun (W : World) (hW : Below w.heap.size w W) (Ac : Option Addr) (cc : Nat) (hrow : RowAt W.heap.size W 4 Ac ((headsTo rs rs.length ++ [p]).map Pt.cells)) => heads_any A l c t Ac (headsTo rs rs.length ++ [p]) cc W HR.out HOKT.out hop (H.out.us.next hW).dts H.out.dlen hrow (fun q hq => ⟨(HCOLIN.out q hq).1.next hW, (HCOLIN.out q hq).2.1⟩) hcl)
   have HFOK := Lib.hid (fun (fs : List Form) (h : IsForms l t (headsTo rs rs.length ++ [p]) fs) => forms_ok HR.out HOKT.out h)
   have HU := Lib.hid (fun (fs : List Form) (h : IsForms l t (headsTo rs rs.length ++ [p]) fs) => useful_forms l t ts (patsL rs) p ps fs (headsTo rs rs.length ++ [p]) (HFOK.out fs h) (fun r hr => by
    obtain ⟨x, hx, rfl⟩ := List.mem_map.1 hr
    exact H.out.rok x hx) H.out.wok HPCOL.out.1 HPCOL.out.2)
   have hcol : (headsTo rs rs.length ++ [p]).length = rs.length + 1 := by simp [headsTo_len (Nat.le_refl _)]
   rw [hcol] at HHEADS
   generalize hnl : headsTo rs rs.length ++ [p] = col at HHEADS HFOK HU
   have HNL := Lib.hid hnl
   unfold Ty.val HeadsPost at HHEADS
   clear hnl hcl hop hcol HPCOL HCOLIN
   have HBX := Lib.hid (fun (W : World) (hW : Below wr.heap.size wr W) => (show SUF bS A l.length c bt ot t b1 off1 p W from by
    have hw := HB.out.trans (hW.mono HB.out.size)
    have hu := H.out.us.next hw
    have hs := hw.size
    exact ⟨hu.blk.cell 0, hu.blk.lt, by omega, by omega, HY.out W hw, HZ.out W hw⟩))
   go_wp2_with fail
   refine region_mix (SUF bS A l.length c bt ot t b1 off1 p) [(0, true), (1, true), (2, true), (3, true), (4, true), (5, true), (6, true), (7, true), (8, true), (9, true), (10, true), (15, true), (11, false), (12, false), (13, false), (14, false)] 16 (by kernel_rfl) (by kernel_rfl) (HBX.out _ (Below.refl _ _).drew) ?_
   simp only [pickM, List.filterMap_cons, List.getElem?_cons_zero, List.getElem?_cons_succ, List.filterMap_nil, Option.map_some]
   iterate 12
    refine wpMix_read ?_ (by rfl) (fun W hW => ?_) ?_
    rotate_left
    ·unfold SUF at hW
     go_simp
     try with_reducible rfl
    simp only [Act.put, List.setIfInBounds_toArray, List.set_cons_zero, List.set_cons_succ]
   have HD := Lib.hid (Below.refl wr.heap.size wr).drew
   have HOD := Lib.hid (row_stays HO.out fun i hi => HD.out.block i (HO.out.lt i hi).2)
   generalize wr.drew = wd at HD HOD ⊢
   refine wpMix_step rfl (fun K hK => ?_)
   go_simp
   have HDA := Lib.hid (HD.out.alloc HD.out.size (.cells #[.string p.dof, .string p.name, .int .i64 p.num, .slice p.at_ p.args.length p.cap] 28))
   have HOA := Lib.hid (World.ownsRow.alloc HOD.out (.cells #[.string p.dof, .string p.name, .int .i64 p.num, .slice p.at_ p.args.length p.cap] 28))
   have HNEW : Hid (∀ (j : Nat) (u : Value), p.cells[j]? = some u → (wd.alloc (.cells #[.string p.dof, .string p.name, .int .i64 p.num, .slice p.at_ p.args.length p.cap] 28)).cell? ((⟨wd.heap.size, 0, none⟩ : Addr).add j) = some u) := Lib.hid (World.news_of_block (heap_alloc_new wd _))
   refine hK _ _ (fun _ => HBX.out _ HDA.out) ?_
   clear hK K
   have hwds := HD.out.size
   generalize hwa : wd.alloc (.cells #[.string p.dof, .string p.name, .int .i64 p.num, .slice p.at_ p.args.length p.cap] 28) = wa at HDA HOA HNEW ⊢
   have hwas : w.heap.size ≤ wa.heap.size := by have := HDA.out.size; have := HB.out.size; omega
   clear hwa
   refine wpMix_step rfl (fun K hK => ?_)
   refine wp_append_lies _ (.tmp 97) (.tmp 101) 26 rfl w.heap.size 28 i0 _ 4 64 Tryz.underlying26 hi hz0 hz1 hz2 rfl (by decide) (.slice Ac rs.length cc) rs.length (((headsTo rs rs.length).map Pt.cells).flatten) (by simp [Act.eval, Act.put]) HOA.out ⟨wd.heap.size, 0, none⟩ 1 1 p.cells (by simp [Act.eval, Act.put]) rfl HNEW.out (by simp [Value.oneCell', Pt.cells]) (by omega) (by unfold maxLen; omega) (by omega) hwas _ rfl ?_
   intro g2 c4 w2 hown hgrow hat hlt2
   have HB2 := Lib.hid (show Below w.heap.size w w2 from (HB.out.trans (HDA.out.mono HB.out.size)).grown hgrow hwas (fun j hj => (HOA.out.lt j hj).1))
   have HO2 := Lib.hid (show RowAt w2.heap.size w2 4 (some ⟨g2, 0, none⟩) (col.map Pt.cells) by
    rw [← HNL.out]
    have h9 : w2.ownsRow w.heap.size 28 4 (.slice (some ⟨g2, 0, none⟩) (headsTo rs rs.length ++ [p]).length c4) (headsTo rs rs.length ++ [p]).length (((headsTo rs rs.length ++ [p]).map Pt.cells).flatten) := by
     have e : (headsTo rs rs.length ++ [p]).length = rs.length + 1 := by simp [headsTo_len (Nat.le_refl _)]
     rw [e, List.map_append, List.flatten_append]
     simpa using hown
    exact PatsO.row h9)
   have HBX2 := Lib.hid (fun (W : World) (hW : Below w2.heap.size w2 W) => (show SUF bS A l.length c bt ot t b1 off1 p W from by
    have hw := HB2.out.trans (hW.mono HB2.out.size)
    have hu := H.out.us.next hw
    have hs := hw.size
    exact ⟨hu.blk.cell 0, hu.blk.lt, by omega, by omega, HY.out W hw, HZ.out W hw⟩))
   refine hK _ _ (fun _ => HBX2.out _ (Below.refl _ _)) ?_
   clear hK K hown hgrow hat hlt2
   refine wpMix_step rfl (fun K hK => ?_)
   go_simp
   refine Calls.mono (HHEADS.out _ HB2.out (some ⟨g2, 0, none⟩) c4 HO2.out) ?_
   rintro e w3 ⟨hb3, Af, cf, hs, fs, rfl, hrowf, hfin, hfl, hisf, hf2⟩
   have HB3 := Lib.hid (HB2.out.trans (hb3.mono HB2.out.size))
   have HROWF := Lib.hid hrowf
   have HFIN := Lib.hid hfin
   have HFO := Lib.hid (HFOK.out _ hisf)
   have HUF := Lib.hid (HU.out _ hisf)
   have HF2 := Lib.hid hf2
   have HISF := Lib.hid hisf
   have HS9 := Lib.hid (HBX2.out _ hb3)
   clear hb3 hrowf hfin hisf hf2 HU HFOK HHEADS
   refine hK _ _ (fun _ => HS9.out) ?_
   clear hK K
   refine wpMix_step rfl (fun K hK => ?_)
   go_simp
   refine hK _ _ (fun _ => HS9.out) ?_
   clear hK K
   refine wpMix_nil ?_
   refine NoPanic.normal ?_
   clear HBX HBX2 HS9 HD HOD HDA HOA HNEW HO2
   obtain ⟨i2, hk0, hv0, hv1, hv2⟩ := info_parts infoTy
   go_wp2_with fail
   go_loopw [105] (fun iv wr => ∃ k : Nat, iv = .int .i64 k ∧ k ≤ hs.length ∧ Hid (Below w3.heap.size w3 wr) ∧ Hid (∀ f ∈ fs.take k, NoForm l ts (patsL rs) (p :: ps) f)) (fun iv _ => hs.length - (intOf iv).toNat)
   case atStart => exact ⟨0, rfl, Nat.zero_le _, Lib.hid (Below.refl _ _), Lib.hid (by simp)⟩
   case round =>
    obtain ⟨k, rfl, hk, HS, HNF⟩ := hrel
    by_cases hlt : k < hs.length
    ·obtain ⟨h, bh, oh, hq, hmem, rfl, hbh, x0, x1, x2, x3⟩ := Pt.arg_at HROWF.out HS.out hlt
     obtain ⟨f, hf, hho⟩ := F2.get HF2.out k h hq
     have hfm : f ∈ fs := List.mem_of_getElem? hf
     have HTK := Lib.hid (take_snoc hf)
     have HFM := Lib.hid hfm
     have HF1 := Lib.hid (HFO.out.each f hfm)
     have HHO := Lib.hid hho
     have HBW := Lib.hid (HB3.out.trans (HS.out.mono HB3.out.size))
     have HHN := Lib.hid (show h.name.size ≤ 1099511627776 by
      have h9 := HFIN.out h hmem
      obtain ⟨d9, s9, n9, a9, c9, l9⟩ := h
      exact (Pt.In_mk.1 h9).2.1)
     have HOA := Lib.hid (fun (W : World) (hW : Below w.heap.size w W) (b o c : Nat) (q : Pt) (qs : List Pt) (hin : Rw.In w.heap.size w ⟨some ⟨b, o, none⟩, c, q :: qs⟩) (hok : POks l (t :: ts) (q :: qs)) => under_any h f hho.head hho.len hho.two b o c q qs W (Rw.In.wider (Rw.In.keep hin hW) hW.size) (by
      have h1 := hok.length
      simp only [List.length_cons] at h1
      cases hok with
      | cons k1 k2 => have := well_args k1.1; omega))
     have hbh3 : bh < wr.heap.size := Nat.lt_of_lt_of_le hbh HS.out.size
     obtain ⟨wx, rfl⟩ : ∃ wx : World, wx = wr := ⟨_, rfl⟩
     have HBB := Lib.hid ((Below.refl wx.heap.size wx).alloc (Nat.le_refl _) (.cells #[.string h.dof, .string h.name, .int .i64 h.num, .slice h.at_ h.args.length h.cap] 28))
     have HKX := Lib.hid (Blk.new wx #[.string h.dof, .string h.name, .int .i64 h.num, .slice h.at_ h.args.length h.cap] 28)
     have HSX := Lib.hid (HS.out.trans (HBB.out.mono HS.out.size))
     unfold Pt.val at HOA
     clear hq hmem hbh hf hfm hho
     go_wp2_with fail
     generalize wx.alloc (.cells #[.string h.dof, .string h.name, .int .i64 h.num, .slice h.at_ h.args.length h.cap] 28) = w0 at HBB HKX HSX ⊢
     have hb00 : w.heap.size ≤ w0.heap.size := (HB3.out.trans (HSX.out.mono HB3.out.size)).size
     refine Calls.mono (HOA.out w0 (HB3.out.trans (HSX.out.mono HB3.out.size)) b1 off1 cr p ps H.out.win H.out.wok) ?_
     rintro e w4 ⟨hb4, hres⟩
     have HS4 := Lib.hid (HSX.out.trans (hb4.mono HSX.out.size))
     have HKX4 := Lib.hid (HKX.out.below hb4 HKX.out.lt)
     have HBW4 := Lib.hid (HB3.out.trans (HS4.out.mono HB3.out.size))
     clear hb4
     generalize hon : opened f (p :: ps) = on at hres
     have HON := Lib.hid hon
     clear hon x0 x1 x2 x3
     obtain ⟨x0, x1, x2, x3⟩ := HKX4.out.four
     have xl := HKX4.out.lt
     cases on
     case none =>
      simp only at hres
      subst hres
      go_wp2_with fail
      refine ⟨⟨k + 1, by go_num, by omega, HS4, Lib.hid ?_⟩, by simp [intOf]; omega⟩
      rw [HTK.out]
      intro g hg
      rcases List.mem_append.1 hg with h | h
      ·exact HNF.out g h
      ·simp only [List.mem_singleton] at h
       subst h
       rintro ⟨nx, h1, -⟩
       rw [HON.out] at h1
       cases h1
     case some next =>
      simp only at hres
      obtain ⟨vn, rfl, An, cn, rfl, hown4⟩ := hres
      have HO4 := Lib.hid hown4
      clear hown4
      go_wp2_with fail
      go_loopw [119, 20] (fun iv ov wr => ∃ (j : Nat) (A : Option Addr) (c : Nat) (acc : List Rw), iv = .int .i64 j ∧ j ≤ rs.length ∧ ov = .slice A acc.length c ∧ acc.length ≤ j ∧ Hid (Below w4.heap.size w4 wr) ∧ Hid (wr.ownsRow w4.heap.size 26 1 (.slice A acc.length c) acc.length (acc.map Rw.val)) ∧ Hid (∀ r ∈ acc, OwnRw w4 wr r) ∧ Hid (patsL acc = (patsL (rs.take j)).filterMap (opened f))) (fun iv _ _ => rs.length - (intOf iv).toNat)
      case atStart => exact ⟨0, none, 0, [], rfl, Nat.zero_le _, rfl, Nat.le_refl _, Lib.hid (Below.refl _ _), Lib.hid (World.ownsRow_nil _ _ _ _), Lib.hid (fun r hr => by cases hr), Lib.hid rfl⟩
      case round =>
       obtain ⟨j, Aa, ca, acc, rfl, hjl, rfl, haj, HB, HO, HOR, HPA⟩ := hrel
       have hs0 := HB.out.size
       have HKW := Lib.hid (HKX4.out.below HB.out HKX4.out.lt)
       have HSJ := Lib.hid (HBW4.out.trans (HB.out.mono HBW4.out.size))
       clear x0 x1 x2 x3 xl
       obtain ⟨x0, x1, x2, x3⟩ := HKW.out.four
       have xl := HKW.out.lt
       by_cases hlt2 : j < rs.length
       ·obtain ⟨r, b0, off, hr, hmem, rfl, hb, z0⟩ := HRS.out.arg_at HSJ.out hlt2
        have HTS := Lib.hid (filter_snoc (f := f) hr)
        obtain ⟨ra, rc, rp⟩ := r
        cases rp with
        | nil => exact absurd (HNE.out _ hmem) (by simp)
        | cons q qs =>
        have hri := HRS.out.each _ hmem
        obtain ⟨b2, off2, rfl, hb2⟩ := hri.some
        have HRI := Lib.hid hri
        have HRK := Lib.hid (H.out.rok _ hmem)
        unfold Rw.val at z0
        simp only [List.length_cons] at z0
        clear hr hri hmem hb2
        go_wp2_with fail
        refine Calls.mono (HOA.out wr HSJ.out b2 off2 rc q qs HRI.out HRK.out) ?_
        rintro e w5 ⟨hb5, hres⟩
        have HB5 := Lib.hid (HB.out.trans (hb5.mono hs0))
        have HO5 := Lib.hid (row_stays HO.out fun i hi => hb5.block i (HO.out.lt i hi).2)
        have HOR5 := Lib.hid (fun r hr => (HOR.out r hr).below hb5)
        generalize hoq : opened f (q :: qs) = oq at hres HTS
        have HOQ := Lib.hid hoq
        clear hoq hb5 z0
        cases oq
        case none =>
         simp only at hres
         subst hres
         simp only [List.append_nil] at HTS
         clear x0 x1 x2 x3 xl
         go_wp2_with fail
         exact ⟨⟨j + 1, Aa, ca, acc, by go_num, by omega, rfl, by omega, HB5.out, HO5.out, HOR5.out, Lib.hid (by rw [HTS.out]; exact HPA.out)⟩, by simp [intOf]; omega⟩
        case some oq =>
         simp only at hres
         obtain ⟨vq, rfl, Aq, cq, rfl, hownq⟩ := hres
         have HOQW := Lib.hid (show OwnRw w4 w5 ⟨Aq, cq, oq⟩ from ⟨own_wide hownq hs0, opened_in (fun q' hq' => Pt.In.next (HRI.out.2.1 q' hq') HBW4.out) HOQ.out⟩)
         clear hownq x0 x1 x2 x3 xl
         go_wp2_with (at_builtin; go_must (refine wpList_append_own_at _ rfl (.tmp 130) (.tmp 132) 80 rfl w4.heap.size 26 i1 _ 1 24 Tryz.underlying80 hj hw0 hw1 hw2 rfl (by decide) (.slice Aa acc.length ca) acc.length (acc.map Rw.val) rfl ?ia0 ⟨w5.heap.size, 0, none⟩ 1 1 [.slice Aq oq.length cq] rfl rfl ?ia1 ?ia2 ?ia3 ?ia4 ?ia5 ?_))
         case ia0 => exact World.ownsRow.alloc HO5.out _
         case ia1 => exact World.news_of_block (heap_alloc_new w5 _)
         case ia2 => simp [Value.oneCell']
         case ia3 => unfold maxLen; omega
         case ia4 => omega
         case ia5 => have := HB5.out.size; simp; omega
         intro v' w6 hown hgrow _ _
         obtain ⟨A6, c6, rfl, -⟩ := row_slice hown
         have hb6 : Below w4.heap.size w4 w6 := (HB5.out.alloc HB5.out.size _).grown hgrow (by have := HB5.out.size; simp; omega) (fun i hi => (HO5.out.lt i hi).1)
         have hbb : Below w5.heap.size w5 (w5.alloc (.cells #[.slice Aq oq.length cq] 26)) := (Below.refl _ _).alloc (Nat.le_refl _) _
         have hkeep : ∀ r, OwnRw w4 w5 r → OwnRw w4 w6 r := fun r hr => (hr.below hbb).grown (World.ownsRow.alloc HO5.out _) hgrow
         have HB6 := Lib.hid hb6
         have HO6 := Lib.hid hown
         have HKEEP := Lib.hid hkeep
         clear hown hgrow hb6 hkeep hbb
         go_wp2_with fail
         refine ⟨⟨j + 1, A6, c6, acc ++ [⟨Aq, cq, oq⟩], by go_num, by omega, by simp, by simp; omega, HB6.out, Lib.hid ?_, Lib.hid ?_, Lib.hid ?_⟩, by simp [intOf]; omega⟩
         ·rw [List.length_append, List.map_append]
          exact HO6.out
         ·intro r hr
          rcases List.mem_append.1 hr with h | h
          ·exact HKEEP.out r (HOR5.out r h)
          ·simp only [List.mem_singleton] at h
           subst h
           exact HKEEP.out _ HOQW.out
         ·rw [HTS.out, ← HPA.out]
          unfold patsL
          rw [List.map_append]
          rfl
       ·have hj2 : j = rs.length := by omega
        subst hj2
        have hpa := HPA.out
        rw [List.take_length] at hpa
        have HPA2 := Lib.hid hpa
        clear hpa x0 x1 x2 x3 xl
        have HTY := Lib.hid (show f.types = partsD l t h.dof h.name from HHO.out.parts)
        have HFTI := Lib.hid (show ∀ u ∈ f.types, u.In w.heap.size w by
         rw [HTY.out]
         exact parts_in H.out.us.dts HTI.out h.dof h.name)
        have hf2 : f.types.length ≤ 2 := HHO.out.two
        have HPARTS := Lib.hid (fun (W : World) (hW : Below w.heap.size w W) => (show Calls Tryz.prog 51 #[.slice A l.length c, .agg #[.string t.dof, .string t.name, .slice t.at_ t.args.length t.cap], .agg #[.string h.dof, .string h.name, .int .i64 h.num, .slice h.at_ h.args.length h.cap]] W (PartsP f.types W) by
         rw [HTY.out]
         obtain ⟨d9, s9, n9, a9, c9, l9⟩ := h
         exact rparts_any A l c t d9 s9 n9 a9 c9 l9 W (H.out.us.dts.next hW) (HTI.out.next hW) (fun hc => by
          have hd9 := forms_cons HISF.out HFM.out (by rw [← HHO.out.head.1]; exact hc)
          obtain ⟨t0, ht0⟩ := list_args HOKT.out hd9
          rw [ht0]
          rfl) HHN.out))
        have HBOX := Lib.hid (fun (W : World) (hW : Below wr.heap.size wr W) => (show SUP bS A l.length c bt ot t wx.heap.size h W from by
         have hw := HSJ.out.trans (hW.mono HSJ.out.size)
         have hu := H.out.us.next hw
         have hz := hw.size
         have k1 := HKW.out.below hW HKW.out.lt
         exact ⟨hu.blk.cell 0, hu.blk.lt, by omega, k1.lt, HY.out W hw, k1.cell 0, k1.cell 1, k1.cell 2, k1.cell 3⟩))
        have HD := Lib.hid (Below.refl wr.heap.size wr).drew
        go_wp2_with fail
        refine region_ord (SUP bS A l.length c bt ot t wx.heap.size h) (.read 1 (.read 2 (.read 3 (.read 4 (.read 5 (.read 6 (.read 7 (.read 8 (.two 0 (.one 9 (.one 10 (.one 11 .done))) 9 (.one 0 (.one 10 (.one 11 .done)))))))))))) (by kernel_rfl) (by kernel_rfl) (HBOX.out _ HD.out) ?_
        generalize wr.drew = wd at HD ⊢
        iterate 8
         refine wpOrd_read _ ?_ rfl (by rfl) (fun W hW => ?_) ?_
         rotate_left
         ·unfold SUP at hW
          go_simp
          try with_reducible rfl
         simp only [Act.put, List.setIfInBounds_toArray, List.set_cons_zero, List.set_cons_succ]
        have HSD := Lib.hid (HSJ.out.trans (HD.out.mono HSJ.out.size))
        refine wpOrd_two ?_ ?_
        ·refine stepAt_of _ rfl rfl (fun K hK => ?_)
         go_simp
         have HZO := Lib.hid (own_zero wd wr.heap.size HD.out.size)
         have HBZ := Lib.hid (HD.out.alloc HD.out.size (.cells #[] 25))
         have HSZ := Lib.hid (HSD.out.alloc HSD.out.size (.cells #[] 25))
         refine hK _ _ ⟨HBOX.out _ HBZ.out, ?_⟩
         clear hK K
         generalize wd.alloc (.cells #[] 25) = wz at HZO HBZ HSZ ⊢
         refine wpOrd_one ?_
         refine stepAt_of _ rfl rfl (fun K hK => ?_)
         go_simp
         refine Calls.mono (HPARTS.out _ HSZ.out) ?_
         rintro e w7 ⟨hb7, Ap, cp, rfl, hrow7, hno7, hle7⟩
         have HB7 := Lib.hid (HBZ.out.trans (hb7.mono HBZ.out.size))
         have HZ7 := Lib.hid (row_stays HZO.out fun i hi => hb7.block i (HZO.out.lt i hi).2)
         have HR7 := Lib.hid hrow7
         clear hb7 hrow7
         refine hK _ _ ⟨HBOX.out _ HB7.out, ?_⟩
         clear hK K
         refine wpOrd_one ?_
         refine stepAt_of _ rfl rfl (fun K hK => ?_)
         refine wp_append_rowat (.tmp 135) (.tmp 144) 23 rfl wr.heap.size 25 i2 _ 3 56 Tryz.underlying23 hk0 hv0 hv1 hv2 rfl (by decide) (.slice (some ⟨wd.heap.size, 0, none⟩) 0 0) 0 [] (by simp [Act.eval, Act.put]) HZ7.out w7.heap.size Ap (f.types.map Ty.cells) cp (by rw [List.length_map]; simp [Act.eval, Act.put]) hno7 HR7.out (by rw [List.length_map]; exact hle7) ?_ ?_ (by rw [List.length_map]; unfold maxLen; omega) (by rw [List.length_map]; omega) HB7.out.size ?_
         ·intro y hy
          obtain ⟨q, -, rfl⟩ := List.mem_map.1 hy
          rfl
         ·intro y hy u hu
          obtain ⟨q, -, rfl⟩ := List.mem_map.1 hy
          simp only [Ty.cells, List.mem_cons, List.not_mem_nil, or_false] at hu
          rcases hu with rfl | rfl | rfl <;> rfl
         intro v' w8 hown hgrow
         have hown' : w8.ownsRow wr.heap.size 25 3 v' f.types.length ((f.types.map Ty.cells).flatten) := by simpa using hown
         obtain ⟨A8, c8, rfl, -⟩ := row_slice hown'
         have HB8 := Lib.hid (HB7.out.grown hgrow HB7.out.size (fun i hi => (HZ7.out.lt i hi).1))
         have HO8 := Lib.hid hown'
         clear hown hgrow hown' HR7
         refine hK _ _ ⟨HBOX.out _ HB8.out, ?_⟩
         clear hK K
         refine wpOrd_one ?_
         refine stepAt_of _ rfl rfl (fun K hK => ?_)
         go_simp
         refine hK _ _ ⟨HBOX.out _ HB8.out, ?_⟩
         clear hK K
         refine wpOrd_done ?_
         refine NoPanic.normal ?_
         have HSW8 := Lib.hid (HSJ.out.trans (HB8.out.mono HSJ.out.size))
         have HTAIL := Lib.hid (Rt.In.wider (Rt.In.keep (tail_ty H.out.tin) HSW8.out) HSW8.out.size)
         by_cases hc1 : ct = 1
         ·subst hc1
          have HTL := Lib.hid (show ts.length ≤ 0 by omega)
          rw [if_pos rfl] at HTAIL
          have HTR := Lib.hid HTAIL.out.1
          go_wp2_with (at_builtin; go_must (refine append_rowat rfl (.tmp 149) (.tmp 151) 23 rfl wr.heap.size 25 i2 _ 3 56 Tryz.underlying23 hk0 hv0 hv1 hv2 rfl (by decide) (.slice A8 f.types.length c8) f.types.length ((f.types.map Ty.cells).flatten) rfl HO8.out w8.heap.size (some ⟨bt, ot, none⟩) (ts.map Ty.cells) 0 ?hxPZz (fun h => by cases h) HTR.out ?hlPZz ?hkPZz ?hoPZz ?h6PZz ?hbPZz HB8.out.size ?_))
          try case hxPZz => have h9 := HTL.out; first | omega | (simp [Act.eval, Act.put]; omega)
          try case hlPZz => have h9 := HTL.out; first | omega | exact List.eq_nil_of_length_eq_zero (by omega) | (rw [List.length_map]; omega)
          try case hkPZz => intro y hy; first | rfl | (obtain ⟨q, -, rfl⟩ := List.mem_map.1 hy; rfl)
          try case hoPZz => intro y hy u hu; first | (simp only [Ty.cells, List.mem_cons, List.not_mem_nil, or_false] at hu; rcases hu with rfl | rfl | rfl <;> rfl) | (obtain ⟨q, -, rfl⟩ := List.mem_map.1 hy; simp only [Ty.cells, List.mem_cons, List.not_mem_nil, or_false] at hu; rcases hu with rfl | rfl | rfl <;> rfl)
          case h6PZz => (try rw [List.length_map]); unfold maxLen; omega
          case hbPZz => (try rw [List.length_map]); omega
          intro v9 w9 hown hgrow _
          have hown' : w9.ownsRow wr.heap.size 25 3 v9 (f.types.length + ts.length) (((f.types ++ ts).map Ty.cells).flatten) := by simpa using hown
          obtain ⟨A9, c9, rfl, -⟩ := row_slice hown'
          have HB9 := Lib.hid (HB8.out.grown hgrow HB8.out.size (fun i hi => (HO8.out.lt i hi).1))
          have HBZ9 := Lib.hid (HSJ.out.trans (HB9.out.mono HSJ.out.size))
          have HW9 := Lib.hid (HBW4.out.size)
          have HCALL := Lib.hid (us_call HIH.out H.out HF1.out HFTI.out HON.out HBW4.out (own_wide HO4.out hb00) HB.out HO.out HOR.out HPA2.out haj HB9.out (f.types.length + ts.length) (by simp) hown' hf2 HN.out HTAME.out)
          clear hown hgrow hown'
          go_wp2_with fail
          refine Calls.mono HCALL.out ?_
          rintro e w10 ⟨hb10, b, rfl, hbu⟩
          have HB10 := Lib.hid (HBZ9.out.trans (hb10.mono HBZ9.out.size))
          have HBU := Lib.hid hbu
          have HB10' := Lib.hid hb10
          clear hb10 hbu
          cases b
          case true =>
           have HYES := Lib.hid (HUF.out.2 ⟨f, HFM.out, next, HON.out, HBU.out.1 rfl⟩)
           go_wp2_with fail
           exact bodyPost_ret (v := .bool true) (by simp [results, Tryz.results42, go_sem]) rfl (UsPost.of HB10.out ⟨fun _ => HYES.out, fun _ => rfl⟩)
          case false =>
           have HNOF := Lib.hid (show ¬Useful l (f.types ++ ts) ((patsL rs).filterMap (opened f)) next from fun h => (by have h9 := HBU.out.2 h; simp at h9))
           have HB310 := Lib.hid (HS4.out.trans ((HB.out.trans ((HB9.out.trans (HB10'.out.mono HB9.out.size)).mono HB.out.size)).mono HS4.out.size))
           go_wp2_with fail
           refine ⟨⟨k + 1, by go_num, by omega, HB310, Lib.hid ?_⟩, by simp [intOf]; omega⟩
           rw [HTK.out]
           intro g hg
           rcases List.mem_append.1 hg with h | h
           ·exact HNF.out g h
           ·simp only [List.mem_singleton] at h
            subst h
            rintro ⟨nx, h1, h2⟩
            rw [HON.out] at h1
            cases h1
            exact HNOF.out h2
         ·rw [if_neg hc1] at HTAIL
          have HTR := Lib.hid HTAIL.out.1
          have htl : ts.length ≤ ct - 1 := by omega
          go_wp2_with (at_builtin; go_must (refine append_rowat rfl (.tmp 149) (.tmp 151) 23 rfl wr.heap.size 25 i2 _ 3 56 Tryz.underlying23 hk0 hv0 hv1 hv2 rfl (by decide) (.slice A8 f.types.length c8) f.types.length ((f.types.map Ty.cells).flatten) rfl HO8.out w8.heap.size (some ⟨bt, ot + 3, none⟩) (ts.map Ty.cells) (ct - 1) ?hxPNn (fun h => by cases h) HTR.out ?hlPNn ?hkPNn ?hoPNn ?h6PNn ?hbPNn HB8.out.size ?_))
          try case hxPNn => (try rw [List.length_map]); simp [Act.eval, Act.put, Nat.le_refl]
          try case hlPNn => (try rw [List.length_map]); omega
          try case hkPNn => intro y hy; first | rfl | (obtain ⟨q, -, rfl⟩ := List.mem_map.1 hy; rfl)
          try case hoPNn => intro y hy u hu; first | (simp only [Ty.cells, List.mem_cons, List.not_mem_nil, or_false] at hu; rcases hu with rfl | rfl | rfl <;> rfl) | (obtain ⟨q, -, rfl⟩ := List.mem_map.1 hy; simp only [Ty.cells, List.mem_cons, List.not_mem_nil, or_false] at hu; rcases hu with rfl | rfl | rfl <;> rfl)
          case h6PNn => (try rw [List.length_map]); unfold maxLen; omega
          case hbPNn => (try rw [List.length_map]); omega
          intro v9 w9 hown hgrow _
          have hown' : w9.ownsRow wr.heap.size 25 3 v9 (f.types.length + ts.length) (((f.types ++ ts).map Ty.cells).flatten) := by simpa using hown
          obtain ⟨A9, c9, rfl, -⟩ := row_slice hown'
          have HB9 := Lib.hid (HB8.out.grown hgrow HB8.out.size (fun i hi => (HO8.out.lt i hi).1))
          have HBZ9 := Lib.hid (HSJ.out.trans (HB9.out.mono HSJ.out.size))
          have HW9 := Lib.hid (HBW4.out.size)
          have HCALL := Lib.hid (us_call HIH.out H.out HF1.out HFTI.out HON.out HBW4.out (own_wide HO4.out hb00) HB.out HO.out HOR.out HPA2.out haj HB9.out (f.types.length + ts.length) (by simp) hown' hf2 HN.out HTAME.out)
          clear hown hgrow hown'
          go_wp2_with fail
          refine Calls.mono HCALL.out ?_
          rintro e w10 ⟨hb10, b, rfl, hbu⟩
          have HB10 := Lib.hid (HBZ9.out.trans (hb10.mono HBZ9.out.size))
          have HBU := Lib.hid hbu
          have HB10' := Lib.hid hb10
          clear hb10 hbu
          cases b
          case true =>
           have HYES := Lib.hid (HUF.out.2 ⟨f, HFM.out, next, HON.out, HBU.out.1 rfl⟩)
           go_wp2_with fail
           exact bodyPost_ret (v := .bool true) (by simp [results, Tryz.results42, go_sem]) rfl (UsPost.of HB10.out ⟨fun _ => HYES.out, fun _ => rfl⟩)
          case false =>
           have HNOF := Lib.hid (show ¬Useful l (f.types ++ ts) ((patsL rs).filterMap (opened f)) next from fun h => (by have h9 := HBU.out.2 h; simp at h9))
           have HB310 := Lib.hid (HS4.out.trans ((HB.out.trans ((HB9.out.trans (HB10'.out.mono HB9.out.size)).mono HB.out.size)).mono HS4.out.size))
           go_wp2_with fail
           refine ⟨⟨k + 1, by go_num, by omega, HB310, Lib.hid ?_⟩, by simp [intOf]; omega⟩
           rw [HTK.out]
           intro g hg
           rcases List.mem_append.1 hg with h | h
           ·exact HNF.out g h
           ·simp only [List.mem_singleton] at h
            subst h
            rintro ⟨nx, h1, h2⟩
            rw [HON.out] at h1
            cases h1
            exact HNOF.out h2
        ·refine stepAt_of _ rfl rfl (fun K hK => ?_)
         go_simp
         refine Calls.mono (HPARTS.out _ HSD.out) ?_
         rintro e w6 ⟨hb7, Ap, cp, rfl, hrow7, hno7, hle7⟩
         have HB6 := Lib.hid (HD.out.trans (hb7.mono HD.out.size))
         refine hK _ _ ⟨HBOX.out _ HB6.out, ?_⟩
         clear hK K
         refine wpOrd_one ?_
         refine stepAt_of _ rfl rfl (fun K hK => ?_)
         go_simp
         have HZ7 := Lib.hid (own_zero w6 wr.heap.size HB6.out.size)
         have HB7 := Lib.hid (HB6.out.alloc HB6.out.size (.cells #[] 25))
         have HR7 := Lib.hid (RowAt.keep hrow7 ((Below.refl w6.heap.size w6).alloc (Nat.le_refl _) (.cells #[] 25)))
         clear hb7 hrow7
         refine hK _ _ ⟨HBOX.out _ HB7.out, ?_⟩
         clear hK K
         generalize w6.alloc (.cells #[] 25) = w7 at HZ7 HB7 HR7 ⊢
         refine wpOrd_one ?_
         refine stepAt_of _ rfl rfl (fun K hK => ?_)
         refine wp_append_rowat (.tmp 135) (.tmp 144) 23 rfl wr.heap.size 25 i2 _ 3 56 Tryz.underlying23 hk0 hv0 hv1 hv2 rfl (by decide) (.slice (some ⟨w6.heap.size, 0, none⟩) 0 0) 0 [] (by simp [Act.eval, Act.put]) HZ7.out w6.heap.size Ap (f.types.map Ty.cells) cp (by rw [List.length_map]; simp [Act.eval, Act.put]) hno7 HR7.out (by rw [List.length_map]; exact hle7) ?_ ?_ (by rw [List.length_map]; unfold maxLen; omega) (by rw [List.length_map]; omega) HB7.out.size ?_
         ·intro y hy
          obtain ⟨q, -, rfl⟩ := List.mem_map.1 hy
          rfl
         ·intro y hy u hu
          obtain ⟨q, -, rfl⟩ := List.mem_map.1 hy
          simp only [Ty.cells, List.mem_cons, List.not_mem_nil, or_false] at hu
          rcases hu with rfl | rfl | rfl <;> rfl
         intro v' w8 hown hgrow
         have hown' : w8.ownsRow wr.heap.size 25 3 v' f.types.length ((f.types.map Ty.cells).flatten) := by simpa using hown
         obtain ⟨A8, c8, rfl, -⟩ := row_slice hown'
         have HB8 := Lib.hid (HB7.out.grown hgrow HB7.out.size (fun i hi => (HZ7.out.lt i hi).1))
         have HO8 := Lib.hid hown'
         clear hown hgrow hown' HR7
         refine hK _ _ ⟨HBOX.out _ HB8.out, ?_⟩
         clear hK K
         refine wpOrd_one ?_
         refine stepAt_of _ rfl rfl (fun K hK => ?_)
         go_simp
         refine hK _ _ ⟨HBOX.out _ HB8.out, ?_⟩
         clear hK K
         refine wpOrd_done ?_
         refine NoPanic.normal ?_
         have HSW8 := Lib.hid (HSJ.out.trans (HB8.out.mono HSJ.out.size))
         have HTAIL := Lib.hid (Rt.In.wider (Rt.In.keep (tail_ty H.out.tin) HSW8.out) HSW8.out.size)
         by_cases hc1 : ct = 1
         ·subst hc1
          have HTL := Lib.hid (show ts.length ≤ 0 by omega)
          rw [if_pos rfl] at HTAIL
          have HTR := Lib.hid HTAIL.out.1
          go_wp2_with (at_builtin; go_must (refine append_rowat rfl (.tmp 149) (.tmp 151) 23 rfl wr.heap.size 25 i2 _ 3 56 Tryz.underlying23 hk0 hv0 hv1 hv2 rfl (by decide) (.slice A8 f.types.length c8) f.types.length ((f.types.map Ty.cells).flatten) rfl HO8.out w8.heap.size (some ⟨bt, ot, none⟩) (ts.map Ty.cells) 0 ?hxQZz (fun h => by cases h) HTR.out ?hlQZz ?hkQZz ?hoQZz ?h6QZz ?hbQZz HB8.out.size ?_))
          try case hxQZz => have h9 := HTL.out; first | omega | (simp [Act.eval, Act.put]; omega)
          try case hlQZz => have h9 := HTL.out; first | omega | exact List.eq_nil_of_length_eq_zero (by omega) | (rw [List.length_map]; omega)
          try case hkQZz => intro y hy; first | rfl | (obtain ⟨q, -, rfl⟩ := List.mem_map.1 hy; rfl)
          try case hoQZz => intro y hy u hu; first | (simp only [Ty.cells, List.mem_cons, List.not_mem_nil, or_false] at hu; rcases hu with rfl | rfl | rfl <;> rfl) | (obtain ⟨q, -, rfl⟩ := List.mem_map.1 hy; simp only [Ty.cells, List.mem_cons, List.not_mem_nil, or_false] at hu; rcases hu with rfl | rfl | rfl <;> rfl)
          case h6QZz => (try rw [List.length_map]); unfold maxLen; omega
          case hbQZz => (try rw [List.length_map]); omega
          intro v9 w9 hown hgrow _
          have hown' : w9.ownsRow wr.heap.size 25 3 v9 (f.types.length + ts.length) (((f.types ++ ts).map Ty.cells).flatten) := by simpa using hown
          obtain ⟨A9, c9, rfl, -⟩ := row_slice hown'
          have HB9 := Lib.hid (HB8.out.grown hgrow HB8.out.size (fun i hi => (HO8.out.lt i hi).1))
          have HBZ9 := Lib.hid (HSJ.out.trans (HB9.out.mono HSJ.out.size))
          have HW9 := Lib.hid (HBW4.out.size)
          have HCALL := Lib.hid (us_call HIH.out H.out HF1.out HFTI.out HON.out HBW4.out (own_wide HO4.out hb00) HB.out HO.out HOR.out HPA2.out haj HB9.out (f.types.length + ts.length) (by simp) hown' hf2 HN.out HTAME.out)
          clear hown hgrow hown'
          go_wp2_with fail
          refine Calls.mono HCALL.out ?_
          rintro e w10 ⟨hb10, b, rfl, hbu⟩
          have HB10 := Lib.hid (HBZ9.out.trans (hb10.mono HBZ9.out.size))
          have HBU := Lib.hid hbu
          have HB10' := Lib.hid hb10
          clear hb10 hbu
          cases b
          case true =>
           have HYES := Lib.hid (HUF.out.2 ⟨f, HFM.out, next, HON.out, HBU.out.1 rfl⟩)
           go_wp2_with fail
           exact bodyPost_ret (v := .bool true) (by simp [results, Tryz.results42, go_sem]) rfl (UsPost.of HB10.out ⟨fun _ => HYES.out, fun _ => rfl⟩)
          case false =>
           have HNOF := Lib.hid (show ¬Useful l (f.types ++ ts) ((patsL rs).filterMap (opened f)) next from fun h => (by have h9 := HBU.out.2 h; simp at h9))
           have HB310 := Lib.hid (HS4.out.trans ((HB.out.trans ((HB9.out.trans (HB10'.out.mono HB9.out.size)).mono HB.out.size)).mono HS4.out.size))
           go_wp2_with fail
           refine ⟨⟨k + 1, by go_num, by omega, HB310, Lib.hid ?_⟩, by simp [intOf]; omega⟩
           rw [HTK.out]
           intro g hg
           rcases List.mem_append.1 hg with h | h
           ·exact HNF.out g h
           ·simp only [List.mem_singleton] at h
            subst h
            rintro ⟨nx, h1, h2⟩
            rw [HON.out] at h1
            cases h1
            exact HNOF.out h2
         ·rw [if_neg hc1] at HTAIL
          have HTR := Lib.hid HTAIL.out.1
          have htl : ts.length ≤ ct - 1 := by omega
          go_wp2_with (at_builtin; go_must (refine append_rowat rfl (.tmp 149) (.tmp 151) 23 rfl wr.heap.size 25 i2 _ 3 56 Tryz.underlying23 hk0 hv0 hv1 hv2 rfl (by decide) (.slice A8 f.types.length c8) f.types.length ((f.types.map Ty.cells).flatten) rfl HO8.out w8.heap.size (some ⟨bt, ot + 3, none⟩) (ts.map Ty.cells) (ct - 1) ?hxQNn (fun h => by cases h) HTR.out ?hlQNn ?hkQNn ?hoQNn ?h6QNn ?hbQNn HB8.out.size ?_))
          try case hxQNn => (try rw [List.length_map]); simp [Act.eval, Act.put, Nat.le_refl]
          try case hlQNn => (try rw [List.length_map]); omega
          try case hkQNn => intro y hy; first | rfl | (obtain ⟨q, -, rfl⟩ := List.mem_map.1 hy; rfl)
          try case hoQNn => intro y hy u hu; first | (simp only [Ty.cells, List.mem_cons, List.not_mem_nil, or_false] at hu; rcases hu with rfl | rfl | rfl <;> rfl) | (obtain ⟨q, -, rfl⟩ := List.mem_map.1 hy; simp only [Ty.cells, List.mem_cons, List.not_mem_nil, or_false] at hu; rcases hu with rfl | rfl | rfl <;> rfl)
          case h6QNn => (try rw [List.length_map]); unfold maxLen; omega
          case hbQNn => (try rw [List.length_map]); omega
          intro v9 w9 hown hgrow _
          have hown' : w9.ownsRow wr.heap.size 25 3 v9 (f.types.length + ts.length) (((f.types ++ ts).map Ty.cells).flatten) := by simpa using hown
          obtain ⟨A9, c9, rfl, -⟩ := row_slice hown'
          have HB9 := Lib.hid (HB8.out.grown hgrow HB8.out.size (fun i hi => (HO8.out.lt i hi).1))
          have HBZ9 := Lib.hid (HSJ.out.trans (HB9.out.mono HSJ.out.size))
          have HW9 := Lib.hid (HBW4.out.size)
          have HCALL := Lib.hid (us_call HIH.out H.out HF1.out HFTI.out HON.out HBW4.out (own_wide HO4.out hb00) HB.out HO.out HOR.out HPA2.out haj HB9.out (f.types.length + ts.length) (by simp) hown' hf2 HN.out HTAME.out)
          clear hown hgrow hown'
          go_wp2_with fail
          refine Calls.mono HCALL.out ?_
          rintro e w10 ⟨hb10, b, rfl, hbu⟩
          have HB10 := Lib.hid (HBZ9.out.trans (hb10.mono HBZ9.out.size))
          have HBU := Lib.hid hbu
          have HB10' := Lib.hid hb10
          clear hb10 hbu
          cases b
          case true =>
           have HYES := Lib.hid (HUF.out.2 ⟨f, HFM.out, next, HON.out, HBU.out.1 rfl⟩)
           go_wp2_with fail
           exact bodyPost_ret (v := .bool true) (by simp [results, Tryz.results42, go_sem]) rfl (UsPost.of HB10.out ⟨fun _ => HYES.out, fun _ => rfl⟩)
          case false =>
           have HNOF := Lib.hid (show ¬Useful l (f.types ++ ts) ((patsL rs).filterMap (opened f)) next from fun h => (by have h9 := HBU.out.2 h; simp at h9))
           have HB310 := Lib.hid (HS4.out.trans ((HB.out.trans ((HB9.out.trans (HB10'.out.mono HB9.out.size)).mono HB.out.size)).mono HS4.out.size))
           go_wp2_with fail
           refine ⟨⟨k + 1, by go_num, by omega, HB310, Lib.hid ?_⟩, by simp [intOf]; omega⟩
           rw [HTK.out]
           intro g hg
           rcases List.mem_append.1 hg with h | h
           ·exact HNF.out g h
           ·simp only [List.mem_singleton] at h
            subst h
            rintro ⟨nx, h1, h2⟩
            rw [HON.out] at h1
            cases h1
            exact HNOF.out h2
    ·have hk2 : k = hs.length := by omega
     subst hk2
     have HNO := Lib.hid (show ¬Useful l (t :: ts) (patsL rs) (p :: ps) from fun hu => by
      obtain ⟨f, hf, nx, h1, h2⟩ := HUF.out.1 hu
      exact HNF.out f (by rw [← F2.len HF2.out, List.take_length]; exact hf) ⟨nx, h1, h2⟩)
     go_wp2_with fail
     exact bodyPost_ret (v := .bool false) (by simp [results, Tryz.results42, go_sem]) rfl (UsPost.of (HB3.out.trans (HS.out.mono HB3.out.size)) ⟨fun h => (by cases h), fun h => absurd h HNO.out⟩)
end Go.Proofs.YtjeggkfgdhepaaaGreatDoor

namespace Go.Proofs.YtjeggkfgdhepaaaGreatDoor
open Go.RowKit
open Go.Proofs
open Go.Maps
theorem rus_to (l : List Dt) (hr : Right l) (A : Option Addr) (c : Nat) (bs : List Bool) (g bS : Nat) (hinh : Inh l (someB l bs)) : ∀ n, n ≤ 100000 → UsTo l A c bs g bS n := by
 intro n
 induction n with
 | zero =>
  intro _ tys A2 rows c2 row w h hn
  obtain ⟨At, ct, ts⟩ := tys
  cases ts with
  | nil => exact rus_nil l A c bs g bS At ct A2 rows c2 row w h
  | cons t ts => unfold sizeL at hn; simp only [List.length_cons] at hn; omega
 | succ n ih =>
  intro hle tys A2 rows c2 row w h hn
  obtain ⟨At, ct, ts⟩ := tys
  cases ts with
  | nil => exact rus_nil l A c bs g bS At ct A2 rows c2 row w h
  | cons t ts =>
   obtain ⟨Ar, cr, ps⟩ := row
   cases ps with
   | nil => have := h.wok.length; simp at this
   | cons p ps =>
    obtain ⟨bt, ot, rfl, -⟩ := Rt.In.some h.tin
    obtain ⟨b1, o1, rfl, -⟩ := Rw.In.some h.win
    cases hw : flatTo p rows rows.length with
    | true => exact rus_wild l hr A c bs g bS hinh n (ih (by omega)) bt ot ct t ts A2 rows c2 b1 o1 cr p ps w h hn (by omega) hw
    | false => exact rus_forms l hr A c bs g bS hinh n (ih (by omega)) bt ot ct t ts A2 rows c2 b1 o1 cr p ps w h hn (by omega) hw
theorem rus_any (l : List Dt) (hr : Right l) (A : Option Addr) (c : Nat) (bs : List Bool) (g bS : Nat) (hinh : Inh l (someB l bs)) (tys : Rt) (A2 : Option Addr) (rows : List Rw) (c2 : Nat) (row : Rw) (w : World) (h : UsIn l A c bs g bS tys A2 rows row w) (hn : sizeL tys.tys (patsL rows) row.pats ≤ 100000) :
  Calls Tryz.prog 42 #[.pointer (some ⟨bS, 0, none⟩), .slice A2 rows.length c2, row.val, tys.val] w (UsPost l tys.tys (patsL rows) row.pats w) :=
 rus_to l hr A c bs g bS hinh 100000 (Nat.le_refl _) tys A2 rows c2 row w h hn
end Go.Proofs.YtjeggkfgdhepaaaGreatDoor

namespace Go.Proofs.YtjeggkfgdhepaaaGreatDoor
open Go.RowKit
open Go.Proofs
open Go.Maps
theorem rus_col (l : List Dt) (hr : Right l) (A : Option Addr) (c : Nat) (bs : List Bool) (g bS : Nat) (hinh : Inh l (someB l bs)) (t : Ty) (ht : okT l t) (col : List Pt) (p : Pt) (hcol : ∀ q ∈ col, POk l t q) (hp : POk l t p)
  (k : Nat) (hk : col.length = k) (hlen : k ≤ 1000) (hsz : sizeL [t] (oneCol col) [p] ≤ 100000) (W : World) (hU : UsAt l A c bs g bS W) (hdl : ∀ d ∈ l, d.cons.length ≤ 1048576) (htin : t.In W.heap.size W) (hin : ∀ q ∈ col, q.In W.heap.size W) (hpin : p.In W.heap.size W) (B bt bp : Nat) (A9 : Option Addr) (c9 : Nat)
  (kt : Blk W bt #[.string t.dof, .string t.name, .slice t.at_ t.args.length t.cap] 25) (kp : Blk W bp #[.string p.dof, .string p.name, .int .i64 p.num, .slice p.at_ p.args.length p.cap] 28) (ro : RowsO B W (.slice A9 k c9) col k) :
  Calls Tryz.prog 42 #[.pointer (some ⟨bS, 0, none⟩), .slice A9 k c9, .slice (some ⟨bp, 0, none⟩) 1 1, .slice (some ⟨bt, 0, none⟩) 1 1] W (UsPost l [t] (oneCol col) [p] W) := by
 obtain ⟨rs, hrl, hri, hpats⟩ := rowsIn_all ro hk (by omega) hin
 have hin9 : UsIn l A c bs g bS ⟨some ⟨bt, 0, none⟩, 1, [t]⟩ A9 rs ⟨some ⟨bp, 0, none⟩, 1, [p]⟩ W := {
  us := hU
  dlen := hdl
  tin := ⟨row_ty1 kt kt.lt, fun u hu => by simp only [List.mem_cons, List.not_mem_nil, or_false] at hu; subst hu; exact htin, Nat.le_refl _, (show (1 : Nat) ≤ 9223372036854775807 by decide)⟩
  tok := fun u hu => by simp only [List.mem_cons, List.not_mem_nil, or_false] at hu; subst hu; exact ht
  rin := hri
  rok := fun r hr => by
   have hm : r.pats ∈ oneCol col := by rw [← hpats]; exact List.mem_map.2 ⟨r, hr, rfl⟩
   obtain ⟨q, hq, he⟩ := List.mem_map.1 hm
   rw [← he]
   exact .cons (hcol q hq) .nil
  rlen := by omega
  win := ⟨row_pt1 kp kp.lt, fun x hx => by simp only [List.mem_cons, List.not_mem_nil, or_false] at hx; subst hx; exact hpin, Nat.le_refl _, (show (1 : Nat) ≤ 9223372036854775807 by decide)⟩
  wok := .cons hp .nil }
 have h := rus_any l hr A c bs g bS hinh ⟨some ⟨bt, 0, none⟩, 1, [t]⟩ A9 rs c9 ⟨some ⟨bp, 0, none⟩, 1, [p]⟩ W hin9 (by rw [hpats]; exact hsz)
 rw [hpats, hrl] at h
 exact h
theorem RowsO.snoc {B : Nat} {w5 : World} {ps : List Pt} {k : Nat} {rs : List Rw} {q : Pt} {b : Nat} {A5 : Option Addr} {c5 : Nat} (hrl : rs.length = k) (hone : ∀ i r, rs[i]? = some r → oneRow w5 ps i r) (hq : ps[k]? = some q) (hb : Blk w5 b #[.string q.dof, .string q.name, .int .i64 q.num, .slice q.at_ q.args.length q.cap] 28)
  (hown : w5.ownsRow B 26 1 (.slice A5 (k + 1) c5) (k + 1) (rs.map Rw.val ++ [.slice (some ⟨b, 0, none⟩) 1 1])) : RowsO B w5 (.slice A5 (k + 1) c5) ps (k + 1) := by
 refine ⟨rs ++ [⟨some ⟨b, 0, none⟩, 1, [q]⟩], A5, c5, by simp; omega, rfl, by simpa [Rw.val] using hown, fun i r hi => ?_⟩
 by_cases hlt3 : i < rs.length
 ·rw [List.getElem?_append_left hlt3] at hi
  exact hone i r hi
 ·rw [List.getElem?_append_right (by omega)] at hi
  have hi0 : i - rs.length = 0 := by
   have := (List.getElem?_eq_some_iff.1 hi).1
   simp at this
   omega
  rw [hi0] at hi
  simp only [List.getElem?_cons_zero, Option.some.injEq] at hi
  have hik : i = k := by omega
  subst hi
  subst hik
  exact ⟨q, _, hq, rfl, hb⟩
end Go.Proofs.YtjeggkfgdhepaaaGreatDoor

namespace Go.Proofs.YtjeggkfgdhepaaaGreatDoor
open Go.RowKit
open Go.Proofs
open Go.Maps
def RMissPost (l : List Dt) (t : Ty) (ps : List Pt) (w : World) (e : Ending) (w' : World) : Prop :=
 Below w.heap.size w w' ∧ ((∃ b, askedErr l t ps = 0 ∧ e = .returned (.tuple #[.bool b, .int .i64 0]) ∧ (b = true ↔ Useful l [t] (oneCol ps) [anyPt])) ∨ (askedErr l t ps ≠ 0 ∧ e = .returned (.tuple #[.bool false, .int .i64 (askedErr l t ps)])))
set_option maxRecDepth 100000 in
set_option maxHeartbeats 8000000 in
theorem rmissing_any (A : Option Addr) (l : List Dt) (c : Nat) (t : Ty) (Ap : Option Addr) (ps : List Pt) (cp : Nat) (w : World) (h : AskIn w A l t Ap ps) (hcnt : t.count ≤ 1048576) (hcc : ∀ d ∈ l, ∀ x ∈ d.cons, x.ty.count ≤ 1048576) :
  Calls Tryz.prog 13 #[.slice A l.length c, t.val, .slice Ap ps.length cp] w (RMissPost l t ps w) := by
 have H := Lib.hid h
 have HP := Lib.hid h.pts
 have HAQ := Lib.hid (asked_iff (l := l) (t := t) h.count)
 have HASK := Lib.hid (fun (W : World) (hW : Below w.heap.size w W) => rasked_any A l c t Ap ps cp W (h.env.next hW) (h.dts.next hW) (h.ty.at_ hW hW.size) (h.pts.at_ hW hW.size) hcnt hcc h.count)
 obtain ⟨i0, hi, hz0, hz1, hz2⟩ := info_parts infoInt
 obtain ⟨i1, hj, hw0, hw1, hw2⟩ := info_parts infoRow
 clear h hcnt hcc
 have HB0 := Lib.hid ((Below.refl w.heap.size w).alloc (Nat.le_refl _) (.cells #[.string t.dof, .string t.name, .slice t.at_ t.args.length t.cap] 25))
 have K0 := Lib.hid (Blk.new w #[.string t.dof, .string t.name, .slice t.at_ t.args.length t.cap] 25)
 unfold Ty.val at *
 go_enter Tryz.func13, Tryz.ntmps13
 go_wp2_with fail
 refine Calls.mono (HASK.out _ HB0.out) ?_
 rintro e w1 ⟨rfl, hb1⟩
 by_cases hne : askedErr l t ps = 0
 case neg =>
  have HB1 := Lib.hid (HB0.out.trans (hb1.mono HB0.out.size))
  have HNE := Lib.hid hne
  have hne2 : (askedErr l t ps == 0) = false := by simpa using hne
  generalize hq : askedErr l t ps = er at *
  have HQ := Lib.hid hq
  clear hb1 hne hq
  go_wp2_with fail
  exact bodyPost_ret (v := .tuple #[.bool false, .int .i64 er]) (by simp [results, Tryz.results13, go_sem]) rfl ⟨HB1.out, .inr ⟨by rw [HQ.out]; exact HNE.out, by rw [HQ.out]⟩⟩
 have HASKED := Lib.hid (HAQ.out.1 hne)
 have HNIL := Lib.hid hne
 rw [hne]
 have hl12 := HASKED.out.len
 have HB1 := Lib.hid (HB0.out.trans (hb1.mono HB0.out.size))
 have K1 := Lib.hid (K0.out.below hb1 K0.out.lt)
 have HINH := Lib.hid (fun (W : World) (hW : Below w.heap.size w W) => inhabited_any A l c W HASKED.out.right (H.out.next hW).dts H.out.dlen)
 clear hb1 hne
 go_wp2_with fail
 refine Calls.mono (HINH.out _ HB1.out) ?_
 rintro e w2 ⟨hb2, g, bs, rfl, hbl, hbools, hinh⟩
 rw [hbl]
 have HBL := Lib.hid hbl
 have HIN := Lib.hid hinh
 have HB2 := Lib.hid (HB1.out.trans (hb2.mono HB1.out.size))
 have K2 := Lib.hid (K1.out.below hb2 K1.out.lt)
 have HB3 := Lib.hid (HB2.out.alloc HB2.out.size (.cells #[.slice A l.length c, .slice (some ⟨g, 0, none⟩) l.length l.length] 79))
 have K3 := Lib.hid (K2.out.alloc (.cells #[.slice A l.length c, .slice (some ⟨g, 0, none⟩) l.length l.length] 79))
 have HUS := Lib.hid (show UsAt l A c bs g w2.heap.size (w2.alloc (.cells #[.slice A l.length c, .slice (some ⟨g, 0, none⟩) l.length l.length] 79)) from ⟨Blk.new w2 _ _, (H.out.next HB3.out).dts, hbools.next ((Below.refl _ _).alloc (Nat.le_refl _) _), hbl⟩)
 clear hb2 hbl hbools hinh
 go_upto_region 5 with (fail)
 generalize w2.alloc (.cells #[.slice A l.length c, .slice (some ⟨g, 0, none⟩) l.length l.length] 79) = w3 at HB3 K3 HUS ⊢
 go_wp2_with fail
 go_loopw [27, 10] (fun iv rv wr => ∃ k : Nat, iv = .int .i64 k ∧ k ≤ ps.length ∧ Hid (Below w3.heap.size w3 wr) ∧ Hid (RowsO w3.heap.size wr rv ps k)) (fun iv _ _ => ps.length - (intOf iv).toNat)
 case atStart => exact ⟨0, rfl, Nat.zero_le _, Lib.hid (Below.refl _ _), Lib.hid ⟨[], none, 0, rfl, rfl, World.ownsRow_nil _ _ _ _, fun i r h => by simp at h⟩⟩
 case round =>
  obtain ⟨k, rfl, hk, HB, HRO⟩ := hrel
  obtain ⟨rs, A', c', hrl, rfl, hown, hone⟩ := HRO.out
  have HOWN := Lib.hid hown
  have HONE := Lib.hid hone
  have HRL := Lib.hid hrl
  clear hown hone hrl
  have HBW := Lib.hid (HB3.out.trans (HB.out.mono HB3.out.size))
  have hs0 := HB.out.size
  by_cases hlt : k < ps.length
  ·obtain ⟨q, b0, off, hq, hmem, rfl, hb, x0, x1, x2, x3⟩ := Pt.arg_at HP.out.row HBW.out hlt
   have HQ := Lib.hid hq
   clear hq
   go_wp2_with (at_builtin; go_must (refine wpList_append_own_at _ rfl (.tmp 31) (.tmp 34) 80 rfl w3.heap.size 26 i1 _ 1 24 Tryz.underlying80 hj hw0 hw1 hw2 rfl (by decide) (.slice A' k c') k (rs.map Rw.val) rfl ?hown ⟨wr.heap.size + 1 + 1, 0, none⟩ 1 1 [.slice (some ⟨wr.heap.size + 1, 0, none⟩) 1 1] rfl rfl ?c1 ?c2 ?c3 ?c4 ?c5 ?_))
   case hown => exact ((HOWN.out.alloc _).alloc _).alloc _
   case c1 => exact cell_one_at _ _ _ _ (by simp)
   case c2 => simp [Value.oneCell']
   case c3 => unfold maxLen; omega
   case c4 => omega
   case c5 => first | omega | (simp; omega)
   intro v' w5 hown hgrow _ _
   obtain ⟨A5, c5, rfl, -⟩ := row_slice hown
   have hkeep : ∀ b cs, Blk (((wr.alloc (.cells #[.string q.dof, .string q.name, .int .i64 q.num, .slice q.at_ q.args.length q.cap] 28)).alloc (.cells #[.string q.dof, .string q.name, .int .i64 q.num, .slice q.at_ q.args.length q.cap] 28)).alloc (.cells #[.slice (some ⟨wr.heap.size + 1, 0, none⟩) 1 1] 26)) b cs 28 → Blk w5 b cs 28 := fun b cs hb => (hgrow.block b hb.lt (own_ne (((HOWN.out.alloc _).alloc _).alloc _) hb (by decide)).symm).trans hb
   have hb5 : Below w3.heap.size w3 w5 := (((HB.out.alloc hs0 _).alloc (by simp; omega) _).alloc (by simp; omega) _).grown hgrow (by simp; omega) (fun i hi => (HOWN.out.lt i hi).1)
   have hnew := hkeep (wr.heap.size + 1) _ ((Blk.new' (wr.alloc (.cells #[.string q.dof, .string q.name, .int .i64 q.num, .slice q.at_ q.args.length q.cap] 28)) _ _ _ (by simp)).alloc _)
   have HB5 := Lib.hid hb5
   have HR5 := Lib.hid (RowsO.snoc (B := w3.heap.size) (A5 := A5) (c5 := c5) HRL.out (fun i r hi => by
    obtain ⟨q', b', h1, h2, h3⟩ := HONE.out i r hi
    exact ⟨q', b', h1, h2, hkeep _ _ (((h3.alloc _).alloc _).alloc _)⟩) HQ.out hnew (by simpa using hown))
   clear hkeep hb5 hnew hown hgrow x0 x1 x2 x3
   go_wp2_with fail
   exact ⟨⟨k + 1, by go_num, by omega, HB5.out, HR5.out⟩, by simp [intOf]; omega⟩
  ·have hk2 : k = ps.length := by omega
   subst hk2
   have KW := Lib.hid (K3.out.below HB.out K3.out.lt)
   obtain ⟨y0, y1, y2⟩ := KW.out.three
   have yl := KW.out.lt
   have HUSE := Lib.hid (fun (W : World) (bt bp : Nat) (A9 : Option Addr) (c9 : Nat) (hW : Below w3.heap.size w3 W) (kt : Blk W bt #[.string t.dof, .string t.name, .slice t.at_ t.args.length t.cap] 25) (kp : Blk W bp #[.string ⟨#[97, 110, 121]⟩, .string ⟨#[]⟩, .int .i64 0, .slice none 0 0] 28) (ro : RowsO w3.heap.size W (.slice A9 ps.length c9) ps ps.length) =>
    rus_col l HASKED.out.right A c bs g w2.heap.size HIN.out t HASKED.out.ty ps anyPt (fun x hx => HASKED.out.pok x hx) (anyPt_ok l t) ps.length rfl (by omega) (size_any HASKED.out) W (HUS.out.next hW) H.out.dlen (H.out.next (HB3.out.trans (hW.mono HB3.out.size))).ty (fun x hx => (H.out.next (HB3.out.trans (hW.mono HB3.out.size))).pts.each x hx) (any_in _ _) w3.heap.size bt bp A9 c9 kt kp ro)
   have HKP := Lib.hid (show Blk ((wr.alloc (.cells #[.string ⟨#[97, 110, 121]⟩, .string ⟨#[]⟩, .int .i64 0, .slice none 0 0] 28)).alloc (.cells #[.string t.dof, .string t.name, .slice t.at_ t.args.length t.cap] 25)) wr.heap.size #[.string ⟨#[97, 110, 121]⟩, .string ⟨#[]⟩, .int .i64 0, .slice none 0 0] 28 from (Blk.new wr _ _).alloc _)
   have HKT := Lib.hid (show Blk ((wr.alloc (.cells #[.string ⟨#[97, 110, 121]⟩, .string ⟨#[]⟩, .int .i64 0, .slice none 0 0] 28)).alloc (.cells #[.string t.dof, .string t.name, .slice t.at_ t.args.length t.cap] 25)) (wr.heap.size + 1) #[.string t.dof, .string t.name, .slice t.at_ t.args.length t.cap] 25 from Blk.new' _ _ _ _ (by simp))
   have HBA := Lib.hid (show Below wr.heap.size wr ((wr.alloc (.cells #[.string ⟨#[97, 110, 121]⟩, .string ⟨#[]⟩, .int .i64 0, .slice none 0 0] 28)).alloc (.cells #[.string t.dof, .string t.name, .slice t.at_ t.args.length t.cap] 25)) from ((Below.refl _ _).alloc (Nat.le_refl _) _).alloc (by simp) _)
   go_wp2_with fail
   generalize (wr.alloc (.cells #[.string ⟨#[97, 110, 121]⟩, .string ⟨#[]⟩, .int .i64 0, .slice none 0 0] 28)).alloc (.cells #[.string t.dof, .string t.name, .slice t.at_ t.args.length t.cap] 25) = w4 at HKP HKT HBA ⊢
   have HB4 := Lib.hid (HB.out.trans (HBA.out.mono HB.out.size))
   refine Calls.mono (HUSE.out w4 _ _ A' c' HB4.out HKT.out HKP.out (HRO.out.keep HBA.out)) ?_
   rintro e w5 ⟨hb5, b, rfl, hbu⟩
   have HB5 := Lib.hid (HBW.out.trans ((HBA.out.trans (hb5.mono HBA.out.size)).mono HBW.out.size))
   have HBU := Lib.hid hbu
   clear hb5 hbu
   go_wp2_with fail
   exact bodyPost_ret (v := .tuple #[.bool b, .int .i64 0]) (by simp [results, Tryz.results13, go_sem]) rfl ⟨HB5.out, .inl ⟨b, HNIL.out, rfl, HBU.out⟩⟩
end Go.Proofs.YtjeggkfgdhepaaaGreatDoor

namespace Go.Proofs.YtjeggkfgdhepaaaGreatDoor
open Go.RowKit
open Go.Proofs
open Go.Maps
set_option maxRecDepth 100000 in
set_option maxHeartbeats 4000000 in
theorem same_zero (w : World) : Calls Tryz.prog 15 #[.agg #[.string ⟨#[]⟩, .string ⟨#[]⟩, .int .i64 0, .slice none 0 0], .agg #[.string ⟨#[]⟩, .string ⟨#[]⟩, .int .i64 0, .slice none 0 0]] w fun e w' => e = .returned (.bool true) ∧ Below w.heap.size w w' := by
 have HB := Lib.hid (((Below.refl w.heap.size w).alloc (Nat.le_refl _) (.cells #[.string ⟨#[]⟩, .string ⟨#[]⟩, .int .i64 0, .slice none 0 0] 28)).alloc (by simp) (.cells #[.string ⟨#[]⟩, .string ⟨#[]⟩, .int .i64 0, .slice none 0 0] 28))
 go_enter Tryz.func15, Tryz.ntmps15
 go_wp2_with fail
 go_loopw [37] (fun iv wr => iv = .int .i64 0 ∧ Hid (Below w.heap.size w wr)) (fun _ _ => 0)
 case atStart => exact ⟨rfl, HB.out⟩
 case round =>
  obtain ⟨rfl, HB1⟩ := hrel
  go_wp2_with fail
  go_ret
  exact ⟨rfl, HB1.out⟩
theorem first_none {ps : List Pt} {v : Pt} (h : ∀ p ∈ ps, p.matchB v = false) : firstOf ps v = -1 := by
 rcases firstOf_cases ps v with ⟨i, q, h1, h2, -⟩ | ⟨-, h2⟩
 ·rw [h q (List.mem_of_getElem? h1)] at h2
  cases h2
 ·exact h2
set_option maxRecDepth 100000 in
set_option maxHeartbeats 16000000 in
theorem missing_law (A : Option Addr) (l : List Dt) (c : Nat) (t : Ty) (Ap : Option Addr) (ps : List Pt) (cp : Nat) (w : World) (h : AskIn w A l t Ap ps) (hcap : ps.length ≤ cp) (hcnt : t.count ≤ 1048576) (hcc : ∀ d ∈ l, ∀ x ∈ d.cons, x.ty.count ≤ 1048576) :
  Calls Tryz.prog 4 #[.slice A l.length c, t.val, .slice Ap ps.length cp] w fun e w' => e = .returned (.bool true) ∧ Below w.heap.size w w' := by
 have H := Lib.hid h
 have HAQ := Lib.hid (asked_iff (l := l) (t := t) h.count)
 have HU := Lib.hid (fun (W : World) (hW : Below w.heap.size w W) => rmissing_any A l c t Ap ps cp W (h.next hW) hcnt hcc)
 have HM := Lib.hid (fun (W : World) (hW : Below w.heap.size w W) => missing_any A l c t Ap ps cp W (h.next hW))
 have HZ := Lib.hid same_zero
 have HAW := Lib.hid (fun (W : World) (hW : Below w.heap.size w W) => awake_any W (h.env.next hW))
 have HIV := Lib.hid (fun (ha : Asked l t ps) (q : Pt) (hw : q.wellB = true) (W : World) (hW : Below w.heap.size w W) (hq : q.In W.heap.size W) => isVal_any A l c ha.right q t W (h.dts.next hW) hq hw (h.ty.next hW) ha.ty)
 have HF := Lib.hid (fun (q : Pt) (W : World) (hW : Below w.heap.size w W) (hq : q.In W.heap.size W) => rFirstOf_any ps Ap cp q W (h.pts.at_ hW hW.size) hq)
 have hpl := h.pts.len
 have HB0 := Lib.hid ((Below.refl w.heap.size w).alloc (Nat.le_refl _) (.cells #[.string t.dof, .string t.name, .slice t.at_ t.args.length t.cap] 25))
 have K1 := Lib.hid (Blk.new w #[.string t.dof, .string t.name, .slice t.at_ t.args.length t.cap] 25)
 have hzp : zeroPat = .agg #[.string ⟨#[]⟩, .string ⟨#[]⟩, .int .i64 0, .slice none 0 0] := rfl
 unfold RMissPost at HU
 unfold MissPost at HM
 rw [hzp] at HM
 obtain ⟨er, her⟩ : ∃ er, askedErr l t ps = er := ⟨_, rfl⟩
 rw [her] at HU HM HAQ
 clear h hcap hcnt hcc her hzp
 unfold Ty.val Pt.val at *
 go_enter Tryz.func4, Tryz.ntmps4
 go_wp2_with fail
 generalize w.alloc (.cells #[.string t.dof, .string t.name, .slice t.at_ t.args.length t.cap] 25) = w0 at HB0 K1 ⊢
 refine Calls.mono (HU.out _ HB0.out) ?_
 rintro e w1 ⟨hb1, ⟨b, h0, rfl, hbu⟩ | ⟨hne, rfl⟩⟩
 case inr =>
  have HB1 := Lib.hid (HB0.out.trans (hb1.mono HB0.out.size))
  have K11 := Lib.hid (K1.out.below hb1 K1.out.lt)
  obtain ⟨y0, y1, y2⟩ := K11.out.three
  have yl := K11.out.lt
  have HNE := Lib.hid hne
  have hne2 : (er == 0) = false := by simpa using hne
  have hne3 : (er != 0) = true := by simpa using hne
  clear hb1 hne
  go_wp2_with fail
  refine Calls.mono (HM.out _ HB1.out) ?_
  rintro e w2 ⟨hb2, hres⟩
  have hrr : e = .returned (.tuple #[.agg #[.string ⟨#[]⟩, .string ⟨#[]⟩, .int .i64 0, .slice none 0 0], .int .i64 er]) := by
   rcases hres with ⟨-, h1⟩ | ⟨h0, -⟩ | ⟨h0, -⟩
   ·exact h1
   ·exact absurd h0 HNE.out
   ·exact absurd h0 HNE.out
  subst hrr
  clear hres
  have HB2 := Lib.hid (HB1.out.trans (hb2.mono HB1.out.size))
  have HB3 := Lib.hid (HB2.out.alloc HB2.out.size (.cells #[.string ⟨#[]⟩, .string ⟨#[]⟩, .int .i64 0, .slice none 0 0] 28))
  clear hb2 y0 y1 y2 yl
  go_wp2_with fail
  refine Calls.mono (HZ.out _) ?_
  rintro e w4 ⟨rfl, hb4⟩
  have HB4 := Lib.hid (HB3.out.trans (hb4.mono HB3.out.size))
  clear hb4
  go_wp2_with fail
  refine Calls.mono (HAW.out _ HB4.out) ?_
  rintro e w5 ⟨rfl, hb5⟩
  have HB5 := Lib.hid (HB4.out.trans (hb5.mono HB4.out.size))
  clear hb5
  go_wp2_with fail
  go_ret
  exact ⟨rfl, HB5.out⟩
 subst h0
 have HASKED := Lib.hid (HAQ.out.1 rfl)
 have HB1 := Lib.hid (HB0.out.trans (hb1.mono HB0.out.size))
 have K11 := Lib.hid (K1.out.below hb1 K1.out.lt)
 obtain ⟨y0, y1, y2⟩ := K11.out.three
 have yl := K11.out.lt
 have HBU := Lib.hid hbu
 clear hb1 hbu
 go_wp2_with fail
 refine Calls.mono (HM.out _ HB1.out) ?_
 rintro e w2 ⟨hb2, hres⟩
 rcases hres with ⟨h0, -⟩ | ⟨-, hno, rfl⟩ | ⟨-, hyes, rfl | ⟨q, rfl, hqi, hqv, hqn⟩⟩
 ·exact absurd rfl h0
 ·have hb : b = false := by
   cases b with
   | false => rfl
   | true => exact absurd (HBU.out.1 rfl) hno
  subst hb
  clear hno
  have HB2 := Lib.hid (HB1.out.trans (hb2.mono HB1.out.size))
  have HB3 := Lib.hid (HB2.out.alloc HB2.out.size (.cells #[.string ⟨#[]⟩, .string ⟨#[]⟩, .int .i64 0, .slice none 0 0] 28))
  clear hb2 y0 y1 y2 yl
  go_wp2_with fail
  refine Calls.mono (HZ.out _) ?_
  rintro e w4 ⟨rfl, hb4⟩
  have HB4 := Lib.hid (HB3.out.trans (hb4.mono HB3.out.size))
  clear hb4
  go_wp2_with fail
  refine Calls.mono (HAW.out _ HB4.out) ?_
  rintro e w5 ⟨rfl, hb5⟩
  have HB5 := Lib.hid (HB4.out.trans (hb5.mono HB4.out.size))
  clear hb5
  go_wp2_with fail
  go_ret
  exact ⟨rfl, HB5.out⟩
 ·have hb : b = true := HBU.out.2 hyes
  subst hb
  clear hyes
  have HB2 := Lib.hid (HB1.out.trans (hb2.mono HB1.out.size))
  have HB3 := Lib.hid (HB2.out.alloc HB2.out.size (.cells #[.string ⟨#[]⟩, .string ⟨#[]⟩, .int .i64 0, .slice none 0 0] 28))
  clear hb2 y0 y1 y2 yl
  go_wp2_with fail
  refine Calls.mono (HZ.out _) ?_
  rintro e w4 ⟨rfl, hb4⟩
  have HB4 := Lib.hid (HB3.out.trans (hb4.mono HB3.out.size))
  clear hb4
  go_wp2_with fail
  refine Calls.mono (HAW.out _ HB4.out) ?_
  rintro e w5 ⟨rfl, hb5⟩
  have HB5 := Lib.hid (HB4.out.trans (hb5.mono HB4.out.size))
  clear hb5
  go_wp2_with fail
  go_ret
  exact ⟨rfl, HB5.out⟩
 ·have hb : b = true := HBU.out.2 hyes
  subst hb
  have HQW := Lib.hid hqv.1
  have HQV := Lib.hid hqv.2
  have HFI := Lib.hid (first_none hqn)
  have HBA := Lib.hid ((Below.refl w2.heap.size w2).alloc (Nat.le_refl _) (.cells #[.string q.dof, .string q.name, .int .i64 q.num, .slice q.at_ q.args.length q.cap] 28))
  have HC2 := Lib.hid (hb2.trans (HBA.out.mono hb2.size))
  have HB2 := Lib.hid (HB1.out.trans (HC2.out.mono HB1.out.size))
  have K12 := Lib.hid (K11.out.below HC2.out K11.out.lt)
  have KQ := Lib.hid (Blk.new w2 #[.string q.dof, .string q.name, .int .i64 q.num, .slice q.at_ q.args.length q.cap] 28)
  have HQI := Lib.hid (Pt.In.next hqi HBA.out)
  have HIV2 := Lib.hid (HIV.out HASKED.out q HQW.out)
  have HF2 := Lib.hid (HF.out q)
  rw [HQV.out] at HIV2
  rw [HFI.out] at HF2
  clear hqi hqv hqn hyes hb2 HIV HF y0 y1 y2 yl
  obtain ⟨y0, y1, y2⟩ := K12.out.three
  have yl := K12.out.lt
  go_wp2_with fail
  generalize w2.alloc (.cells #[.string q.dof, .string q.name, .int .i64 q.num, .slice q.at_ q.args.length q.cap] 28) = w3 at HBA HC2 HB2 K12 KQ HQI ⊢
  refine Calls.mono (HIV2.out _ HB2.out HQI.out) ?_
  rintro e w4 ⟨rfl, hb4⟩
  have HB4 := Lib.hid (HB2.out.trans (hb4.mono HB2.out.size))
  have KQ4 := Lib.hid (KQ.out.below hb4 KQ.out.lt)
  have HQI4 := Lib.hid (Pt.In.next HQI.out hb4)
  clear hb4 y0 y1 y2 yl
  obtain ⟨z0, z1, z2, z3⟩ := KQ4.out.four
  have zl := KQ4.out.lt
  go_wp2_with fail
  refine Calls.mono (HF2.out _ HB4.out HQI4.out) ?_
  rintro e w5 ⟨rfl, hb5⟩
  have HB5 := Lib.hid (HB4.out.trans (hb5.mono HB4.out.size))
  clear hb5 z0 z1 z2 z3 zl
  go_wp2_with fail
  refine Calls.mono (HAW.out _ HB5.out) ?_
  rintro e w6 ⟨rfl, hb6⟩
  have HB6 := Lib.hid (HB5.out.trans (hb6.mono HB5.out.size))
  clear hb6
  go_wp2_with fail
  go_ret
  exact ⟨rfl, HB6.out⟩
end Go.Proofs.YtjeggkfgdhepaaaGreatDoor
