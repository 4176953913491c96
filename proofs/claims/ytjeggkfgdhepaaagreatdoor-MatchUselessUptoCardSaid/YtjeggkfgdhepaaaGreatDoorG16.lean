/- The program's simple. -/
import Derived.Test.YtjeggkfgdhepaaaGreatDoorG15
set_option linter.unusedVariables false
set_option linter.unusedSimpArgs false
namespace Go.Proofs.YtjeggkfgdhepaaaGreatDoor
open Go.RowKit
open Go.Proofs
open Go.Maps
structure SimIn (l : List Dt) (bD n : Nat) (t : Ty) (A : Option Addr) (ps : List Pt) (cp : Nat) (w : World) : Prop where
 names : distinctB (l.map Dt.name) = true
 ty : okT l t
 map : MapAt ofV w bD n (dTo l l.length)
 tin : t.In w.heap.size w
 pts : PtsIn w.heap.size w A ps
 dts : ∀ d ∈ l,d.In w.heap.size w
 len : ps.length ≤ 12
 cap : ps.length ≤ cp
theorem SimIn.nums {l : List Dt} {bD n : Nat} {t : Ty} {A : Option Addr} {ps : List Pt} {cp : Nat} {w : World} (h : SimIn l bD n t A ps cp w) (q : Pt) (hq : q ∈ ps) : -9223372036854775808 ≤ q.num ∧ q.num ≤ 9223372036854775807:=by
 have hi:=h.pts.each q hq
 obtain ⟨d,s,m,a,c,qs⟩:=q
 exact (Pt.In_mk.1 hi).2.2.1
theorem SimIn.look {l : List Dt} {bD n : Nat} {t : Ty} {A : Option Addr} {ps : List Pt} {cp : Nat} {w : World} (h : SimIn l bD n t A ps cp w) {W : World} (hW : Below w.heap.size w W) (hd : isDo [100,97,116,97] t.dof = true) :
  ∃ d ∈ l,consOf l t.name = d.cons ∧ (Instr.lookup 59 (.map (some bD)) (.string t.name) false).run Tryz.prog W = .ok d.val W:=by
 obtain ⟨d,hdm,hdn,hdc⟩:=known_data h.ty hd
 have hsz : t.name.size ≤ 1099511627776:=by
  have hin:=h.tin
  obtain ⟨d9,n9,a9,c9,l9⟩:=t
  exact (Ty.In_mk.1 hin).2.1
 refine ⟨d,hdm,hdc, ?_⟩
 have hz : ∀ W,(zeroValue 111).run Tryz.prog W = .ok zDt W:=zeroDt
 have h9:=map_look_gen false Tryz.underlying59 (hz W) (h.map.next hW) t.name hsz
 rw [← hdn,look_dt h.names hdm] at h9
 rw [← hdn]
 exact h9
theorem field_dt (a b : Value) (W : World) : (Instr.field 111 (.agg #[a,b]) 1).run Tryz.prog W = .ok b W:=by kernel_rfl
theorem two_len {ps : List Pt} (h : listL ps = true ∨ listR ps = true ∨ boolR ps = true) : ps.length = 2:=by
 match ps,h with
 | [p,q],_ => rfl
 | [],h => simp [listL,listR,boolR] at h
 | [p],h => simp [listL,listR,boolR] at h
 | p :: q :: r :: s,h => simp [listL,listR,boolR] at h
theorem row_one4 {B : Nat} {w : World} {A : Option Addr} {p : Pt} (h : RowAt B w 4 A ([p].map Pt.cells)) : ∃ b o,A = some ⟨b,o,none⟩ ∧ b < B ∧ ∀ W,Below B w W → 
  W.cell? ⟨b,o,none⟩ = some (.string p.dof) ∧ W.cell? ⟨b,o + 1,none⟩ = some (.string p.name) ∧ W.cell? ⟨b,o + 2,none⟩ = some (.int .i64 p.num) ∧ W.cell? ⟨b,o + 3,none⟩ = some (.slice p.at_ p.args.length p.cap):=by
 obtain ⟨b,o,rfl,hb,hc⟩:=h (by simp)
 refine ⟨b,o,rfl,hb,fun W hW => ?_⟩
 have h0:=hc 0 p.cells rfl
 have k:=fun (j : Nat) => (hW.cell (p:=⟨b,o + j,none⟩) hb)
 refine ⟨(k 0).trans (h0 0 _ rfl),(k 1).trans (h0 1 _ rfl),(k 2).trans (h0 2 _ rfl),(k 3).trans (h0 3 _ rfl)⟩
set_option maxRecDepth 100000 in
set_option maxHeartbeats 2000000 in
theorem simL_zero (l : List Dt) (bD bC bE : Nat) (t : Ty) (A : Option Addr) (cp : Nat) (w : World) :
  Calls Tryz.prog 60 #[.agg #[.map (some bD),.map (some bC),.map (some bE)],t.val,.slice A 0 cp] w (YesNo (SimL l t []) w):=by
 have HB0:=Lib.hid (((Below.refl w.heap.size w).alloc (Nat.le_refl _) (.cells #[.map (some bD),.map (some bC),.map (some bE)] 63)).alloc (by simp) (.cells #[.string t.dof,.string t.name,.slice t.at_ t.args.length t.cap] 25))
 unfold Ty.val
 go_enter Tryz.func60,Tryz.ntmps60
 go_wp2_with fail
 go_ret
 exact YesNo.no (fun h => h.1 rfl) HB0.out
set_option maxRecDepth 100000 in
set_option maxHeartbeats 8000000 in
theorem simL_one (l : List Dt) (bD bC bE n : Nat) (t : Ty) (A : Option Addr) (p : Pt) (cp : Nat) (w : World) (h : SimIn l bD n t A [p] cp w) :
  Calls Tryz.prog 60 #[.agg #[.map (some bD),.map (some bC),.map (some bE)],t.val,.slice A 1 cp] w (YesNo (SimL l t [p]) w):=by
 have HNE : [p] ≠ []:=by simp
 have HROW:=Lib.hid h.pts.row
 have HC1:=Lib.hid (fun (q : Pt) (W : World) => isWild_any q W)
 have HC2:=Lib.hid (fun (q : Pt) (hm : q ∈ [p]) (b : ByteArray) (m : Nat) (W : World) (hW : Below w.heap.size w W) => wilds_any q b m W ((h.pts.each q hm).next hW))
 have HC3:=Lib.hid (fun (W : World) (hW : Below w.heap.size w W) => ints_any [p] A cp W (h.pts.at_ hW hW.size).row (fun q hq => h.nums q hq) HNE (Nat.le_trans h.len (by decide)) h.cap)
 have HC4:=Lib.hid (fun (d : Dt) (hm : d ∈ l) (W : World) (hW : Below w.heap.size w W) => equal_con [p] A cp d.cons d.at_ d.cap W (h.pts.at_ hW hW.size).row (h.pts.at_ hW hW.size).each ((h.dts d hm).at_ hW hW.size).2.2.2.1 (Nat.le_trans h.len (by decide)))
 have HLK:=Lib.hid (fun (W : World) (hW : Below w.heap.size w W) (hd : isDo [100,97,116,97] t.dof = true) => h.look hW hd)
 have HB0:=Lib.hid (((Below.refl w.heap.size w).alloc (Nat.le_refl _) (.cells #[.map (some bD),.map (some bC),.map (some bE)] 63)).alloc (by simp) (.cells #[.string t.dof,.string t.name,.slice t.at_ t.args.length t.cap] 25))
 have K3:=Lib.hid ((Blk.new w #[.map (some bD),.map (some bC),.map (some bE)] 63).alloc (.cells #[.string t.dof,.string t.name,.slice t.at_ t.args.length t.cap] 25))
 have K4:=Lib.hid (Blk.new' (w.alloc (.cells #[.map (some bD),.map (some bC),.map (some bE)] 63)) #[.string t.dof,.string t.name,.slice t.at_ t.args.length t.cap] 25 (w.heap.size + 1) (by simp))
 obtain ⟨z1,h1⟩ : ∃ z,(t.dof.toList == [108,105,115,116]) = z:=⟨_,rfl⟩
 obtain ⟨z2,h2⟩ : ∃ z,(t.dof.toList == [98,111,111,108]) = z:=⟨_,rfl⟩
 obtain ⟨z3,h3⟩ : ∃ z,(t.dof.toList == [105,110,116]) = z:=⟨_,rfl⟩
 obtain ⟨z4,h4⟩ : ∃ z,(t.dof.toList == [100,97,116,97]) = z:=⟨_,rfl⟩
 have HT1:=Lib.hid (show isDo [108,105,115,116] t.dof = z1 from h1)
 have HT2:=Lib.hid (show isDo [98,111,111,108] t.dof = z2 from h2)
 have HT3:=Lib.hid (show isDo [105,110,116] t.dof = z3 from h3)
 have HT4:=Lib.hid (show isDo [100,97,116,97] t.dof = z4 from h4)
 clear h
 obtain ⟨b,o,rfl,hb,hcell⟩:=row_one4 HROW.out
 have HCELL:=Lib.hid hcell
 obtain ⟨x0,x1,x2,x3⟩:=HCELL.out _ HB0.out
 have hs:=HB0.out.size
 clear hcell
 unfold Ty.val
 unfold Pt.val at *
 go_enter Tryz.func60,Tryz.ntmps60
 go_wp2_with fail
 refine Calls.mono (HC1.out p _) ?_
 rintro e w2 ⟨rfl,hb2⟩
 have HB2:=Lib.hid (HB0.out.trans (hb2.mono HB0.out.size))
 obtain ⟨zw,hzw⟩ : ∃ z,wildD p.dof = z:=⟨_,rfl⟩
 have HZW:=Lib.hid hzw
 rw [hzw]
 cases zw
 case true =>
  clear hb2 x0 x1 x2 x3 hzw
  go_wp2_with fail
  go_ret
  exact YesNo.yes ⟨HNE,.inl (by simp [oneL,HZW.out])⟩ HB2.out
 case false =>
  have K32:=Lib.hid (K3.out.below hb2 K3.out.lt)
  have K42:=Lib.hid (K4.out.below hb2 K4.out.lt)
  clear x0 x1 x2 x3 hb2 hzw hs
  obtain ⟨x0,x1,x2,x3⟩:=HCELL.out _ HB2.out
  have hs:=HB2.out.size
  go_wp2_with fail
  refine Calls.mono (HC2.out p (by simp) ⟨#[112,97,105,114]⟩ 2 _ HB2.out) ?_
  rintro e w3 ⟨rfl,hb3⟩
  have HB3:=Lib.hid (HB2.out.trans (hb3.mono HB2.out.size))
  obtain ⟨zp,hzp⟩ : ∃ z,(p.dof.toList == [112,97,105,114] && (p.args.length == 2 && p.flatB)) = z:=⟨_,rfl⟩
  have HZP:=Lib.hid (show (isDo [112,97,105,114] p.dof && (p.args.length == 2 && p.flatB)) = zp from hzp)
  rw [show (⟨#[112,97,105,114]⟩ : ByteArray).toList = [112,97,105,114] by decide +kernel,hzp]
  cases zp
  case true =>
   clear hb3 x0 x1 x2 x3 hzp
   go_wp2_with fail
   go_ret
   exact YesNo.yes ⟨HNE,.inl (by simp only [oneL,HZP.out,Bool.true_or,Bool.or_true])⟩ HB3.out
  case false =>
   have K3:=Lib.hid (K32.out.below hb3 K32.out.lt)
   have K4:=Lib.hid (K42.out.below hb3 K42.out.lt)
   clear x0 x1 x2 x3 hb3 hzp hs K32 K42
   obtain ⟨x0,x1,x2,x3⟩:=HCELL.out _ HB3.out
   have hs:=HB3.out.size
   obtain ⟨zu,hzu⟩ : ∃ z,(p.dof.toList == [117,110,105,116]) = z:=⟨_,rfl⟩
   have HZU:=Lib.hid (show isDo [117,110,105,116] p.dof = zu from hzu)
   cases zu
   case true =>
    go_wp2_with fail
    go_ret
    exact YesNo.yes ⟨HNE,.inl (by simp only [oneL,HZU.out,Bool.or_true])⟩ HB3.out
   case false =>
    have HONE:=Lib.hid (show oneL [p] = false by simp only [oneL,HZW.out,HZP.out,HZU.out,Bool.or_false])
    obtain ⟨tw0,tw1,tw2⟩:=K3.out.three
    have twl:=K3.out.lt
    obtain ⟨ty0,ty1,ty2⟩:=K4.out.three
    have tyl:=K4.out.lt
    cases z1
    case true =>
     clear h2 h3 h4
     have HNO:=Lib.hid (show ¬SimL l t [p] from fun h => (by simpa [listL,listR] using (simL_list HT1.out HONE.out (by simp)).1 h))
     go_wp2_with fail
     go_ret
     exact YesNo.no HNO.out HB3.out
    case false =>
     cases z2
     case true =>
      clear h3 h4
      have HNO:=Lib.hid (show ¬SimL l t [p] from fun h => (by simpa [boolR] using (simL_bool HT2.out HONE.out (by simp)).1 h))
      go_wp2_with fail
      go_ret
      exact YesNo.no HNO.out HB3.out
     case false =>
      cases z3
      case true =>
       clear h4
       have HIFF:=Lib.hid (simL_int (l:=l) HT3.out HONE.out (by simp))
       go_wp2_with fail
       refine Calls.mono (HC3.out _ HB3.out) ?_
       rintro e w9 ⟨⟨b9,rfl,hiff⟩,hb9⟩
       have HB9:=Lib.hid (HB3.out.trans (hb9.mono HB3.out.size))
       have HRES:=Lib.hid (hiff.trans HIFF.out.symm)
       clear hiff hb9
       go_wp2_with fail
       go_ret
       exact YesNo.is HRES.out HB9.out
      case false =>
       cases z4
       case true =>
        have HIFF:=Lib.hid (simL_data (l:=l) HT4.out HONE.out (by simp))
        obtain ⟨d,hdm,hdc,hlk⟩:=HLK.out _ HB3.out HT4.out
        have HEQ:=Lib.hid (HC4.out d hdm _ HB3.out)
        unfold Dt.val at hlk
        rw [hdc] at HIFF
        have hfd:=field_dt (.string d.name) (.slice d.at_ d.cons.length d.cap)
        clear hdc hdm
        go_wp2_with fail
        refine Calls.mono HEQ.out ?_
        rintro e w9 ⟨⟨b9,rfl,hiff⟩,hb9⟩
        have HB9:=Lib.hid (HB3.out.trans (hb9.mono HB3.out.size))
        have HRES:=Lib.hid (hiff.trans HIFF.out.symm)
        clear hiff hb9 hlk
        go_wp2_with fail
        go_ret
        exact YesNo.is HRES.out HB9.out
       case false =>
        have HNO:=Lib.hid (show ¬SimL l t [p] from simL_none HT1.out HT2.out HT3.out HT4.out HONE.out)
        go_wp2_with fail
        go_ret
        exact YesNo.no HNO.out HB3.out
set_option maxRecDepth 100000 in
set_option maxHeartbeats 8000000 in
theorem simL_more (l : List Dt) (bD bC bE n : Nat) (t : Ty) (A : Option Addr) (ps : List Pt) (cp : Nat) (w : World) (h : SimIn l bD n t A ps cp w) (hl : 2 ≤ ps.length) :
  Calls Tryz.prog 60 #[.agg #[.map (some bD),.map (some bC),.map (some bE)],t.val,.slice A ps.length cp] w (YesNo (SimL l t ps) w):=by
 have HNE : ps ≠ []:=by
  intro e
  rw [e] at hl
  simp at hl
 have HROW:=Lib.hid h.pts.row
 have HC1:=Lib.hid (fun (q : Pt) (W : World) => isWild_any q W)
 have HC2:=Lib.hid (fun (q : Pt) (hm : q ∈ ps) (b : ByteArray) (m : Nat) (W : World) (hW : Below w.heap.size w W) => wilds_any q b m W ((h.pts.each q hm).next hW))
 have HC3:=Lib.hid (fun (W : World) (hW : Below w.heap.size w W) => ints_any ps A cp W (h.pts.at_ hW hW.size).row (fun q hq => h.nums q hq) HNE (Nat.le_trans h.len (by decide)) h.cap)
 have HC4:=Lib.hid (fun (d : Dt) (hm : d ∈ l) (W : World) (hW : Below w.heap.size w W) => equal_con ps A cp d.cons d.at_ d.cap W (h.pts.at_ hW hW.size).row (h.pts.at_ hW hW.size).each ((h.dts d hm).at_ hW hW.size).2.2.2.1 (Nat.le_trans h.len (by decide)))
 have HLK:=Lib.hid (fun (W : World) (hW : Below w.heap.size w W) (hd : isDo [100,97,116,97] t.dof = true) => h.look hW hd)
 have HB0:=Lib.hid (((Below.refl w.heap.size w).alloc (Nat.le_refl _) (.cells #[.map (some bD),.map (some bC),.map (some bE)] 63)).alloc (by simp) (.cells #[.string t.dof,.string t.name,.slice t.at_ t.args.length t.cap] 25))
 obtain ⟨z1,h1⟩ : ∃ z,(t.dof.toList == [108,105,115,116]) = z:=⟨_,rfl⟩
 obtain ⟨z2,h2⟩ : ∃ z,(t.dof.toList == [98,111,111,108]) = z:=⟨_,rfl⟩
 obtain ⟨z3,h3⟩ : ∃ z,(t.dof.toList == [105,110,116]) = z:=⟨_,rfl⟩
 obtain ⟨z4,h4⟩ : ∃ z,(t.dof.toList == [100,97,116,97]) = z:=⟨_,rfl⟩
 have HT1:=Lib.hid (show isDo [108,105,115,116] t.dof = z1 from h1)
 have HT2:=Lib.hid (show isDo [98,111,111,108] t.dof = z2 from h2)
 have HT3:=Lib.hid (show isDo [105,110,116] t.dof = z3 from h3)
 have HT4:=Lib.hid (show isDo [100,97,116,97] t.dof = z4 from h4)
 have HNE:=Lib.hid HNE
 have HONE:=Lib.hid (show oneL ps = false by
  match ps,hl with
  | p :: q :: r,_ => rfl)
 have e0 : ((ps.length : Int) == 0) = false:=by rw [beq_eq_false_iff_ne]; omega
 have e1 : ((ps.length : Int) == 1) = false:=by simp; omega
 clear h hl
 unfold Ty.val
 unfold Pt.val at *
 go_enter Tryz.func60,Tryz.ntmps60
 cases z1
 case true =>
  clear h2 h3 h4
  by_cases hl2 : ps.length = 2
  case neg =>
   have e2 : ((ps.length : Int) == 2) = false:=by simp; omega
   have HNO:=Lib.hid (show ¬SimL l t ps from fun h => hl2 (two_len (.inl ((simL_list HT1.out HONE.out HNE.out).1 h))))
   clear hl2
   go_wp2_with fail
   go_ret
   exact YesNo.no HNO.out HB0.out
  case pos =>
   obtain ⟨p,q,rfl⟩:=two_list hl2
   have HIFF:=Lib.hid (simL_list (l:=l) HT1.out HONE.out HNE.out)
   obtain ⟨b,o,rfl,hb,hcell⟩:=two_rows HROW.out
   obtain ⟨x0,x1,x2,x3,x4,x5,x6,x7⟩:=hcell _ HB0.out
   have hs:=HB0.out.size
   simp only [List.length_cons,List.length_nil,Nat.zero_add,Nat.reduceAdd] at *
   obtain ⟨y1,hy1⟩ : ∃ z,(p.dof.toList == [110,105,108]) = z:=⟨_,rfl⟩
   have HY1:=Lib.hid hy1
   cases y1
   case false =>
    have HNO:=Lib.hid (show ¬SimL l t [p,q] from fun h => by
     have:=HIFF.out.1 h
     simp only [listL,isDo,HY1.out,Bool.false_and,Bool.false_eq_true] at this)
    clear hcell
    go_wp2_with fail
    go_ret
    exact YesNo.no HNO.out HB0.out
   case true =>
    clear hcell
    go_wp2_with fail
    refine Calls.mono (HC2.out q (by simp) ⟨#[99,111,110,115]⟩ 2 _ HB0.out) ?_
    rintro e w9 ⟨rfl,hb9⟩
    have HB9:=Lib.hid (HB0.out.trans (hb9.mono HB0.out.size))
    obtain ⟨y2,hy2⟩ : ∃ z,(q.dof.toList == [99,111,110,115] && (q.args.length == 2 && q.flatB)) = z:=⟨_,rfl⟩
    have HRES:=Lib.hid (show (y2 = true ↔ SimL l t [p,q]) by
     rw [HIFF.out,← hy2]
     simp only [listL,isDo,HY1.out,Bool.true_and])
    rw [show (⟨#[99,111,110,115]⟩ : ByteArray).toList = [99,111,110,115] by decide +kernel,hy2]
    clear hy2 hb9 x0 x1 x2 x3 x4 x5 x6 x7 hs
    go_wp2_with fail
    go_ret
    exact YesNo.is HRES.out HB9.out
 case false =>
  cases z2
  case true =>
   clear h3 h4
   by_cases hl2 : ps.length = 2
   case neg =>
    have e2 : ((ps.length : Int) == 2) = false:=by simp; omega
    have HNO:=Lib.hid (show ¬SimL l t ps from fun h => hl2 (two_len (.inr (.inr ((simL_bool HT2.out HONE.out HNE.out).1 h)))))
    clear hl2
    go_wp2_with fail
    go_ret
    exact YesNo.no HNO.out HB0.out
   case pos =>
    obtain ⟨p,q,rfl⟩:=two_list hl2
    have HIFF:=Lib.hid (simL_bool (l:=l) HT2.out HONE.out HNE.out)
    obtain ⟨b,o,rfl,hb,hcell⟩:=two_rows HROW.out
    obtain ⟨x0,x1,x2,x3,x4,x5,x6,x7⟩:=hcell _ HB0.out
    have hs:=HB0.out.size
    simp only [List.length_cons,List.length_nil,Nat.zero_add,Nat.reduceAdd] at *
    obtain ⟨y1,hy1⟩ : ∃ z,(p.dof.toList == [98,111,111,108]) = z:=⟨_,rfl⟩
    obtain ⟨y2,hy2⟩ : ∃ z,(p.num == 0) = z:=⟨_,rfl⟩
    obtain ⟨y3,hy3⟩ : ∃ z,(q.dof.toList == [98,111,111,108]) = z:=⟨_,rfl⟩
    obtain ⟨y4,hy4⟩ : ∃ z,(q.num == 1) = z:=⟨_,rfl⟩
    have HRES:=Lib.hid (show ((y1 && (y2 && (y3 && y4))) = true ↔ SimL l t [p,q]) by
     rw [HIFF.out,← hy1,← hy2,← hy3,← hy4]
     exact Iff.rfl)
    clear hcell
    cases y1
    case false =>
     go_wp2_with fail
     go_ret
     exact YesNo.is HRES.out HB0.out
    case true =>
     cases y2
     case false =>
      go_wp2_with fail
      go_ret
      exact YesNo.is HRES.out HB0.out
     case true =>
      cases y3
      case false =>
       go_wp2_with fail
       go_ret
       exact YesNo.is HRES.out HB0.out
      case true =>
       go_wp2_with fail
       go_ret
       exact YesNo.is HRES.out HB0.out
  case false =>
   cases z3
   case true =>
    clear h4
    have HIFF:=Lib.hid (simL_int (l:=l) HT3.out HONE.out HNE.out)
    go_wp2_with fail
    refine Calls.mono (HC3.out _ HB0.out) ?_
    rintro e w9 ⟨⟨b9,rfl,hiff⟩,hb9⟩
    have HB9:=Lib.hid (HB0.out.trans (hb9.mono HB0.out.size))
    have HRES:=Lib.hid (hiff.trans HIFF.out.symm)
    clear hiff hb9
    go_wp2_with fail
    go_ret
    exact YesNo.is HRES.out HB9.out
   case false =>
    cases z4
    case true =>
     have HIFF:=Lib.hid (simL_data (l:=l) HT4.out HONE.out HNE.out)
     obtain ⟨d,hdm,hdc,hlk⟩:=HLK.out _ HB0.out HT4.out
     have HEQ:=Lib.hid (HC4.out d hdm _ HB0.out)
     unfold Dt.val at hlk
     rw [hdc] at HIFF
     have hfd:=field_dt (.string d.name) (.slice d.at_ d.cons.length d.cap)
     clear hdc hdm
     go_wp2_with fail
     refine Calls.mono HEQ.out ?_
     rintro e w9 ⟨⟨b9,rfl,hiff⟩,hb9⟩
     have HB9:=Lib.hid (HB0.out.trans (hb9.mono HB0.out.size))
     have HRES:=Lib.hid (hiff.trans HIFF.out.symm)
     clear hiff hb9 hlk
     go_wp2_with fail
     go_ret
     exact YesNo.is HRES.out HB9.out
    case false =>
     have HNO:=Lib.hid (show ¬SimL l t ps from simL_none HT1.out HT2.out HT3.out HT4.out HONE.out)
     go_wp2_with fail
     go_ret
     exact YesNo.no HNO.out HB0.out
theorem simL_any (l : List Dt) (bD bC bE n : Nat) (t : Ty) (A : Option Addr) (ps : List Pt) (cp : Nat) (w : World) (h : SimIn l bD n t A ps cp w) :
  Calls Tryz.prog 60 #[.agg #[.map (some bD),.map (some bC),.map (some bE)],t.val,.slice A ps.length cp] w (YesNo (SimL l t ps) w):=by
 match ps,h with
 | [],h => exact simL_zero l bD bC bE t A cp w
 | [p],h => exact simL_one l bD bC bE n t A p cp w h
 | p :: q :: r,h => exact simL_more l bD bC bE n t A (p :: q :: r) cp w h (by simp)
end Go.Proofs.YtjeggkfgdhepaaaGreatDoor

namespace Go.Proofs.YtjeggkfgdhepaaaGreatDoor
open Go.RowKit
open Go.Proofs
open Go.Maps
def DataK (ps : List Pt) (cs : List Cn) (k : Nat) : Prop:=∀ (i : Nat) (p : Pt) (x : Cn),i < k → ps[i]? = some p → cs[i]? = some x → isDo [99,111,110] p.dof = true ∧ p.name.toList = x.name.toList
theorem DataK.succ {ps : List Pt} {cs : List Cn} {k : Nat} {q : Pt} {x : Cn} (h : DataK ps cs k) (hq : ps[k]? = some q) (hx : cs[k]? = some x) (h1 : isDo [99,111,110] q.dof = true) (h2 : q.name.toList = x.name.toList) : DataK ps cs (k + 1):=by
 intro i p y hi hp hy
 by_cases hik : i < k
 ·exact h i p y hik hp hy
 ·have : i = k:=by omega
  subst this
  rw [hq] at hp
  rw [hx] at hy
  cases hp
  cases hy
  exact ⟨h1,h2⟩
theorem rnums_take (ps : List Pt) (n : Nat) (hn : ps.length = n + 1) (A : Option Addr) (cp : Nat) (W : World) (hrow : RowAt W.heap.size W 4 A (ps.map Pt.cells)) (hl : ps.length ≤ 12) (hc : ps.length ≤ cp) :
  Calls Tryz.prog 100 #[.slice A n cp] W (YesNo (IntsP ps n) W):=by
 have hlen : (ps.take n).length = n:=by rw [List.length_take]; omega
 have h:=rnumbers_any (ps.take n) A cp W (by rw [List.map_take]; exact hrow.take n) (by omega) (by omega)
 rw [hlen] at h
 refine Calls.mono h ?_
 rintro e w' ⟨⟨b,rfl,hb⟩,hbl⟩
 refine YesNo.is (hb.trans ⟨fun k i p hi hp => ?_,fun k i p hi hp => ?_⟩) hbl
 ·have hp' : (ps.take n)[i]? = some p:=by rw [List.getElem?_take,if_pos hi]; exact hp
  exact ⟨(k i p hi hp').1,fun j q hj hq => (k i p hi hp').2 j q hj (by rw [List.getElem?_take,if_pos (by omega)]; exact hq)⟩
 ·rw [List.getElem?_take,if_pos hi] at hp
  refine ⟨(k i p hi hp).1,fun j q hj hq => (k i p hi hp).2 j q hj ?_⟩
  rw [List.getElem?_take,if_pos (by omega)] at hq
  exact hq
structure RSimIn (l : List Dt) (Ad : Option Addr) (t : Ty) (A : Option Addr) (ps : List Pt) (cp : Nat) (w : World) : Prop where
 names : distinctB (l.map Dt.name) = true
 ty : okT l t
 dts : DtsIn w.heap.size w Ad l
 tin : t.In w.heap.size w
 pts : PtsIn w.heap.size w A ps
 len : ps.length ≤ 12
 cap : ps.length ≤ cp
theorem RSimIn.dt {l : List Dt} {Ad : Option Addr} {t : Ty} {A : Option Addr} {ps : List Pt} {cp : Nat} {w : World} (h : RSimIn l Ad t A ps cp w) (cd : Nat) {W : World} (hW : Below w.heap.size w W) (hd : isDo [100,97,116,97] t.dof = true) :
  ∃ d : Dt,consOf l t.name = d.cons ∧ RowAt w.heap.size w 5 d.at_ (d.cons.map Cn.cells) ∧ Calls Tryz.prog 78 #[.slice Ad l.length cd,.string t.name] W fun e w' => e = .returned (.tuple #[d.val,.bool true]) ∧ Below W.heap.size W w':=by
 obtain ⟨d,hdm,hdn,hdc⟩:=known_data h.ty hd
 refine ⟨d,hdc,(h.dts.each d hdm).2.2.2.1, ?_⟩
 have hf : dtFound l t.name = (d.val,true):=by unfold dtFound; rw [← hdn,find_name h.names hdm]
 have h9:=datatype_any Ad l cd t.name W (h.dts.next hW)
 rw [hf] at h9
 exact h9
set_option maxRecDepth 100000 in
set_option maxHeartbeats 2000000 in
theorem simR_zero (l : List Dt) (Ad : Option Addr) (cd : Nat) (t : Ty) (A : Option Addr) (cp : Nat) (w : World) :
  Calls Tryz.prog 61 #[.slice Ad l.length cd,t.val,.slice A 0 cp] w (YesNo (SimR l t []) w):=by
 have HB0:=Lib.hid ((Below.refl w.heap.size w).alloc (Nat.le_refl _) (.cells #[.string t.dof,.string t.name,.slice t.at_ t.args.length t.cap] 25))
 have K0:=Lib.hid (Blk.new w #[.string t.dof,.string t.name,.slice t.at_ t.args.length t.cap] 25)
 unfold Ty.val
 go_enter Tryz.func61,Tryz.ntmps61
 go_wp2_with fail
 go_loopw [15] (fun iv wr => iv = .int .i64 0 ∧ Hid (Below w.heap.size w wr)) (fun _ _ => 0)
 case atStart => exact ⟨rfl,HB0.out⟩
 case round =>
  obtain ⟨rfl,HB⟩:=hrel
  go_wp2_with fail
  go_ret
  exact YesNo.no (fun h => h.2.1 rfl) HB.out
set_option maxRecDepth 100000 in
set_option maxHeartbeats 8000000 in
theorem simR_one (l : List Dt) (Ad : Option Addr) (cd : Nat) (t : Ty) (A : Option Addr) (p : Pt) (cp : Nat) (w : World) (h : RSimIn l Ad t A [p] cp w) :
  Calls Tryz.prog 61 #[.slice Ad l.length cd,t.val,.slice A 1 cp] w (YesNo (SimR l t [p]) w):=by
 have HROW:=Lib.hid h.pts.row
 have HLEN:=Lib.hid h.len
 have HCAP:=Lib.hid h.cap
 have HC1:=Lib.hid (fun (q : Pt) (W : World) => rwild_any q W)
 have HC2:=Lib.hid (fun (q : Pt) (hm : q ∈ [p]) (W : World) (hW : Below w.heap.size w W) => rflat_any q W ((h.pts.each q hm).next hW))
 have HC3:=Lib.hid (fun (n : Nat) (hn : [p].length = n + 1) (W : World) (hW : Below w.heap.size w W) => rnums_take [p] n hn A cp W (h.pts.at_ hW hW.size).row h.len h.cap)
 have HC5:=Lib.hid (fun (W : World) (hW : Below w.heap.size w W) (hd : isDo [100,97,116,97] t.dof = true) => h.dt cd hW hd)
 have HB0:=Lib.hid ((Below.refl w.heap.size w).alloc (Nat.le_refl _) (.cells #[.string t.dof,.string t.name,.slice t.at_ t.args.length t.cap] 25))
 have K0:=Lib.hid (Blk.new w #[.string t.dof,.string t.name,.slice t.at_ t.args.length t.cap] 25)
 obtain ⟨z1,h1⟩ : ∃ z,(t.dof.toList == [108,105,115,116]) = z:=⟨_,rfl⟩
 obtain ⟨z2,h2⟩ : ∃ z,(t.dof.toList == [98,111,111,108]) = z:=⟨_,rfl⟩
 obtain ⟨z3,h3⟩ : ∃ z,(t.dof.toList == [105,110,116]) = z:=⟨_,rfl⟩
 obtain ⟨z4,h4⟩ : ∃ z,(t.dof.toList == [100,97,116,97]) = z:=⟨_,rfl⟩
 have HT1:=Lib.hid (show isDo [108,105,115,116] t.dof = z1 from h1)
 have HT2:=Lib.hid (show isDo [98,111,111,108] t.dof = z2 from h2)
 have HT3:=Lib.hid (show isDo [105,110,116] t.dof = z3 from h3)
 have HT4:=Lib.hid (show isDo [100,97,116,97] t.dof = z4 from h4)
 obtain ⟨bA,oA,rfl,hbA,hcell⟩:=row_one4 HROW.out
 have HCELL:=Lib.hid hcell
 clear hcell
 clear h
 unfold Ty.val
 unfold Pt.val at HC1
 go_enter Tryz.func61,Tryz.ntmps61
 go_wp2_with fail
 generalize w.alloc (.cells #[.string t.dof,.string t.name,.slice t.at_ t.args.length t.cap] 25) = w0 at HB0 K0 ⊢
 go_loopw [15] (fun iv wr => ∃ k : Nat,iv = .int .i64 k ∧ k ≤ 1 ∧ Hid (Below w.heap.size w wr) ∧ Hid (Blk wr w.heap.size #[.string t.dof,.string t.name,.slice t.at_ t.args.length t.cap] 25) ∧ Hid (∀ (j : Nat) (x : Pt),j < k → ([p])[j]? = some x → x.flatB = true)) (fun iv _ => 1 - (intOf iv).toNat)
 case atStart => exact ⟨0,rfl,Nat.zero_le _,HB0.out,K0.out,Lib.hid fun j x hj => absurd hj (Nat.not_lt_zero _)⟩
 case round =>
  obtain ⟨k,rfl,hk,HB,K4,HF⟩:=hrel
  by_cases hlt : k < 1
  ·obtain ⟨q,b0,off,hq,hmem,hqa,hb,x0,x1,x2,x3⟩:=Pt.arg_at HROW.out HB.out (show k < ([p]).length from hlt)
   simp only [Option.some.injEq,Addr.mk.injEq,and_true] at hqa; obtain ⟨rfl,rfl⟩:=hqa
   have HQ:=Lib.hid hq
   have hs:=HB.out.size
   have HB1:=Lib.hid (HB.out.alloc hs (.cells #[.string q.dof,.string q.name,.int .i64 q.num,.slice q.at_ q.args.length q.cap] 28))
   have HFC:=Lib.hid (HC2.out q hmem _ HB1.out)
   have HKW:=Lib.hid (K4.out.alloc (.cells #[.string q.dof,.string q.name,.int .i64 q.num,.slice q.at_ q.args.length q.cap] 28))
   have HMEM:=Lib.hid hmem
   clear hq hmem
   unfold Pt.val at HFC
   go_wp2_with fail
   refine Calls.mono HFC.out ?_
   rintro e w2 ⟨rfl,hb2⟩
   have HB2:=Lib.hid (HB1.out.trans (hb2.mono HB1.out.size))
   have HK2:=Lib.hid (HKW.out.below hb2 HKW.out.lt)
   obtain ⟨z,hz⟩ : ∃ z,q.flatB = z:=⟨_,rfl⟩
   have HZ:=Lib.hid hz
   rw [hz]
   clear hb2 hz x0 x1 x2 x3
   cases z
   case false =>
    have HNO:=Lib.hid (show ¬SimR l t [p] from fun h => by
     have:=h.1 q HMEM.out
     rw [HZ.out] at this
     cases this)
    go_wp2_with fail
    go_ret
    exact YesNo.no HNO.out HB2.out
   case true =>
    go_wp2_with fail
    exact ⟨⟨k + 1,by go_num,by omega,HB2.out,HK2.out,Lib.hid (fun j y hj hy => by
     by_cases hjk : j < k
     ·exact HF.out j y hjk hy
     ·have : j = k:=by omega
      subst this
      rw [HQ.out] at hy
      cases hy
      exact HZ.out)⟩,by simp [intOf]; omega⟩
  ·have hk2 : k = 1:=by omega
   have HFLAT:=Lib.hid (show ∀ x ∈ [p],x.flatB = true from fun x hx => by
    obtain ⟨j,hj⟩:=List.getElem?_of_mem hx
    exact HF.out j x (by rw [hk2]; exact (List.getElem?_eq_some_iff.1 hj).1) hj)
   clear hlt HF
   subst hk2
   obtain ⟨x0,x1,x2,x3⟩:=HCELL.out _ HB.out
   have hs:=HB.out.size
   go_wp2_with fail
   refine Calls.mono (HC1.out p _) ?_
   rintro e w2 ⟨rfl,hb2⟩
   have HB2:=Lib.hid (HB.out.trans (hb2.mono HB.out.size))
   obtain ⟨zw,hzw⟩ : ∃ z,wildD p.dof = z:=⟨_,rfl⟩
   have HZW:=Lib.hid hzw
   rw [hzw]
   cases zw
   case true =>
    clear hb2 x0 x1 x2 x3 hzw
    have HYES:=Lib.hid (show SimR l t [p] from ⟨HFLAT.out,by simp,.inl (by simp [oneR,HZW.out])⟩)
    go_wp2_with fail
    go_ret
    exact YesNo.yes HYES.out HB2.out
   case false =>
    have K42:=Lib.hid (K4.out.below hb2 K4.out.lt)
    clear x0 x1 x2 x3 hb2 hzw hs
    clear K4
    have K4:=K42
    obtain ⟨x0,x1,x2,x3⟩:=HCELL.out _ HB2.out
    have hs:=HB2.out.size
    obtain ⟨zp,hzp⟩ : ∃ z,(p.dof.toList == [112,97,105,114]) = z:=⟨_,rfl⟩
    have HZP:=Lib.hid (show isDo [112,97,105,114] p.dof = zp from hzp)
    obtain ⟨zu,hzu⟩ : ∃ z,(p.dof.toList == [117,110,105,116]) = z:=⟨_,rfl⟩
    have HZU:=Lib.hid (show isDo [117,110,105,116] p.dof = zu from hzu)
    cases zp
    case true =>
     have HYES:=Lib.hid (show SimR l t [p] from ⟨HFLAT.out,by simp,.inl (by simp only [oneR,HZP.out,Bool.true_or,Bool.or_true])⟩)
     go_wp2_with fail
     go_ret
     exact YesNo.yes HYES.out HB2.out
    case false =>
     cases zu
     case true =>
      have HYES:=Lib.hid (show SimR l t [p] from ⟨HFLAT.out,by simp,.inl (by simp only [oneR,HZU.out,Bool.or_true])⟩)
      go_wp2_with fail
      go_ret
      exact YesNo.yes HYES.out HB2.out
     case false =>
      have HONE:=Lib.hid (show oneR [p] = false by simp only [oneR,HZW.out,HZP.out,HZU.out,Bool.or_false])
      obtain ⟨ty0,ty1,ty2⟩:=K4.out.three
      have tyl:=K4.out.lt
      cases z1
      case true =>
       clear h2 h3 h4
       have HNO:=Lib.hid (show ¬SimR l t [p] from fun h => (by simpa [listL,listR] using (simR_list HT1.out HONE.out (by simp) HFLAT.out).1 h))
       go_wp2_with fail
       go_ret
       exact YesNo.no HNO.out HB2.out
      case false =>
       cases z2
       case true =>
        clear h3 h4
        have HNO:=Lib.hid (show ¬SimR l t [p] from fun h => (by simpa [boolR] using (simR_bool HT2.out HONE.out (by simp) HFLAT.out).1 h))
        go_wp2_with fail
        go_ret
        exact YesNo.no HNO.out HB2.out
       case false =>
        cases z3
        case true =>
         clear h4
         have HIFF:=Lib.hid (simR_int (l:=l) HT3.out HONE.out (by simp) HFLAT.out)
         have HNO:=Lib.hid (show ¬SimR l t [p] from fun h => absurd (HIFF.out.1 h).1 (by simp))
         go_wp2_with fail
         refine Calls.mono (HC3.out 0 rfl _ HB2.out) ?_
         rintro e w9 ⟨⟨b9,rfl,-⟩,hb9⟩
         have HB9:=Lib.hid (HB2.out.trans (hb9.mono HB2.out.size))
         clear hb9
         cases b9
         ·go_wp2_with fail
          go_ret
          exact YesNo.no HNO.out HB9.out
         ·go_wp2_with fail
          go_ret
          exact YesNo.no HNO.out HB9.out
        case false =>
         cases z4
         case true =>
          obtain ⟨d,hdc,hdin,hcall⟩:=HC5.out _ HB2.out HT4.out
          have HIFF:=Lib.hid (simR_data (l:=l) HT4.out HONE.out (by simp) HFLAT.out)
          rw [hdc] at HIFF
          have HDIN:=Lib.hid hdin
          clear hdc hdin
          unfold Dt.val at hcall
          go_wp2_with fail
          refine Calls.mono hcall ?_
          rintro e w9 ⟨rfl,hb9⟩
          have HB9:=Lib.hid (HB2.out.trans (hb9.mono HB2.out.size))
          have HBA:=Lib.hid (HB9.out.alloc HB9.out.size (.cells #[.string d.name,.slice d.at_ d.cons.length d.cap] 111))
          clear hb9
          by_cases hle : 1 = d.cons.length
          case neg =>
           have hne : ((d.cons.length : Int) != (1 : Int)) = true:=by simp; omega
           have HNO:=Lib.hid (show ¬SimR l t [p] from fun h => hle (HIFF.out.1 h).1)
           clear hle
           go_wp2_with fail
           go_ret
           exact YesNo.no HNO.out HBA.out
          case pos =>
           have HLE:=Lib.hid hle
           have hne : ((d.cons.length : Int) != (1 : Int)) = false:=by simp; omega
           have hcl : d.cons.length ≤ 12:=by have:=HLEN.out; omega
           clear hle
           go_wp2_with fail
           generalize w9.alloc (.cells #[.string d.name,.slice d.at_ d.cons.length d.cap] 111) = wa at HBA ⊢
           go_loopw [151] (fun iv wr => ∃ k : Nat,iv = .int .i64 k ∧ k ≤ d.cons.length ∧ Hid (Below w.heap.size w wr) ∧ Hid (DataK [p] d.cons k)) (fun iv _ => d.cons.length - (intOf iv).toNat)
           case atStart => exact ⟨0,rfl,Nat.zero_le _,HBA.out,Lib.hid fun i p x hi => absurd hi (Nat.not_lt_zero _)⟩
           case round =>
            obtain ⟨k,rfl,hk,HC,HD⟩:=hrel
            by_cases hlt : k < d.cons.length
            ·obtain ⟨x,b5,off5,hx,hm5,hda,hb5,z0,z1,z2,z3,z4⟩:=Cn.arg_at HDIN.out HC.out hlt
             have hs:=HC.out.size
             have HC1a:=Lib.hid (HC.out.alloc hs (.cells #[.string x.name,.bool x.has,.string x.ty.dof,.string x.ty.name,.slice x.ty.at_ x.ty.args.length x.ty.cap] 117))
             obtain ⟨q,b0,off,hq,hmem,hqa,hb,x0,x1,x2,x3⟩:=Pt.arg_at HROW.out HC1a.out (show k < [p].length by have:=HLE.out; (try simp only [List.length_cons,List.length_nil,Nat.zero_add]); omega)
             simp only [Option.some.injEq,Addr.mk.injEq,and_true] at hqa; obtain ⟨rfl,rfl⟩:=hqa
             have hkp : (k : Int) < (1 : Int):=by have:=HLE.out; omega
             have HQ:=Lib.hid hq
             have HX:=Lib.hid hx
             rw [hda]
             clear hq hmem hx hm5
             obtain ⟨y1,hy1⟩ : ∃ z,(q.dof.toList == [99,111,110]) = z:=⟨_,rfl⟩
             obtain ⟨y2,hy2⟩ : ∃ z,(q.name.toList == x.name.toList) = z:=⟨_,rfl⟩
             have HY1:=Lib.hid hy1
             have HY2:=Lib.hid hy2
             cases y1
             case false =>
              have HNO:=Lib.hid (show ¬SimR l t [p] from fun h => by
               have:=((HIFF.out.1 h).2 k q x (by have:=HLE.out; (try simp only [List.length_cons,List.length_nil,Nat.zero_add]); omega) HQ.out HX.out).1
               unfold isDo at this
               rw [HY1.out] at this
               cases this)
              go_wp2_with fail
              go_quiet (fail)
              go_wp2_with fail
              go_ret
              exact YesNo.no HNO.out (below_drewN HC1a.out _)
             case true =>
              cases y2
              case false =>
               have HNO:=Lib.hid (show ¬SimR l t [p] from fun h => by
                have:=((HIFF.out.1 h).2 k q x (by have:=HLE.out; (try simp only [List.length_cons,List.length_nil,Nat.zero_add]); omega) HQ.out HX.out).2
                rw [← beq_iff_eq,HY2.out] at this
                cases this)
               go_wp2_with fail
               go_quiet (fail)
               go_wp2_with fail
               go_ret
               exact YesNo.no HNO.out (below_drewN HC1a.out _)
              case true =>
               have HD2:=Lib.hid (HD.out.succ HQ.out HX.out HY1.out (by have:=HY2.out; rwa [beq_iff_eq] at this))
               go_wp2_with fail
               go_quiet (fail)
               go_wp2_with fail
               exact ⟨⟨k + 1,by go_num,by omega,Lib.hid (below_drewN HC1a.out _),HD2.out⟩,by simp [intOf]; omega⟩
            ·have hk2 : k = d.cons.length:=by omega
             have HYES:=Lib.hid (show SimR l t [p] from HIFF.out.2 ⟨HLE.out,by have:=HD.out; rw [hk2,← HLE.out] at this; exact this⟩)
             clear hk2
             go_wp2_with fail
             go_ret
             exact YesNo.yes HYES.out HC.out
         case false =>
          have HNO:=Lib.hid (show ¬SimR l t [p] from simR_none HT1.out HT2.out HT3.out HT4.out HONE.out)
          go_wp2_with fail
          go_ret
          exact YesNo.no HNO.out HB2.out
set_option maxRecDepth 100000 in
set_option maxHeartbeats 8000000 in
theorem simR_more (l : List Dt) (Ad : Option Addr) (cd : Nat) (t : Ty) (A : Option Addr) (ps : List Pt) (cp : Nat) (w : World) (h : RSimIn l Ad t A ps cp w) (hl : 2 ≤ ps.length) :
  Calls Tryz.prog 61 #[.slice Ad l.length cd,t.val,.slice A ps.length cp] w (YesNo (SimR l t ps) w):=by
 have HROW:=Lib.hid h.pts.row
 have HLEN:=Lib.hid h.len
 have HCAP:=Lib.hid h.cap
 have HC1:=Lib.hid (fun (q : Pt) (W : World) => rwild_any q W)
 have HC2:=Lib.hid (fun (q : Pt) (hm : q ∈ ps) (W : World) (hW : Below w.heap.size w W) => rflat_any q W ((h.pts.each q hm).next hW))
 have HC3:=Lib.hid (fun (n : Nat) (hn : ps.length = n + 1) (W : World) (hW : Below w.heap.size w W) => rnums_take ps n hn A cp W (h.pts.at_ hW hW.size).row h.len h.cap)
 have HC5:=Lib.hid (fun (W : World) (hW : Below w.heap.size w W) (hd : isDo [100,97,116,97] t.dof = true) => h.dt cd hW hd)
 have HB0:=Lib.hid ((Below.refl w.heap.size w).alloc (Nat.le_refl _) (.cells #[.string t.dof,.string t.name,.slice t.at_ t.args.length t.cap] 25))
 have K0:=Lib.hid (Blk.new w #[.string t.dof,.string t.name,.slice t.at_ t.args.length t.cap] 25)
 obtain ⟨z1,h1⟩ : ∃ z,(t.dof.toList == [108,105,115,116]) = z:=⟨_,rfl⟩
 obtain ⟨z2,h2⟩ : ∃ z,(t.dof.toList == [98,111,111,108]) = z:=⟨_,rfl⟩
 obtain ⟨z3,h3⟩ : ∃ z,(t.dof.toList == [105,110,116]) = z:=⟨_,rfl⟩
 obtain ⟨z4,h4⟩ : ∃ z,(t.dof.toList == [100,97,116,97]) = z:=⟨_,rfl⟩
 have HT1:=Lib.hid (show isDo [108,105,115,116] t.dof = z1 from h1)
 have HT2:=Lib.hid (show isDo [98,111,111,108] t.dof = z2 from h2)
 have HT3:=Lib.hid (show isDo [105,110,116] t.dof = z3 from h3)
 have HT4:=Lib.hid (show isDo [100,97,116,97] t.dof = z4 from h4)
 have HNE:=Lib.hid (show ps ≠ [] from fun e => by
  rw [e] at hl
  simp at hl)
 have HONE:=Lib.hid (show oneR ps = false by
  match ps,hl with
  | p :: q :: r,_ => rfl)
 have e0 : ((ps.length : Int) == 0) = false:=by rw [beq_eq_false_iff_ne]; omega
 have e1 : ((ps.length : Int) == 1) = false:=by simp; omega
 have hl12:=h.len
 clear h
 unfold Ty.val
 unfold Pt.val at HC1
 go_enter Tryz.func61,Tryz.ntmps61
 go_wp2_with fail
 generalize w.alloc (.cells #[.string t.dof,.string t.name,.slice t.at_ t.args.length t.cap] 25) = w0 at HB0 K0 ⊢
 go_loopw [15] (fun iv wr => ∃ k : Nat,iv = .int .i64 k ∧ k ≤ ps.length ∧ Hid (Below w.heap.size w wr) ∧ Hid (Blk wr w.heap.size #[.string t.dof,.string t.name,.slice t.at_ t.args.length t.cap] 25) ∧ Hid (∀ (j : Nat) (x : Pt),j < k → (ps)[j]? = some x → x.flatB = true)) (fun iv _ => ps.length - (intOf iv).toNat)
 case atStart => exact ⟨0,rfl,Nat.zero_le _,HB0.out,K0.out,Lib.hid fun j x hj => absurd hj (Nat.not_lt_zero _)⟩
 case round =>
  obtain ⟨k,rfl,hk,HB,K4,HF⟩:=hrel
  by_cases hlt : k < ps.length
  ·obtain ⟨q,b0,off,hq,hmem,hqa,hb,x0,x1,x2,x3⟩:=Pt.arg_at HROW.out HB.out (show k < (ps).length from hlt)
   subst hqa
   have HQ:=Lib.hid hq
   have hs:=HB.out.size
   have HB1:=Lib.hid (HB.out.alloc hs (.cells #[.string q.dof,.string q.name,.int .i64 q.num,.slice q.at_ q.args.length q.cap] 28))
   have HFC:=Lib.hid (HC2.out q hmem _ HB1.out)
   have HKW:=Lib.hid (K4.out.alloc (.cells #[.string q.dof,.string q.name,.int .i64 q.num,.slice q.at_ q.args.length q.cap] 28))
   have HMEM:=Lib.hid hmem
   clear hq hmem
   unfold Pt.val at HFC
   go_wp2_with fail
   refine Calls.mono HFC.out ?_
   rintro e w2 ⟨rfl,hb2⟩
   have HB2:=Lib.hid (HB1.out.trans (hb2.mono HB1.out.size))
   have HK2:=Lib.hid (HKW.out.below hb2 HKW.out.lt)
   obtain ⟨z,hz⟩ : ∃ z,q.flatB = z:=⟨_,rfl⟩
   have HZ:=Lib.hid hz
   rw [hz]
   clear hb2 hz x0 x1 x2 x3
   cases z
   case false =>
    have HNO:=Lib.hid (show ¬SimR l t ps from fun h => by
     have:=h.1 q HMEM.out
     rw [HZ.out] at this
     cases this)
    go_wp2_with fail
    go_ret
    exact YesNo.no HNO.out HB2.out
   case true =>
    go_wp2_with fail
    exact ⟨⟨k + 1,by go_num,by omega,HB2.out,HK2.out,Lib.hid (fun j y hj hy => by
     by_cases hjk : j < k
     ·exact HF.out j y hjk hy
     ·have : j = k:=by omega
      subst this
      rw [HQ.out] at hy
      cases hy
      exact HZ.out)⟩,by simp [intOf]; omega⟩
  ·have hk2 : k = ps.length:=by omega
   have HFLAT:=Lib.hid (show ∀ x ∈ ps,x.flatB = true from fun x hx => by
    obtain ⟨j,hj⟩:=List.getElem?_of_mem hx
    exact HF.out j x (by rw [hk2]; exact (List.getElem?_eq_some_iff.1 hj).1) hj)
   clear hlt HF
   subst hk2
   obtain ⟨ty0,ty1,ty2⟩:=K4.out.three
   have tyl:=K4.out.lt
   cases z1
   case true =>
    clear h2 h3 h4
    by_cases hl2 : ps.length = 2
    case neg =>
     have e2 : ((ps.length : Int) == 2) = false:=by simp; omega
     have HNO:=Lib.hid (show ¬SimR l t ps from fun h => hl2 (two_len (.inr <| .inl ((simR_list HT1.out HONE.out HNE.out HFLAT.out).1 h))))
     clear hl2
     go_wp2_with fail
     go_ret
     exact YesNo.no HNO.out HB.out
    case pos =>
     obtain ⟨p,q,rfl⟩:=two_list hl2
     have HIFF:=Lib.hid (simR_list (l:=l) HT1.out HONE.out HNE.out HFLAT.out)
     obtain ⟨b,o,rfl,hb,hcell⟩:=two_rows HROW.out
     obtain ⟨x0,x1,x2,x3,x4,x5,x6,x7⟩:=hcell _ HB.out
     have hs:=HB.out.size
     simp only [List.length_cons,List.length_nil,Nat.zero_add,Nat.reduceAdd] at *
     obtain ⟨y1,hy1⟩ : ∃ z,(p.dof.toList == [110,105,108]) = z:=⟨_,rfl⟩
     have HY1:=Lib.hid hy1
     obtain ⟨y2,hy2⟩ : ∃ z,(q.dof.toList == [99,111,110,115]) = z:=⟨_,rfl⟩
     have HRES:=Lib.hid (show ((y1 && y2) = true ↔ SimR l t [p,q]) by
      rw [HIFF.out,← hy1,← hy2]
      exact Iff.rfl)
     clear hcell
     cases y1
     case false =>
      go_wp2_with fail
      go_ret
      exact YesNo.is HRES.out HB.out
     case true =>
      go_wp2_with fail
      go_ret
      exact YesNo.is HRES.out HB.out
   case false =>
    cases z2
    case true =>
     clear h3 h4
     by_cases hl2 : ps.length = 2
     case neg =>
      have e2 : ((ps.length : Int) == 2) = false:=by simp; omega
      have HNO:=Lib.hid (show ¬SimR l t ps from fun h => hl2 (two_len (.inr (.inr ((simR_bool HT2.out HONE.out HNE.out HFLAT.out).1 h)))))
      clear hl2
      go_wp2_with fail
      go_ret
      exact YesNo.no HNO.out HB.out
     case pos =>
      obtain ⟨p,q,rfl⟩:=two_list hl2
      have HIFF:=Lib.hid (simR_bool (l:=l) HT2.out HONE.out HNE.out HFLAT.out)
      obtain ⟨b,o,rfl,hb,hcell⟩:=two_rows HROW.out
      obtain ⟨x0,x1,x2,x3,x4,x5,x6,x7⟩:=hcell _ HB.out
      have hs:=HB.out.size
      simp only [List.length_cons,List.length_nil,Nat.zero_add,Nat.reduceAdd] at *
      obtain ⟨y1,hy1⟩ : ∃ z,(p.dof.toList == [98,111,111,108]) = z:=⟨_,rfl⟩
      obtain ⟨y2,hy2⟩ : ∃ z,(p.num == 0) = z:=⟨_,rfl⟩
      obtain ⟨y3,hy3⟩ : ∃ z,(q.dof.toList == [98,111,111,108]) = z:=⟨_,rfl⟩
      obtain ⟨y4,hy4⟩ : ∃ z,(q.num == 1) = z:=⟨_,rfl⟩
      have HRES:=Lib.hid (show ((y1 && (y2 && (y3 && y4))) = true ↔ SimR l t [p,q]) by
       rw [HIFF.out,← hy1,← hy2,← hy3,← hy4]
       exact Iff.rfl)
      clear hcell
      cases y1
      case false =>
       go_wp2_with fail
       go_ret
       exact YesNo.is HRES.out HB.out
      case true =>
       cases y2
       case false =>
        go_wp2_with fail
        go_ret
        exact YesNo.is HRES.out HB.out
       case true =>
        cases y3
        case false =>
         go_wp2_with fail
         go_ret
         exact YesNo.is HRES.out HB.out
        case true =>
         go_wp2_with fail
         go_ret
         exact YesNo.is HRES.out HB.out
    case false =>
     cases z3
     case true =>
      clear h4
      have HIFF:=Lib.hid (simR_int (l:=l) HT3.out HONE.out HNE.out HFLAT.out)
      obtain ⟨n,hn⟩ : ∃ n,ps.length = n + 1:=⟨ps.length - 1,by omega⟩
      have HN:=Lib.hid hn
      have hsub : ((n + 1 : Nat) : Int) - 1 = n:=by omega
      have hn1 : 1 ≤ n:=by omega
      have hcp:=HCAP.out
      have HC3n:=Lib.hid (fun (W : World) (hW : Below w.heap.size w W) => HC3.out n hn W hW)
      rw [hn] at e0 e1 hl12 hcp
      rw [hn]
      clear hn hl
      go_wp2_with fail
      refine Calls.mono (HC3n.out _ HB.out) ?_
      rintro e w9 ⟨⟨b9,rfl,hiff⟩,hb9⟩
      have HB9:=Lib.hid (HB.out.trans (hb9.mono HB.out.size))
      have HI9:=Lib.hid hiff
      clear hiff hb9
      cases b9
      case false =>
       have HNO:=Lib.hid (show ¬SimR l t ps from fun h => by
        have:=(HIFF.out.1 h).2.1
        rw [HN.out,Nat.add_sub_cancel] at this
        exact absurd (HI9.out.2 this) (by simp))
       go_wp2_with fail
       go_ret
       exact YesNo.no HNO.out HB9.out
      case true =>
       obtain ⟨q,b0,off,hq,hmem,rfl,hb,x0,x1,x2,x3⟩:=Pt.arg_at HROW.out HB9.out (show n < ps.length by rw [HN.out]; omega)
       have hs:=HB9.out.size
       have HQ:=Lib.hid hq
       have HIP:=Lib.hid (show (wildD q.dof = true ↔ SimR l t ps) from by
        rw [HIFF.out]
        exact ⟨fun h => ⟨by rw [HN.out]; omega,by rw [HN.out,Nat.add_sub_cancel]; exact HI9.out.1 rfl,q,by rw [HN.out,Nat.add_sub_cancel]; exact HQ.out,h⟩,fun h => by
         obtain ⟨p,hp,hpw⟩:=h.2.2
         rw [HN.out,Nat.add_sub_cancel,HQ.out] at hp
         cases hp
         exact hpw⟩)
       clear hq hmem
       go_wp2_with fail
       refine Calls.mono (HC1.out q _) ?_
       rintro e w10 ⟨rfl,hb10⟩
       have HB10:=Lib.hid (HB9.out.trans (hb10.mono HB9.out.size))
       clear hb10 x0 x1 x2 x3
       go_wp2_with fail
       go_ret
       exact YesNo.is HIP.out HB10.out
     case false =>
      cases z4
      case true =>
       obtain ⟨d,hdc,hdin,hcall⟩:=HC5.out _ HB.out HT4.out
       have HIFF:=Lib.hid (simR_data (l:=l) HT4.out HONE.out HNE.out HFLAT.out)
       rw [hdc] at HIFF
       have HDIN:=Lib.hid hdin
       clear hdc hdin
       unfold Dt.val at hcall
       go_wp2_with fail
       refine Calls.mono hcall ?_
       rintro e w9 ⟨rfl,hb9⟩
       have HB9:=Lib.hid (HB.out.trans (hb9.mono HB.out.size))
       have HBA:=Lib.hid (HB9.out.alloc HB9.out.size (.cells #[.string d.name,.slice d.at_ d.cons.length d.cap] 111))
       clear hb9
       by_cases hle : ps.length = d.cons.length
       case neg =>
        have hne : ((d.cons.length : Int) != (ps.length : Int)) = true:=by simp; omega
        have HNO:=Lib.hid (show ¬SimR l t ps from fun h => hle (HIFF.out.1 h).1)
        clear hle
        go_wp2_with fail
        go_ret
        exact YesNo.no HNO.out HBA.out
       case pos =>
        have HLE:=Lib.hid hle
        have hne : ((d.cons.length : Int) != (ps.length : Int)) = false:=by simp; omega
        have hcl : d.cons.length ≤ 12:=by have:=HLEN.out; omega
        clear hle
        go_wp2_with fail
        generalize w9.alloc (.cells #[.string d.name,.slice d.at_ d.cons.length d.cap] 111) = wa at HBA ⊢
        go_loopw [151] (fun iv wr => ∃ k : Nat,iv = .int .i64 k ∧ k ≤ d.cons.length ∧ Hid (Below w.heap.size w wr) ∧ Hid (DataK ps d.cons k)) (fun iv _ => d.cons.length - (intOf iv).toNat)
        case atStart => exact ⟨0,rfl,Nat.zero_le _,HBA.out,Lib.hid fun i p x hi => absurd hi (Nat.not_lt_zero _)⟩
        case round =>
         obtain ⟨k,rfl,hk,HC,HD⟩:=hrel
         by_cases hlt : k < d.cons.length
         ·obtain ⟨x,b5,off5,hx,hm5,hda,hb5,z0,z1,z2,z3,z4⟩:=Cn.arg_at HDIN.out HC.out hlt
          have hs:=HC.out.size
          have HC1a:=Lib.hid (HC.out.alloc hs (.cells #[.string x.name,.bool x.has,.string x.ty.dof,.string x.ty.name,.slice x.ty.at_ x.ty.args.length x.ty.cap] 117))
          obtain ⟨q,b0,off,hq,hmem,hqa,hb,x0,x1,x2,x3⟩:=Pt.arg_at HROW.out HC1a.out (show k < ps.length by have:=HLE.out; (try simp only [List.length_cons,List.length_nil,Nat.zero_add]); omega)
          subst hqa
          have hkp : (k : Int) < (ps.length : Int):=by have:=HLE.out; omega
          have HQ:=Lib.hid hq
          have HX:=Lib.hid hx
          rw [hda]
          clear hq hmem hx hm5
          obtain ⟨y1,hy1⟩ : ∃ z,(q.dof.toList == [99,111,110]) = z:=⟨_,rfl⟩
          obtain ⟨y2,hy2⟩ : ∃ z,(q.name.toList == x.name.toList) = z:=⟨_,rfl⟩
          have HY1:=Lib.hid hy1
          have HY2:=Lib.hid hy2
          cases y1
          case false =>
           have HNO:=Lib.hid (show ¬SimR l t ps from fun h => by
            have:=((HIFF.out.1 h).2 k q x (by have:=HLE.out; (try simp only [List.length_cons,List.length_nil,Nat.zero_add]); omega) HQ.out HX.out).1
            unfold isDo at this
            rw [HY1.out] at this
            cases this)
           go_wp2_with fail
           go_quiet (fail)
           go_wp2_with fail
           go_ret
           exact YesNo.no HNO.out (below_drewN HC1a.out _)
          case true =>
           cases y2
           case false =>
            have HNO:=Lib.hid (show ¬SimR l t ps from fun h => by
             have:=((HIFF.out.1 h).2 k q x (by have:=HLE.out; (try simp only [List.length_cons,List.length_nil,Nat.zero_add]); omega) HQ.out HX.out).2
             rw [← beq_iff_eq,HY2.out] at this
             cases this)
            go_wp2_with fail
            go_quiet (fail)
            go_wp2_with fail
            go_ret
            exact YesNo.no HNO.out (below_drewN HC1a.out _)
           case true =>
            have HD2:=Lib.hid (HD.out.succ HQ.out HX.out HY1.out (by have:=HY2.out; rwa [beq_iff_eq] at this))
            go_wp2_with fail
            go_quiet (fail)
            go_wp2_with fail
            exact ⟨⟨k + 1,by go_num,by omega,Lib.hid (below_drewN HC1a.out _),HD2.out⟩,by simp [intOf]; omega⟩
         ·have hk2 : k = d.cons.length:=by omega
          have HYES:=Lib.hid (show SimR l t ps from HIFF.out.2 ⟨HLE.out,by have:=HD.out; rw [hk2,← HLE.out] at this; exact this⟩)
          clear hk2
          go_wp2_with fail
          go_ret
          exact YesNo.yes HYES.out HC.out
      case false =>
       have HNO:=Lib.hid (show ¬SimR l t ps from simR_none HT1.out HT2.out HT3.out HT4.out HONE.out)
       go_wp2_with fail
       go_ret
       exact YesNo.no HNO.out HB.out
theorem simR_any (l : List Dt) (Ad : Option Addr) (cd : Nat) (t : Ty) (A : Option Addr) (ps : List Pt) (cp : Nat) (w : World) (h : RSimIn l Ad t A ps cp w) :
  Calls Tryz.prog 61 #[.slice Ad l.length cd,t.val,.slice A ps.length cp] w (YesNo (SimR l t ps) w):=by
 match ps,h with
 | [],h => exact simR_zero l Ad cd t A cp w
 | [p],h => exact simR_one l Ad cd t A p cp w h
 | p :: q :: r,h => exact simR_more l Ad cd t A (p :: q :: r) cp w h (by simp)
end Go.Proofs.YtjeggkfgdhepaaaGreatDoor

namespace Go.Proofs.YtjeggkfgdhepaaaGreatDoor
open Go.RowKit
open Go.Proofs
open Go.Maps
def SimplePost (l : List Dt) (t : Ty) (ps : List Pt) (w : World) (e : Ending) (w' : World) : Prop:=
 Below w.heap.size w w' ∧ ((askedErr l t ps = 0 ∧ ∃ b,e = .returned (.tuple #[.bool b,.int .i64 0]) ∧ (b = true ↔ SimR l t ps)) ∨ (askedErr l t ps ≠ 0 ∧ e = .returned (.tuple #[.bool false,.int .i64 (askedErr l t ps)])))
set_option maxRecDepth 100000 in
set_option maxHeartbeats 4000000 in
theorem rsimple_any (A : Option Addr) (l : List Dt) (c : Nat) (t : Ty) (Ap : Option Addr) (ps : List Pt) (cp : Nat) (w : World) (h : AskIn w A l t Ap ps) (hcap : ps.length ≤ cp) (hcnt : t.count ≤ 1048576) (hcc : ∀ d ∈ l,∀ x ∈ d.cons,x.ty.count ≤ 1048576) :
  Calls Tryz.prog 26 #[.slice A l.length c,t.val,.slice Ap ps.length cp] w (SimplePost l t ps w):=by
 have HAQ:=Lib.hid (asked_iff (l:=l) (t:=t) h.count)
 have HASK:=Lib.hid (fun (W : World) (hW : Below w.heap.size w W) => rasked_any A l c t Ap ps cp W (h.env.next hW) (h.dts.next hW) (h.ty.at_ hW hW.size) (h.pts.at_ hW hW.size) hcnt hcc h.count)
 have HSIM:=Lib.hid (fun (ha : Asked l t ps) (W : World) (hW : Below w.heap.size w W) => simR_any l A c t Ap ps cp W ⟨ha.right.names,ha.ty,(h.next hW).dts,(h.next hW).ty,(h.next hW).pts,ha.len,hcap⟩)
 clear h hcnt hcc hcap
 have HB0:=Lib.hid ((Below.refl w.heap.size w).alloc (Nat.le_refl _) (.cells #[.string t.dof,.string t.name,.slice t.at_ t.args.length t.cap] 25))
 have K0:=Lib.hid (Blk.new w #[.string t.dof,.string t.name,.slice t.at_ t.args.length t.cap] 25)
 obtain ⟨er,her⟩ : ∃ er,askedErr l t ps = er:=⟨_,rfl⟩
 have HER:=Lib.hid her
 rw [her] at HASK HAQ
 clear her
 unfold Ty.val at *
 go_enter Tryz.func26,Tryz.ntmps26
 go_wp2_with fail
 refine Calls.mono (HASK.out _ HB0.out) ?_
 rintro e w1 ⟨rfl,hb1⟩
 have HB1:=Lib.hid (HB0.out.trans (hb1.mono HB0.out.size))
 have K1:=Lib.hid (K0.out.below hb1 K0.out.lt)
 clear hb1
 by_cases hne : er = 0
 case neg =>
  have hne3 : (er != 0) = true:=by simpa using hne
  have HNE:=Lib.hid hne
  clear hne
  go_wp2_with fail
  exact bodyPost_ret (v:=.tuple #[.bool false,.int .i64 er]) (by simp [results,Tryz.results26,go_sem]) rfl ⟨HB1.out,.inr ⟨by rw [HER.out]; exact HNE.out,by rw [HER.out]⟩⟩
 case pos =>
  subst hne
  have HASKED:=Lib.hid (HAQ.out.1 rfl)
  obtain ⟨y0,y1,y2⟩:=K1.out.three
  have yl:=K1.out.lt
  go_wp2_with fail
  refine Calls.mono (HSIM.out HASKED.out _ HB1.out) ?_
  rintro e w2 ⟨⟨b,rfl,hb⟩,hb2⟩
  have HB2:=Lib.hid (HB1.out.trans (hb2.mono HB1.out.size))
  have HBI:=Lib.hid hb
  clear hb hb2 y0 y1 y2 yl
  go_wp2_with fail
  exact bodyPost_ret (v:=.tuple #[.bool b,.int .i64 0]) (by simp [results,Tryz.results26,go_sem]) rfl ⟨HB2.out,.inl ⟨HER.out,b,rfl,HBI.out⟩⟩
def SZ (bt : Nat) (t : Ty) (Z : Sk) (W : World) : Prop:=
 W.cell? ⟨bt,0,none⟩ = some (.string t.dof) ∧ W.cell? ⟨bt,1,none⟩ = some (.string t.name) ∧ W.cell? ⟨bt,2,none⟩ = some (.slice t.at_ t.args.length t.cap) ∧ bt < W.heap.size ∧
 W.cell? ⟨Z.b,0,none⟩ = some (.map (some Z.bD)) ∧ W.cell? ⟨Z.b,1,none⟩ = some (.map (some Z.bC)) ∧ W.cell? ⟨Z.b,2,none⟩ = some (.map (some Z.bE)) ∧ Z.b < W.heap.size
set_option maxRecDepth 100000 in
set_option maxHeartbeats 4000000 in
theorem simple_any (A : Option Addr) (l : List Dt) (c : Nat) (t : Ty) (Ap : Option Addr) (ps : List Pt) (cp : Nat) (w : World) (h : AskIn w A l t Ap ps) (hcap : ps.length ≤ cp) :
  Calls Tryz.prog 25 #[.slice A l.length c,t.val,.slice Ap ps.length cp] w (SimplePost l t ps w):=by
 have HAQ:=Lib.hid (asked_iff (l:=l) (t:=t) h.count)
 have HASK:=Lib.hid (fun (W : World) (hW : Below w.heap.size w W) => asked_any (SkOk l w.heap.size) A l c t Ap ps cp W (fun h0 W1 bD bC bE hb1 h1 _ _ => newSeeker_of (HAQ.out.1 h0).right ((h.next hW).next hb1).dts ((h.next hW).next hb1).dlen (Nat.le_trans hW.size hb1.size) bD bC bE h1) (h.env.next hW) (h.dts.next hW) (h.ty.at_ hW hW.size) (h.pts.at_ hW hW.size))
 have HSIM:=Lib.hid (fun (ha : Asked l t ps) (Z : Sk) (L : List (ByteArray × Value)) (W : World) (hs : SkAt Z l L W) (hW : Below w.heap.size w W) => simL_any l Z.bD Z.bC Z.bE l.length t Ap ps cp W ⟨ha.right.names,ha.ty,hs.d,(h.next hW).ty,(h.next hW).pts,(h.next hW).dts.each,ha.len,hcap⟩)
 clear h hcap
 have HB0:=Lib.hid ((Below.refl w.heap.size w).alloc (Nat.le_refl _) (.cells #[.string t.dof,.string t.name,.slice t.at_ t.args.length t.cap] 25))
 have K0:=Lib.hid (Blk.new w #[.string t.dof,.string t.name,.slice t.at_ t.args.length t.cap] 25)
 unfold Ty.val at *
 go_enter Tryz.func25,Tryz.ntmps25
 go_wp2_with fail
 refine Calls.mono (HASK.out _ HB0.out) ?_
 rintro e w1 ⟨hb1,⟨h0,v1,rfl,Z,L,rfl,hZb,hska,hr2,-⟩ | ⟨hne,rfl⟩⟩
 case inr =>
  have HB1:=Lib.hid (HB0.out.trans (hb1.mono HB0.out.size))
  have HNE:=Lib.hid hne
  have hne3 : (askedErr l t ps != 0) = true:=by simpa using hne
  generalize hq : askedErr l t ps = er at *
  have HQ:=Lib.hid hq
  clear hb1 hne hq
  go_wp2_with fail
  exact bodyPost_ret (v:=.tuple #[.bool false,.int .i64 er]) (by simp [results,Tryz.results25,go_sem]) rfl ⟨HB1.out,.inr ⟨by rw [HQ.out]; exact HNE.out,by rw [HQ.out]⟩⟩
 have HASKED:=Lib.hid (HAQ.out.1 h0)
 have HZERO:=Lib.hid h0
 have HB1:=Lib.hid (HB0.out.trans (hb1.mono HB0.out.size))
 have K1:=Lib.hid (K0.out.below hb1 K0.out.lt)
 have HSK:=Lib.hid (hska.next (Below.refl w1.heap.size w1).drew)
 have HSZ : Hid (SZ w.heap.size t Z w1.drew):=Lib.hid (by
  have k1:=K1.out.below (Below.refl w1.heap.size w1).drew K1.out.lt
  obtain ⟨f,hf⟩:=HSK.out.blk
  exact ⟨k1.cell 0,k1.cell 1,k1.cell 2,k1.lt,hf.cell 0,hf.cell 1,hf.cell 2,hf.lt⟩)
 have HC:=Lib.hid (HSIM.out HASKED.out Z L w1.drew HSK.out HB1.out.drew)
 have HSAME:=Lib.hid (sim_same (l:=l) (t:=t) (ps:=ps) fun p hp => patB_well (HASKED.out.pats p hp).1)
 clear hb1 hska hr2 hZb h0
 unfold Sk.val
 go_wp2_with fail
 refine region_mix (SZ w.heap.size t Z) [(0,true),(1,true),(2,true),(3,true),(4,true),(5,true),(6,false),(7,false),(8,false)] 6 (by kernel_rfl) (by kernel_rfl) HSZ.out ?_
 simp only [pickM,List.filterMap_cons,List.getElem?_cons_zero,List.getElem?_cons_succ,List.filterMap_nil,Option.map_some]
 iterate 6
  refine wpMix_read ?_ (by rfl) (fun W hW => ?_) ?_
  rotate_left
  ·unfold SZ at hW
   go_simp
   try with_reducible rfl
  simp only [Act.put,List.setIfInBounds_toArray,List.set_cons_zero,List.set_cons_succ]
 refine wpMix_step rfl (fun K hK => ?_)
 go_simp
 refine Calls.mono HC.out ?_
 rintro e w2 ⟨⟨b,rfl,hb⟩,hb2⟩
 have HB2:=Lib.hid (HB1.out.drew.trans (hb2.mono HB1.out.drew.size))
 have HBI:=Lib.hid (hb.trans HSAME.out)
 clear hb hb2
 refine hK _ _ (fun h => absurd h (by decide)) ?_
 clear hK K
 refine wpMix_step rfl (fun K hK => ?_)
 go_simp
 refine hK _ _ (fun h => absurd h (by decide)) ?_
 clear hK K
 refine wpMix_step rfl (fun K hK => ?_)
 go_simp
 refine hK _ _ (fun h => absurd h (by decide)) ?_
 clear hK K
 refine wpMix_nil ?_
 refine NoPanic.normal ?_
 go_wp2_with fail
 exact bodyPost_ret (v:=.tuple #[.bool b,.int .i64 0]) (by simp [results,Tryz.results25,go_sem]) rfl ⟨HB2.out,.inl ⟨HZERO.out,b,rfl,HBI.out⟩⟩
end Go.Proofs.YtjeggkfgdhepaaaGreatDoor

namespace Go.Proofs.YtjeggkfgdhepaaaGreatDoor
open Go.RowKit
open Go.Proofs
open Go.Maps
theorem idleN_le (l : List Dt) (t : Ty) (ps : List Pt) (k : Nat) : (idleN l t ps k).length ≤ k:=by
 unfold idleN
 have:=List.length_filter_le (fun i => idle l t ps i) (List.range k)
 simpa using this
theorem useless_brief {l : List Dt} {t : Ty} {ps : List Pt} {w w' : World} {e : Ending} (h : UselessPost l t ps w e w') (hl : askedErr l t ps = 0 → ps.length ≤ 12) : Below w.heap.size w w' ∧ ∃ (A : Option Addr) (c : Nat),e = .returned (.tuple #[.slice A (if askedErr l t ps = 0 then idleN l t ps ps.length else []).length c,.int .i64 (askedErr l t ps)]) ∧ NatsAt w'.heap.size w' A (if askedErr l t ps = 0 then idleN l t ps ps.length else []):=by
 obtain ⟨hb,⟨h0,v,rfl,ho⟩ | ⟨h0,rfl⟩⟩:=h
 ·obtain ⟨A,c,rfl,hn⟩:=OwnI.nats (show OwnI w.heap.size w' v ((idleN l t ps ps.length).map natV) from ho)
  exact ⟨hb,A,c,by rw [if_pos h0,h0],by rw [if_pos h0]; exact hn⟩
 ·exact ⟨hb,none,0,by rw [if_neg h0]; rfl,by rw [if_neg h0]; exact fun h => absurd h (by simp)⟩
theorem simple_brief {l : List Dt} {t : Ty} {ps : List Pt} {w w' : World} {e : Ending} {z : Bool} (hz : z = true ↔ (askedErr l t ps = 0 ∧ SimR l t ps)) (h : SimplePost l t ps w e w') : Below w.heap.size w w' ∧ e = .returned (.tuple #[.bool z,.int .i64 (askedErr l t ps)]):=by
 obtain ⟨hb,⟨h0,b,rfl,hbi⟩ | ⟨h0,rfl⟩⟩:=h
 ·refine ⟨hb, ?_⟩
  have : b = z:=by
   rw [Bool.eq_iff_iff,hbi,hz]
   exact ⟨fun h => ⟨h0,h⟩,fun h => h.2⟩
  rw [this,h0]
 ·refine ⟨hb, ?_⟩
  have : z = false:=by
   cases z with
   | false => rfl
   | true => exact absurd (hz.1 rfl).1 h0
  rw [this]
set_option maxRecDepth 100000 in
set_option maxHeartbeats 8000000 in
theorem useless_law (A : Option Addr) (l : List Dt) (c : Nat) (t : Ty) (Ap : Option Addr) (ps : List Pt) (cp : Nat) (w : World) (h : AskIn w A l t Ap ps) (hcap : ps.length ≤ cp) (hcnt : t.count ≤ 1048576) (hcc : ∀ d ∈ l,∀ x ∈ d.cons,x.ty.count ≤ 1048576) :
  Calls Tryz.prog 7 #[.slice A l.length c,t.val,.slice Ap ps.length cp] w fun e w' => e = .returned (.bool true) ∧ Below w.heap.size w w':=by
 have hlen : askedErr l t ps = 0 → ps.length ≤ 12:=fun h0 => ((asked_iff (l:=l) (t:=t) h.count).1 h0).len
 have hns : (if askedErr l t ps = 0 then idleN l t ps ps.length else []).length ≤ 1048576:=by
  split
  ·rename_i h0
   have:=idleN_le l t ps ps.length
   have:=hlen h0
   omega
  ·simp
 obtain ⟨z,hz⟩ : ∃ z : Bool,z = true ↔ (askedErr l t ps = 0 ∧ SimR l t ps):=by
  by_cases hh : askedErr l t ps = 0 ∧ SimR l t ps
  ·exact ⟨true,⟨fun _ => hh,fun _ => rfl⟩⟩
  ·exact ⟨false,⟨fun h => (by cases h),fun h => absurd h hh⟩⟩
 have HU1:=Lib.hid (fun (W : World) (hW : Below w.heap.size w W) => Calls.mono (useless_any A l c t Ap ps cp W (h.next hW) hcap) (fun e w' hp => useless_brief hp hlen))
 have HU2:=Lib.hid (fun (W : World) (hW : Below w.heap.size w W) => Calls.mono (ruseless_any A l c t Ap ps cp W (h.next hW) hcnt hcc) (fun e w' hp => useless_brief hp hlen))
 have HS1:=Lib.hid (fun (W : World) (hW : Below w.heap.size w W) => Calls.mono (simple_any A l c t Ap ps cp W (h.next hW) hcap) (fun e w' hp => simple_brief hz hp))
 have HS2:=Lib.hid (fun (W : World) (hW : Below w.heap.size w W) => Calls.mono (rsimple_any A l c t Ap ps cp W (h.next hW) hcap hcnt hcc) (fun e w' hp => simple_brief hz hp))
 have HAW:=Lib.hid (fun (W : World) (hW : Below w.heap.size w W) => awake_any W (h.env.next hW))
 have HB0:=Lib.hid ((Below.refl w.heap.size w).alloc (Nat.le_refl _) (.cells #[.string t.dof,.string t.name,.slice t.at_ t.args.length t.cap] 25))
 have K0:=Lib.hid (Blk.new w #[.string t.dof,.string t.name,.slice t.at_ t.args.length t.cap] 25)
 generalize (if askedErr l t ps = 0 then idleN l t ps ps.length else []) = ns at HU1 HU2 hns
 generalize askedErr l t ps = er at HU1 HU2 HS1 HS2
 clear h hcap hcnt hcc hlen hz
 unfold Ty.val at *
 go_enter Tryz.func7,Tryz.ntmps7
 go_wp2_with fail
 refine Calls.mono (HU1.out _ HB0.out) ?_
 rintro e w1 ⟨hb1,A1,c1,rfl,hn1⟩
 have HB1:=Lib.hid (HB0.out.trans (hb1.mono HB0.out.size))
 have K1:=Lib.hid (K0.out.below hb1 K0.out.lt)
 have HN1:=Lib.hid hn1
 obtain ⟨y0,y1,y2⟩:=K1.out.three
 have yl:=K1.out.lt
 clear hb1 hn1
 go_wp2_with fail
 refine Calls.mono (HU2.out _ HB1.out) ?_
 rintro e w2 ⟨hb2,A2,c2,rfl,hn2⟩
 have HB2:=Lib.hid (HB1.out.trans (hb2.mono HB1.out.size))
 have K2:=Lib.hid (K1.out.below hb2 K1.out.lt)
 have HN12:=Lib.hid ((RowAt.keep HN1.out hb2).wider hb2.size)
 have HN2:=Lib.hid hn2
 clear hb2 hn2 y0 y1 y2 yl
 obtain ⟨y0,y1,y2⟩:=K2.out.three
 have yl:=K2.out.lt
 go_wp2_with fail
 refine Calls.mono (HS1.out _ HB2.out) ?_
 rintro e w3 ⟨hb3,rfl⟩
 have HB3:=Lib.hid (HB2.out.trans (hb3.mono HB2.out.size))
 have K3:=Lib.hid (K2.out.below hb3 K2.out.lt)
 have HN13:=Lib.hid ((RowAt.keep HN12.out hb3).wider hb3.size)
 have HN23:=Lib.hid ((RowAt.keep HN2.out hb3).wider hb3.size)
 clear hb3 y0 y1 y2 yl
 obtain ⟨y0,y1,y2⟩:=K3.out.three
 have yl:=K3.out.lt
 go_wp2_with fail
 refine Calls.mono (HS2.out _ HB3.out) ?_
 rintro e w4 ⟨hb4,rfl⟩
 have HB4:=Lib.hid (HB3.out.trans (hb4.mono HB3.out.size))
 have HN14:=Lib.hid ((RowAt.keep HN13.out hb4).wider hb4.size)
 have HN24:=Lib.hid ((RowAt.keep HN23.out hb4).wider hb4.size)
 have HSAME:=Lib.hid (same_ints ns A1 c1 A2 c2 w4 HN14.out HN24.out hns)
 clear hb4 y0 y1 y2 yl
 go_wp2_with fail
 refine Calls.mono HSAME.out ?_
 rintro e w5 ⟨rfl,hb5⟩
 have HB5:=Lib.hid (HB4.out.trans (hb5.mono HB4.out.size))
 clear hb5
 go_wp2_with fail
 refine Calls.mono (HAW.out _ HB5.out) ?_
 rintro e w6 ⟨rfl,hb6⟩
 have HB6:=Lib.hid (HB5.out.trans (hb6.mono HB5.out.size))
 clear hb6
 go_wp2_with fail
 go_ret
 exact ⟨rfl,HB6.out⟩
end Go.Proofs.YtjeggkfgdhepaaaGreatDoor
