/- The infinite lives that are open: Clone and DeleteFunc over pointers. -/
import Derived.Test.YtnloffjjlhhanaaDoorStoreNo
import Derived.Lib.SliceRun
set_option linter.unusedVariables false
set_option linter.unusedSimpArgs false
namespace Go.Proofs.YtnloffjjlhhanaaDoor
open Go.RowKit
open Go.Proofs

set_option maxHeartbeats 1000000 in
theorem clone_row (w : World) (B : Nat) (A : Option Addr) (n cap : Nat) (xs : List Value) (h : w.ownsRow B 78 1 (.slice A n cap) n xs) (hn : n ≤ 10000) (h1 : ∀ u ∈ xs, u.oneCell' = true) :
    Calls Tryd.prog 82 #[.slice A n cap] w fun e w' => ∃ A' c', e = .returned (.slice A' n c') ∧ Fr No w w' ∧ w'.ownsRow w.heap.size 78 1 (.slice A' n c') n xs := by
  obtain ⟨i0, hi, hz0, hz1, hz2⟩ := info_parts info_life
  rcases A with _ | a
  · have hn0 : n = 0 ∧ cap = 0 := by
      rcases h.2 with ⟨h2, -⟩ | ⟨g, cap', cur, h2, _⟩
      · simpa using h2
      · simp at h2
    obtain ⟨rfl, rfl⟩ := hn0
    have hx : xs = [] := List.eq_nil_of_length_eq_zero (by simpa using h.1)
    subst hx
    have hq := fun w => Lib.run_eql_slice_nil (P := Tryd.prog) w 75 78 none 0 0 0 0 Tryd.underlying75
    go_enter Tryd.func82, Tryd.ntmps82
    go_wp2_with fail
    go_ret
    exact ⟨none, 0, rfl, Fr.refl _ _, World.ownsRow_nil _ _ _ _⟩
  · have hq := fun w => Lib.run_eql_slice_nil (P := Tryd.prog) w 75 78 (some a) n cap 0 0 Tryd.underlying75
    have hsrc : ∀ j u, xs[j]? = some u → w.cell? (a.add j) = some u := by
      intro j u hu
      obtain ⟨g, hg, hc, -⟩ := row_cell h j u hu
      simp only [Option.some.injEq] at hg
      subst hg
      have e : (⟨g, 0, none⟩ : Addr).add j = ⟨g, j, none⟩ := by unfold Addr.add; split <;> simp_all
      rw [e, hc]
    have hlen : xs.length = n := by simpa using h.1
    have HS := Lib.hid hsrc
    have HL := Lib.hid hlen
    have H1 := Lib.hid h1
    clear hsrc hlen h1 h
    go_enter Tryd.func82, Tryd.ntmps82
    go_wp2_with (at_builtin; go_must (refine wpList_append_own_at _ rfl (.tmp 5) (.tmp 6) 75 rfl w.heap.size 78 i0 (.pointer none) 1 8 Tryd.underlying75 hi hz0 hz1 hz2 rfl (by decide) (.slice (some ⟨w.heap.size, 0, none⟩) 0 0) 0 [] rfl ?hown a n cap xs rfl ?cl ?c1 ?c2 ?c3 ?c4 ?c5 ?_))
    case hown => exact World.ownsRow_lit _ #[] 0 (Nat.le_refl _) (by simp) (by simp)
    case cl => rw [HL.out]; omega
    case c1 =>
      intro j u hu
      rw [Lib.cell?_alloc_some _ (HS.out j u hu)]
    case c2 => exact H1.out
    case c3 => unfold maxLen; omega
    case c4 => omega
    case c5 => simp
    intro v' w1 hown hgrow _ hwhere
    obtain ⟨A', c', hv, -⟩ := row_slice hown
    subst hv
    have hf : Fr No w w1 := Fr.grown ((Fr.refl _ _).alloc _) hgrow (fun k hk => .inr (by simp [Value.ownBlock] at hk; omega))
    have HF := Lib.hid hf
    have HO := Lib.hid hown
    clear hf hown hgrow hwhere
    go_wp2_with fail
    go_ret
    exact ⟨A', c', rfl, HF.out, by simpa using HO.out⟩

/-- What is kept of the first k. -/
def keptN {α : Type} (p : α → Bool) (xs : List α) (k : Nat) : List α := (xs.take k).filter fun x => !p x
theorem keptN_len {α : Type} (p : α → Bool) (xs : List α) (k : Nat) : (keptN p xs k).length ≤ k := by
  unfold keptN
  exact Nat.le_trans (List.length_filter_le _ _) (List.length_take_le _ _)
theorem keptN_succ {α : Type} (p : α → Bool) (xs : List α) (k : Nat) (x : α) (h : xs[k]? = some x) : keptN p xs (k + 1) = keptN p xs k ++ (if p x then [] else [x]) := by
  unfold keptN
  rw [List.take_add_one, h]
  cases hp : p x <;> simp [hp]
theorem keptN_all {α : Type} (p : α → Bool) (xs : List α) (k : Nat) (h : ∀ i x, i < k → xs[i]? = some x → p x = false) : keptN p xs k = xs.take k := by
  unfold keptN
  refine List.filter_eq_self.2 fun x hx => ?_
  obtain ⟨i, hi, rfl⟩ := List.mem_iff_getElem.1 hx
  have hik : i < k := by simp at hi; omega
  have hil : i < xs.length := by simp at hi; omega
  have := h i (xs[i]'hil) hik (List.getElem?_eq_getElem hil)
  simp [this]
theorem keptN_none {α : Type} (p : α → Bool) (xs : List α) (h : fidx (xs.map p) = -1) : keptN p xs xs.length = xs := by
  rw [keptN_all, List.take_length]
  intro i x hi hx
  cases hp : p x with
  | false => rfl
  | true =>
    exfalso
    have h0 : ∀ l : List Bool, fidx l = -1 → ∀ i : Nat, l[i]? ≠ some true := by
      intro l
      induction l with
      | nil => intro _ i; simp
      | cons a r ih =>
        intro hl i
        cases a with
        | true => simp [fidx] at hl
        | false =>
          have hr : fidx r = -1 := by
            have := fidx_lo r
            rw [fidx] at hl; split at hl <;> omega
          cases i with
          | zero => simp
          | succ i => simpa using ih hr i
    exact h0 _ h i (by simp [hx, hp])
theorem fidx_before (l : List Bool) : ∀ k : Nat, fidx l = k → ∀ i, i < k → l[i]? = some false := by
  induction l with
  | nil => intro k h; simp [fidx] at h
  | cons a r ih =>
    intro k h i hi
    cases a with
    | true => simp [fidx] at h; omega
    | false =>
      have hlo := fidx_lo r
      rw [fidx] at h
      split at h
      · omega
      · obtain ⟨m, hm⟩ : ∃ m, k = m + 1 := ⟨k - 1, by omega⟩
        subst hm
        cases i with
        | zero => rfl
        | succ i => simpa using ih m (by omega) i (by omega)

def Own (A : Option Addr) (k : Nat) : Prop := (Value.slice A 0 0).ownBlock = some k
set_option maxRecDepth 100000 in
set_option maxHeartbeats 2000000 in
theorem deleteFunc {α : Type} (enc : α → Value) (p : α → Bool) (xs : List α) (w : World) (B : Nat) (A : Option Addr) (n cap : Nat) (g : Nat) (caps : Array Value) (h : w.ownsRow B 78 1 (.slice A n cap) n (xs.map enc)) (hn : n ≤ 10000)
    (hone : ∀ x ∈ xs, (enc x).oneCell' = true ∧ ∃ b, enc x = .pointer b) (he : Enters Tryd.prog g)
    (hcall : ∀ x ∈ xs, ∀ W, Fr (Own A) w W → Calls Tryd.prog g (#[enc x] ++ caps) W fun e w' => e = .returned (.bool (p x)) ∧ ∃ q, W.drewN q = w') :
    Calls Tryd.prog 81 #[.slice A n cap, .func (.func g) #[] caps] w fun e w' => e = .returned (.slice A (keptN p xs n).length cap) ∧ Fr (Own A) w w' ∧
      ∀ i u, ((keptN p xs n).map enc)[i]? = some u → ∃ b, A = some ⟨b, 0, none⟩ ∧ w'.cell? ⟨b, i, none⟩ = some u := by
  have hlen : xs.length = n := by simpa using h.1
  have hidx := indexFunc A n cap (xs.map enc) (xs.map p) g caps w (by omega) (by simpa using hlen) he (fun i q hq => by
    rw [List.getElem?_map] at hq
    cases hx : xs[i]? with
    | none => rw [hx] at hq; cases hq
    | some x =>
      rw [hx] at hq
      simp only [Option.map_some, Option.some.injEq] at hq
      subst hq
      obtain ⟨b, hb, hc, -⟩ := row_cell h i (enc x) (by simp [hx])
      exact ⟨b, enc x, hb, hc, fun q => (hcall x (List.mem_of_getElem? hx) _ (Fr.quiet q)).mono fun e w' ⟨h1, q', h2⟩ => ⟨h1, q + q', by rw [← h2]; simp⟩⟩)
  unfold Enters at he
  have HIDX := Lib.hid hidx
  have HCALL := Lib.hid hcall
  have HONE := Lib.hid hone
  have HLEN := Lib.hid hlen
  have H := Lib.hid h
  clear hidx hcall hone hlen h
  go_enter Tryd.func81, Tryd.ntmps81
  go_wp2_with fail
  refine HIDX.out.mono ?_
  rintro e w1 ⟨rfl, q, rfl⟩
  have hlo := fidx_lo (xs.map p)
  have hhi := fidx_hi (xs.map p)
  by_cases hno : fidx (xs.map p) = -1
  · rw [hno]
    go_wp2_with fail
    go_ret
    have hk := keptN_none p xs hno
    rw [HLEN.out] at hk
    refine ⟨by rw [hk, HLEN.out]; rfl, Fr.quiet _, fun i u hu => ?_⟩
    rw [hk] at hu
    obtain ⟨b, hb, hc, -⟩ := row_cell H.out i u hu
    exact ⟨b, hb, hc⟩
  · obtain ⟨k0, hk0⟩ : ∃ k0 : Nat, fidx (xs.map p) = k0 := ⟨(fidx (xs.map p)).toNat, by omega⟩
    have hk0n : k0 < n := by have := hhi; simp only [List.length_map, HLEN.out] at this; omega
    have hbef := fidx_before _ k0 hk0
    have hat := fidx_at _ k0 hk0
    obtain ⟨b, hb⟩ : ∃ b, A = some ⟨b, 0, none⟩ := by
      obtain ⟨b, hb, -, -⟩ := row_cell H.out k0 _ (List.getElem?_eq_getElem (by simpa [HLEN.out] using hk0n))
      exact ⟨b, hb⟩
    subst hb
    have hkn : n ≤ cap := by
      rcases H.out.2 with ⟨h2, -⟩ | ⟨g', cap', cur, h2, _, _, h3, _⟩
      · simp at h2
      · simp only [Value.slice.injEq] at h2; rw [h2.2.2]; exact h3
    have hkept : keptN p xs k0 = xs.take k0 := keptN_all p xs k0 fun i x hi hx => by
      have := hbef i hi
      rw [List.getElem?_map, hx] at this
      simpa using this
    have hpk : ∀ x, xs[k0]? = some x → p x = true := fun x hx => by rw [List.getElem?_map, hx] at hat; simpa using hat
    rw [hk0]
    have HK := Lib.hid hkept
    have HP := Lib.hid hpk
    clear hk0 hbef hat hno hlo hhi hkept hpk
    have hk1 : ((k0 : Int) == -1) = false := by simp
    go_wp2_with fail
    go_loopw [5, 6, 7, 16, 17, 18, 19, 20, 21, 22, 23, 24, 25, 26, 27, 28, 29, 30, 31, 32, 33, 34, 35] (fun iv jv _ _ _ _ _ _ _ _ _ _ _ _ _ _ _ _ _ _ _ _ _ wr => ∃ (k l : Nat) (cs : List Value), iv = .int .i64 k ∧ jv = .int .i64 l ∧ l ≤ n ∧ k < l ∧ Hid (k = (keptN p xs l).length) ∧ Hid (wr.ownsRow B 78 1 (.slice (some ⟨b, 0, none⟩) n cap) n cs) ∧ Hid (cs.take k = (keptN p xs l).map enc) ∧ Hid (∀ m, l ≤ m → cs[m]? = (xs.map enc)[m]?) ∧ Hid (Fr (Own (some ⟨b, 0, none⟩)) w wr)) (fun _ jv _ _ _ _ _ _ _ _ _ _ _ _ _ _ _ _ _ _ _ _ _ _ => n - (intOf jv).toNat)
    case atStart =>
      have hx : xs[k0]? = some (xs[k0]'(by rw [HLEN.out]; exact hk0n)) := List.getElem?_eq_getElem _
      have e1 : keptN p xs (k0 + 1) = xs.take k0 := by rw [keptN_succ p xs k0 _ hx, HP.out _ hx, HK.out]; simp
      refine ⟨k0, k0 + 1, xs.map enc, rfl, by simp, by omega, by omega, ?_, row_drewN H.out _, ?_, fun m _ => rfl, Fr.quiet _⟩
      · unfold Hid; rw [e1, List.length_take, HLEN.out]; omega
      · unfold Hid; rw [e1, List.map_take]
    case round =>
      obtain ⟨k, l, cs, rfl, rfl, hln, hkl, R1, R2, R3, R4, R5⟩ := hrel
      by_cases hlt : l < n
      · have hx : xs[l]? = some (xs[l]'(by rw [HLEN.out]; exact hlt)) := List.getElem?_eq_getElem _
        generalize (xs[l]'(by rw [HLEN.out]; exact hlt)) = x at hx
        obtain ⟨-, pb, hpb⟩ := HONE.out x (List.mem_of_getElem? hx)
        have hcl : cs[l]? = some (.pointer pb) := by rw [R4.out l (Nat.le_refl _), List.getElem?_map, hx, ← hpb]; rfl
        obtain ⟨b', hb', cl, -⟩ := row_cell R2.out l _ hcl
        simp only [Option.some.injEq, Addr.mk.injEq, and_true] at hb'
        subst hb'
        have hcsl : cs.length = n := by have := R2.out.1; simpa using this
        have hck : cs[k]? = some (cs[k]'(by omega)) := List.getElem?_eq_getElem _
        generalize (cs[k]'(by omega)) = old at hck
        obtain ⟨b', hb', ck, fk⟩ := row_cell R2.out k _ hck
        simp only [Option.some.injEq, Addr.mk.injEq, and_true] at hb'
        subst hb'
        have hc := HCALL.out x (List.mem_of_getElem? hx) wr R5.out
        rw [hpb] at hc
        have HC := Lib.hid hc
        have hsucc := keptN_succ p xs l x hx
        have HX := Lib.hid hx
        have HS := Lib.hid hsucc
        have HPB := Lib.hid hpb
        have HCK := Lib.hid hck
        have HCSL := Lib.hid hcsl
        clear hc hx hsucc hpb hcl hck hcsl
        go_wp2_with fail
        refine HC.out.mono ?_
        rintro e w' ⟨rfl, q', rfl⟩
        cases hpx : p x with
        | true =>
          have HPX := Lib.hid hpx
          clear hpx
          go_wp2_with fail
          go_roundw
          case rel =>
            refine ⟨k, l + 1, cs, rfl, by go_num, by omega, by omega, ?_, row_drewN R2.out _, ?_, fun m hm => R4.out m (by omega), R5.out.drewN _⟩
            · unfold Hid; rw [HS.out, HPX.out]; simpa using R1.out
            · unfold Hid; rw [HS.out, HPX.out]; simpa using R3.out
          case measure => simp [intOf]; omega
        | false =>
          have HPX := Lib.hid hpx
          clear hpx
          have hbl : b < wr.heap.size := World.block_lt_of_cell? wr _ ck
          go_wp2_with fail
          go_roundw
          case rel =>
            have hst := (row_drewN R2.out q').stored k (.pointer pb)
            refine ⟨k + 1, l + 1, cs.set k (.pointer pb), by go_num, by go_num, by omega, by omega, ?_, hst.1, ?_, ?_, ?_⟩
            · unfold Hid; rw [HS.out, HPX.out]; simp; exact R1.out
            · unfold Hid
              rw [HS.out, HPX.out, List.take_set, List.take_add_one, HCK.out]
              have e3 : (cs.take k ++ (some old).toList).set k (.pointer pb) = cs.take k ++ [.pointer pb] := by
                have e4 : k = (cs.take k).length := by rw [List.length_take, HCSL.out]; omega
                conv => lhs; arg 2; rw [e4]
                simp
              rw [e3, R3.out, ← HPB.out]
              simp
            · intro m hm
              rw [List.getElem?_set_ne (by omega)]
              exact R4.out m (by omega)
            · exact Fr.setCell (a := ⟨b, k, none⟩) (R5.out.drewN _) (.inl rfl) _
          case measure => simp [intOf]; omega
      · have hl : l = n := by omega
        have HLN := Lib.hid hl
        clear hl
        have hle := keptN_len p xs l
        have R1' := R1.out
        have hcsl : cs.length = n := by have := R2.out.1; simpa using this
        have hcell : ∀ j, j < n → (wr.cell? ⟨b, j, none⟩).isSome = true ∧ wr.frozen? ⟨b, j, none⟩ = false := fun j hj => by
          obtain ⟨b', hb', c, f⟩ := row_cell R2.out j (cs[j]'(by omega)) (List.getElem?_eq_getElem _)
          simp only [Option.some.injEq, Addr.mk.injEq, and_true] at hb'
          subst hb'
          exact ⟨by rw [c]; rfl, f⟩
        have hclr := fun ty => Lib.run_clear_slice (P := Tryd.prog) wr 75 78 ty (.pointer none) Tryd.underlying75 Tryd.zeroValue78 rfl rfl b k (n - k) (cap - k) (by omega) (fun j hj => (hcell (k + j) (by omega)).1) (fun j hj => (hcell (k + j) (by omega)).2)
        have HC := Lib.hid hcell
        have HCSL := Lib.hid hcsl
        clear hcell hcsl R1' hle
        go_wp2_with fail
        go_ret
        refine ⟨by rw [← HLN.out, ← R1.out]; rfl, Fr.setCells (S := Own (some ⟨b, 0, none⟩)) rfl _ _ R5.out, fun i u hu => ⟨b, rfl, ?_⟩⟩
        rw [← HLN.out, ← R3.out] at hu
        have hik : i < k := by
          have := (List.getElem?_eq_some_iff.1 hu).1
          rw [List.length_take] at this
          omega
        rw [List.getElem?_take, if_pos hik] at hu
        obtain ⟨b', hb', c, -⟩ := row_cell R2.out i u hu
        simp only [Option.some.injEq, Addr.mk.injEq, and_true] at hb'
        subst hb'
        rw [World.cell?_setCells_out b _ _ _ _ (fun _ _ => .inl hik)]
        exact c

theorem infClosure (k : Nat) (x : Lf) (w : World) (hx : Blk w k x.cells 80) :
    Calls Tryd.prog 83 #[.pointer (some ⟨k, 0, none⟩)] w fun e w' => e = .returned (.bool (decide (x.words > 0))) ∧ ∃ q, w.drewN q = w' := by
  have c0 : w.cell? ⟨k, 0, none⟩ = some (.int .i64 x.words) := hx.cell 0
  clear hx
  go_enter Tryd.func83, Tryd.ntmps83
  go_wp2
  go_ret
  exact ⟨rfl, 0, rfl⟩

/-- The indexes of the infinite lives that are open. -/
def St.inf (s : St) : List Nat := s.op.filter fun i => !decide ((s.lf.getD i default).words > 0)

set_option maxHeartbeats 1000000 in
theorem film_infinite (B : Nat) (w : World) (F : Film) (s : St) (h : FilmAt B w F s) (hop : s.op.length ≤ 10000) :
    Calls Tryd.prog 70 #[.pointer (some ⟨F.f, 0, none⟩)] w fun e w' => ∃ A cap, e = .returned (.slice A s.inf.length cap) ∧ Fr No w w' ∧
      ∀ i j, s.inf[i]? = some j → ∃ b, A = some ⟨b, 0, none⟩ ∧ w.heap.size ≤ b ∧ w'.cell? ⟨b, i, none⟩ = some (ptr (F.bl.getD j 0)) := by
  have c0 : w.cell? ⟨F.f, 0, none⟩ = some (.slice F.Ao s.op.length F.co) := h.blk.cell 0
  have hl := h.blk.lt
  go_enter Tryd.func70, Tryd.ntmps70
  go_wp2_with fail
  refine (clone_row _ B F.Ao s.op.length F.co _ h.rowo hop ?_).mono ?_
  · intro u hu
    obtain ⟨i, -, rfl⟩ := List.mem_map.1 hu
    rfl
  rintro e w1 ⟨A, cap, rfl, hf1, hrow⟩
  have h1 := h.fr0 hf1
  have H1 := Lib.hid hf1
  have HR := Lib.hid hrow
  go_wp2_with fail
  refine (deleteFunc (fun i => ptr (F.bl.getD i 0)) (fun i => decide ((s.lf.getD i default).words > 0)) s.op w1 w.heap.size A s.op.length cap 83 #[] HR.out hop ?_ (enters_of Tryd.func83 (by kernel_rfl) rfl) ?_).mono ?_
  · intro i _
    exact ⟨rfl, _, rfl⟩
  · intro i hi W hW
    obtain ⟨j, hj, he⟩ := List.mem_iff_getElem.1 hi
    have hji : s.op[j]? = some i := by rw [List.getElem?_eq_getElem hj, he]
    obtain ⟨g, k, x, -, -, -, hk, hx, hb, -⟩ := h1.open_at hji
    have e1 : F.bl.getD i 0 = k := by rw [List.getD_eq_getElem?_getD, hk]; rfl
    have e2 : s.lf.getD i default = x := by rw [List.getD_eq_getElem?_getD, hx]; rfl
    simp only [e1, e2]
    have hne : ¬ Own A k := fun hh => by
      have h2 := HR.out.lt k (own_eq.2 hh)
      have h3 := (h.lives i k x hk hx).2.lt
      omega
    exact infClosure k x W (hW.blk hb hne)
  · rintro e w' ⟨rfl, hf2, hc⟩
    have hlen : keptN (fun i => decide ((s.lf.getD i default).words > 0)) s.op s.op.length = s.inf := by unfold keptN St.inf; rw [List.take_length]
    rw [hlen] at hc ⊢
    go_wp2_with fail
    go_ret
    refine ⟨A, cap, rfl, H1.out.then0 hf2 (fun i hi hi2 => ?_), fun i j hj => ?_⟩
    · have h2 := HR.out.lt i (own_eq.2 hi2)
      omega
    · obtain ⟨b, rfl, hcb⟩ := hc i _ (by rw [List.getElem?_map, hj]; rfl)
      exact ⟨b, rfl, (HR.out.lt b rfl).1, hcb⟩
end Go.Proofs.YtnloffjjlhhanaaDoor
