/- slices.IndexFunc over pointers, and where a life is open. -/
import Derived.Test.YtnloffjjlhhanaaDoorBase
import Derived.Shelf.Abstract
set_option linter.unusedVariables false
set_option linter.unusedSimpArgs false
namespace Go.Proofs.YtnloffjjlhhanaaDoor
open Go.RowKit
open Go.Proofs

/-- The first index at which a list says yes, or -1. -/
def fidx : List Bool → Int
  | [] => -1
  | true :: _ => 0
  | false :: r => if fidx r < 0 then -1 else fidx r + 1
theorem fidx_lo (l : List Bool) : -1 ≤ fidx l := by
  induction l with
  | nil => simp [fidx]
  | cons a r ih => cases a <;> simp [fidx]; split <;> omega
theorem fidx_hi (l : List Bool) : fidx l < l.length ∨ fidx l = -1 := by
  induction l with
  | nil => simp [fidx]
  | cons a r ih => cases a <;> simp [fidx] <;> split <;> omega
theorem fidx_found (l : List Bool) : ∀ k : Nat, (∀ i, i < k → l[i]? = some false) → l[k]? = some true → fidx l = k := by
  induction l with
  | nil => intro k _ h; simp at h
  | cons a r ih =>
    intro k h0 h1
    cases k with
    | zero => simp at h1; subst h1; simp [fidx]
    | succ k =>
      have ha : a = false := by have := h0 0 (by omega); simpa using this
      subst ha
      have e := ih k (fun i hi => by have := h0 (i + 1) (by omega); simpa using this) (by simpa using h1)
      rw [fidx, e, if_neg (by omega)]; omega
theorem fidx_none (l : List Bool) (h : ∀ i, i < l.length → l[i]? = some false) : fidx l = -1 := by
  induction l with
  | nil => rfl
  | cons a r ih =>
    have ha : a = false := by have := h 0 (by simp); simpa using this
    subst ha
    have e := ih (fun i hi => by have := h (i + 1) (by simp; omega); simpa using this)
    simp [fidx, e]
/-- Behind the first: none before, and it is there. -/
theorem fidx_at (l : List Bool) : ∀ k : Nat, fidx l = k → l[k]? = some true := by
  induction l with
  | nil => intro k h; simp [fidx] at h
  | cons a r ih =>
    intro k h
    cases a with
    | true => simp [fidx] at h; have : k = 0 := by omega
              subst this; rfl
    | false =>
      have hlo := fidx_lo r
      rw [fidx] at h
      split at h
      · omega
      · obtain ⟨m, hm⟩ : ∃ m, k = m + 1 := ⟨k - 1, by omega⟩
        subst hm
        simpa using ih m (by omega)

set_option maxHeartbeats 400000 in
theorem indexFunc (A : Option Addr) (n cap : Nat) (vs : List Value) (ps : List Bool) (g : Nat) (caps : Array Value) (w : World) (hn : n ≤ 1000000000)
    (hpl : ps.length = n) (he : Enters Tryd.prog g)
    (hv : ∀ i p, ps[i]? = some p → ∃ b v, A = some ⟨b, 0, none⟩ ∧ w.cell? ⟨b, i, none⟩ = some v ∧ ∀ q, Calls Tryd.prog g (#[v] ++ caps) (w.drewN q) fun e w' => e = .returned (.bool p) ∧ ∃ q', w.drewN q' = w') :
    Calls Tryd.prog 79 #[.slice A n cap, .func (.func g) #[] caps] w fun e w' => e = .returned (.int .i64 (fidx ps)) ∧ ∃ q, w.drewN q = w' := by
  have HL := Lib.hid hpl
  clear hpl
  unfold Enters at he
  go_enter Tryd.func79, Tryd.ntmps79
  go_wp2_with fail
  go_loopw [8, 5, 10, 11, 12, 13, 14, 15, 16, 17] (fun i _ _ _ _ _ _ _ _ _ wr => ∃ k : Nat, k ≤ n ∧ i = .int .i64 k ∧ (∃ q, w.drewN q = wr) ∧ Hid (∀ j, j < k → ps[j]? = some false)) (fun i _ _ _ _ _ _ _ _ _ _ => n - (intOf i).toNat)
  case atStart => exact ⟨0, by omega, rfl, ⟨0, rfl⟩, Lib.hid (fun j hj => by omega)⟩
  case round =>
    obtain ⟨k, hk, rfl, ⟨q, rfl⟩, H0⟩ := hrel
    by_cases hlt : k < n
    · obtain ⟨p, hp⟩ : ∃ p, ps[k]? = some p := ⟨_, List.getElem?_eq_getElem (by rw [HL.out]; exact hlt)⟩
      obtain ⟨b, v, rfl, hc, hcall⟩ := hv k p hp
      have HP := Lib.hid hp
      have HC := Lib.hid (hcall q)
      clear hp hv hcall
      go_wp2_with fail
      refine HC.out.mono ?_
      rintro e w' ⟨rfl, q', rfl⟩
      cases p with
      | true =>
        go_wp2_with fail
        go_ret
        exact ⟨by rw [fidx_found ps k H0.out HP.out]; rfl, _, rfl⟩
      | false =>
        go_wp2_with fail
        go_roundw
        case rel => exact ⟨k + 1, by omega, by go_num, ⟨_, rfl⟩, Lib.hid (fun j hj => by rcases Nat.lt_succ_iff_lt_or_eq.1 hj with h | rfl; exact H0.out j h; exact HP.out)⟩
        case measure => simp [intOf]; omega
    · clear hv
      go_wp2_with fail
      go_ret
      exact ⟨by rw [fidx_none ps (fun i hi => H0.out i (by rw [HL.out] at hi; omega))]; rfl, _, rfl⟩
end Go.Proofs.YtnloffjjlhhanaaDoor
