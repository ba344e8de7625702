/- any, top. -/
import Derived.Test.YtneedadoafcfcaaAccT
namespace Go.Proofs.Ytneedadoafcfcaa
open Go Go.RowKit TF

attribute [local go_sem] cmp_eq cmp_ne cmp_lt cmp_gt cmp_le cmp_ge

theorem and_low {U : Int} (U0 : 0 ≤ U) (U9 : U < 18446744073709551616) {s : Nat} (hs : s < 64) :
    bits .and .u64 U (IntKind.u64.wrap (IntKind.u64.wrap (2 ^ s) - 1)) = U % ((2 ^ s : Nat) : Int) := by
  obtain ⟨Z, rfl⟩ := Int.eq_ofNat_of_zero_le U0
  have hp := Nat.two_pow_pos s
  have hq : 2 ^ s < 2 ^ 64 := Nat.pow_lt_pow_right (by omega) hs
  have h1 : IntKind.u64.wrap (IntKind.u64.wrap (2 ^ s) - 1) = ((2 ^ s - 1 : Nat) : Int) := by
    rw [show (2 : Int) ^ s = ((2 ^ s : Nat) : Int) by simp, IntKind.wrap_u64, IntKind.wrap_u64]
    generalize 2 ^ s = P at *
    omega
  rw [h1, u64_and_nat Z _ (by omega) (by omega), Nat.and_two_pow_sub_one_eq_mod, Int.natCast_emod]
/-- what holds at the head of the loop. -/
def AnyRel (w : World) (d : Nat → Int) (k : Nat) (i : Value) (wr : World) : Prop :=
  wr = w ∧ ∃ j : Nat, j ≤ k ∧ i = .int .i64 j ∧ ∀ q, q < j → d q = 0
theorem any_any (L : Nat) (d : Nat → Int) (N : Nat) (w : World) (h : WordsAt w L d) (D : Digs d N) (a : Int) (a0 : 0 ≤ a) (a9 : a < 4480) (r : Bool) (hr : r = decide (N % 2 ^ a.toNat ≠ 0)) :
    Calls Try.prog 50 #[.pointer (some ⟨L, 0, none⟩), .int .i64 a] w fun e w' => e = .returned (.bool r) ∧ ∃ n, w' = w.drewN n := by
  obtain ⟨k, hk⟩ : ∃ k : Nat, (k : Int) = a / 64 := ⟨(a / 64).toNat, by omega⟩
  obtain ⟨s, hs⟩ : ∃ k : Nat, (k : Int) = a % 64 := ⟨(a % 64).toNat, by omega⟩
  have i9 : a / 64 < 70 := by omega
  have i0 : 0 ≤ a / 64 := by omega
  have j0 : 0 ≤ a % 64 := by omega
  have KU := Lib.hid fun i => D.ok i
  have HH := Lib.hid (⟨h, D, hr, hk, hs⟩ : _ ∧ _ ∧ _ ∧ _ ∧ _)
  clear h D hr hs
  go_enter Try.func50, Try.ntmps50
  go_wp2_with fail
  go_loopw [8] (fun i wr => AnyRel w d k i wr) (fun i _ => k - (intOf i).toNat)
  case atStart => exact ⟨rfl, 0, by omega, rfl, fun q hq => by omega⟩
  case round =>
    obtain ⟨rfl, j, hj, rfl, hz⟩ := hrel
    by_cases hlt : j < k
    · have hl : (j : Int) < a / 64 := by omega
      obtain ⟨c, -⟩ := HH.out.1 j (by omega)
      obtain ⟨U, hU⟩ : ∃ U, U = d j := ⟨_, rfl⟩
      rw [← hU] at c
      by_cases h0 : U = 0
      · have KEEP := Lib.hid (⟨hz, hU, h0⟩ : _ ∧ _ ∧ _)
        subst h0
        clear hz hU hk
        go_wp2_with fail
        go_roundw
        case rel => exact ⟨rfl, j + 1, by omega, by go_num, fun q hq => by
          obtain ⟨z1, z2, z3⟩ := KEEP.out
          by_cases e : q = j
          · subst e; omega
          · exact z1 q (by omega)⟩
        case measure => simp [intOf]; omega
      · have KEEP := Lib.hid hU
        clear hz hU
        go_wp2_with fail
        go_ret
        refine ⟨?_, 0, rfl⟩
        show Ending.returned (.bool true) = .returned (.bool r)
        obtain ⟨-, D, hr, hk, hs⟩ := HH.out
        have hU := KEEP.out
        have hlow := D.low (k := k) (r := s) (by omega) (by omega)
        rw [show 64 * k + s = a.toNat by omega] at hlow
        have hz : ¬ SW d k = 0 := fun h => h0 (by rw [hU]; exact (SW_eq_zero D.ok k).1 h j hlt)
        have hz2 := (SW_low D.ok k).1
        have hm : 0 ≤ d k % ((2 ^ s : Nat) : Int) := Int.emod_nonneg _ (by have := Nat.two_pow_pos s; omega)
        have hm2 := Int.mul_nonneg hm (show (0 : Int) ≤ 18446744073709551616 ^ k from Int.pow_nonneg (by decide))
        rw [hr, decide_eq_true (by omega)]
    · have hn : j = k := by omega
      subst hn
      obtain ⟨c, -⟩ := HH.out.1 j (by omega)
      obtain ⟨U, hU⟩ : ∃ U, U = d j := ⟨_, rfl⟩
      rw [← hU] at c
      have c2 : wr.cell? ⟨L, (a / 64).toNat, none⟩ = some (.int .u64 U) := by rw [show (a / 64).toNat = j by omega]; exact c
      clear c
      have hU0 := KU.out j
      rw [← hU] at hU0
      have hge : a / 64 ≤ (j : Int) := by omega
      clear hk
      go_wp2_with fail
      go_region
      go_wp2_with fail
      go_ret
      refine ⟨?_, 1, rfl⟩
      show Ending.returned (.bool (bits .and .u64 (d j) (IntKind.u64.wrap (IntKind.u64.wrap (2 ^ (a % 64).toNat) - 1)) != 0)) = .returned (.bool r)
      obtain ⟨-, D, hr, hk, hs⟩ := HH.out
      have hlow := D.low (k := j) (r := s) (by omega) (by omega)
      rw [show 64 * j + s = a.toNat by omega, (SW_eq_zero D.ok j).2 hz, Int.zero_add] at hlow
      rw [hU] at hU0
      rw [show (a % 64).toNat = s by omega, and_low hU0.1 hU0.2 (by omega), hr]
      congr 2
      have hp : (0 : Int) < 18446744073709551616 ^ j := Int.pow_pos (by decide)
      rw [Bool.eq_iff_iff, bne_iff_ne, decide_eq_true_iff]
      refine not_congr ?_
      constructor
      · intro h; rw [h, Int.zero_mul] at hlow; omega
      · intro h; rw [h] at hlow
        rcases Int.mul_eq_zero.1 hlow.symm with h2 | h2
        · exact h2
        · omega
/-- the loop of top. -/
def TopRel (w : World) (d : Nat → Int) (i : Value) (wr : World) : Prop :=
  wr = w ∧ ∃ j : Nat, j ≤ 70 ∧ i = .int .i64 ((j : Int) - 1) ∧ ∀ q, j ≤ q → q < 70 → d q = 0
theorem top_any (L : Nat) (d : Nat → Int) (N : Nat) (w : World) (h : WordsAt w L d) (D : Digs d N) (r : Int) (hr : r = if N = 0 then -1 else (N.log2 : Int)) :
    Calls Try.prog 48 #[.pointer (some ⟨L, 0, none⟩)] w fun e w' => e = .returned (.int .i64 r) ∧ w = w' := by
  have KL := Lib.hid len64_any
  have HH := Lib.hid (⟨h, D, hr⟩ : _ ∧ _ ∧ _)
  clear h D hr
  go_enter Try.func48, Try.ntmps48
  go_wp2_with fail
  go_loopw [3] (fun i wr => TopRel w d i wr) (fun i _ => (intOf i + 1).toNat)
  case atStart => exact ⟨rfl, 70, by omega, rfl, fun q h1 h2 => by omega⟩
  case round =>
    obtain ⟨rfl, j, hj, rfl, hz⟩ := hrel
    by_cases hlt : 0 < j
    · obtain ⟨k, rfl⟩ : ∃ k, j = k + 1 := ⟨j - 1, by omega⟩
      rw [show ((k + 1 : Nat) : Int) - 1 = k by omega]
      obtain ⟨c, -⟩ := HH.out.1 k (by omega)
      have hdk := HH.out.2.1.ok k
      obtain ⟨U, hU⟩ : ∃ U, U = d k := ⟨_, rfl⟩
      rw [← hU] at c hdk
      have hl : (k : Int) < 70 := by omega
      by_cases h0 : U = 0
      · have KEEP := Lib.hid (⟨hz, hU, h0⟩ : _ ∧ _ ∧ _)
        subst h0
        clear hz hU hj hlt
        go_wp2_with fail
        go_roundw
        case rel => exact ⟨rfl, k, by omega, by go_num, fun q h1 h2 => by
          obtain ⟨z1, z2, z3⟩ := KEEP.out
          by_cases e : q = k
          · subst e; omega
          · exact z1 q (by omega) h2⟩
        case measure => simp [intOf]
      · have hT := HH.out.2.1.top (k := k) (by omega) (fun i h1 h2 => hz i (by omega) h2) (by rw [← hU]; exact h0)
        rw [← hU] at hT
        have hln : (lenN U.toNat : Int) ≤ 64 := by
          have : lenN U.toNat = 0 ∨ lenN U.toNat ≤ 64 := by
            unfold lenN
            by_cases e : U.toNat = 0
            · exact .inl (if_pos e)
            · rw [if_neg e]
              have := (Nat.log2_lt (k := 64) e).2 (by omega)
              omega
          omega
        have KL2 := Lib.hid fun w => len64_any U hdk.1 hdk.2 w
        obtain ⟨l, hl2⟩ : ∃ l : Int, l = lenN U.toNat := ⟨_, rfl⟩
        have l0 : 0 ≤ l := by omega
        rw [← hl2] at hT hln KL2
        have KEEP := Lib.hid (⟨hz, hU, hT⟩ : _ ∧ _ ∧ _)
        clear hz hU hj hlt hT hl2
        go_wp2_with (go_at_call 53; ((with_reducible refine (KL2.out _).mono ?_)); rintro e w' ⟨rfl, rfl⟩)
        go_ret
        refine ⟨ret_int' ?_, rfl⟩
        obtain ⟨-, D, hr⟩ := HH.out
        obtain ⟨-, k2, k3⟩ := KEEP.out
        have hN : N ≠ 0 := by
          intro h
          refine h0 ?_
          rw [k2]
          exact (SW_eq_zero D.ok 70).1 (by rw [D.eq, h]; rfl) k (by omega)
        rw [hr, if_neg hN]; omega
    · have hn : j = 0 := by omega
      subst hn
      have hl : ((0 : Nat) : Int) - 1 = -1 := rfl
      rw [hl]
      go_wp2_with fail
      go_ret
      refine ⟨?_, rfl⟩
      obtain ⟨-, D, hr⟩ := HH.out
      have e := (SW_eq_zero D.ok 70).2 (fun i hi => hz i (by omega) hi)
      rw [D.eq] at e
      rw [hr, if_pos (by omega)]
      rfl
end Go.Proofs.Ytneedadoafcfcaa
