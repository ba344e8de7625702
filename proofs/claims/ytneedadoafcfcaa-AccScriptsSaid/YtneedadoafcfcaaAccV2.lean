/- rounded. -/
import Derived.Test.YtneedadoafcfcaaAccU
namespace Go.Proofs.Ytneedadoafcfcaa
open Go Go.RowKit TF

attribute [local go_sem] cmp_eq cmp_ne cmp_lt cmp_gt cmp_le cmp_ge

theorem or_add' {h0 l1 : Int} {sh : Nat} (a0 : 0 ≤ h0) (a1 : h0 < 18446744073709551616) (b0 : 0 ≤ l1) (b1 : l1 < 2 ^ sh) (hs : sh < 64) (hd : h0 % 2 ^ sh = 0) : bits .or .u64 l1 h0 = h0 + l1 := by
  have e := or_add a0 a1 b0 b1 hs hd
  rw [← e]
  show IntKind.u64.wrap _ = IntKind.u64.wrap _
  rw [BitVec.or_comm]
theorem bit_next (N l k : Nat) (hk : k < 53) :
    bits .or .u64 ((N / 2 ^ l % 2 ^ k : Nat) : Int) (IntKind.u64.wrap (((N / 2 ^ (l + k) % 2 : Nat) : Int) * 2 ^ k)) = ((N / 2 ^ l % 2 ^ (k + 1) : Nat) : Int) := by
  have e : N / 2 ^ l % 2 ^ (k + 1) = N / 2 ^ l % 2 ^ k + 2 ^ k * (N / 2 ^ (l + k) % 2) := by
    rw [Nat.pow_succ, Nat.mod_mul, Nat.div_div_eq_div_mul, ← Nat.pow_add]
  have h2 : (2 : Int) ^ k = ((2 ^ k : Nat) : Int) := by simp
  have hk2 : 2 ^ k ≤ 2 ^ 52 := Nat.pow_le_pow_right (by omega) (by omega)
  have hp := Nat.two_pow_pos k
  have hm := Nat.mod_lt (N / 2 ^ l) hp
  rw [e, h2, IntKind.wrap_u64, ← Int.natCast_mul]
  generalize N / 2 ^ l % 2 ^ k = a at *
  have hb : N / 2 ^ (l + k) % 2 < 2 := Nat.mod_lt _ (by omega)
  generalize N / 2 ^ (l + k) % 2 = b at *
  have hmul : b * 2 ^ k ≤ 1 * 2 ^ k := Nat.mul_le_mul_right _ (by omega)
  rw [Int.emod_eq_of_lt (Int.natCast_nonneg _) (by omega)]
  rw [or_add' (sh := k) (Int.natCast_nonneg _) (by omega) (Int.natCast_nonneg _) (by rw [h2]; omega) (by omega) (by rw [h2, ← Int.natCast_emod, Nat.mul_mod_left]; rfl)]
  rw [Nat.mul_comm b]; omega
/-- the loop's head. -/
def RndRel (w : World) (N l : Nat) (m i : Value) (wr : World) : Prop :=
  wr = w ∧ ∃ k : Nat, k ≤ 53 ∧ m = .int .u64 ((N / 2 ^ l % 2 ^ k : Nat) : Int) ∧ i = .int .i64 k
theorem inf_acc (w : World) : Calls Try.prog 35 #[.int .i64 1] w fun x w' => x = .returned (.float .f64 9218868437227405312) ∧ w = w' := by
  have k1 := run_f64from
  go_enter Try.func35, Try.ntmps35
  go_wp2_with fail
  go_ret
  exact ⟨rfl, rfl⟩
theorem min_fin (l m q : Nat) (h : 1102 ≤ l) : min (((l : Int) - 1102) * 4503599627370496 + ((m : Int) + (q : Int))) 9218868437227405312 = ((min ((l - 1102) * 2 ^ 52 + (m + q)) 9218868437227405312 : Nat) : Int) := by
  obtain ⟨k, rfl⟩ : ∃ k, l = 1102 + k := ⟨l - 1102, by omega⟩
  rw [show 1102 + k - 1102 = k by omega, show (2 : Nat) ^ 52 = 4503599627370496 from rfl, show ((1102 + k : Nat) : Int) - 1102 = (k : Int) by omega]
  have e : (k : Int) * 4503599627370496 + ((m : Int) + (q : Int)) = ((k * 4503599627370496 + (m + q) : Nat) : Int) := by omega
  rw [e]
  generalize k * 4503599627370496 + (m + q) = z
  by_cases h : z ≤ 9218868437227405312
  · rw [Nat.min_eq_left h, Int.min_eq_left (by omega)]
  · rw [Nat.min_eq_right (by omega), Int.min_eq_right (by omega)]; rfl
theorem rnd_fin {N l : Nat} {M M' r : Int} (hl : l = lastI N) (hMM : M = ((N / 2 ^ l : Nat) : Int)) (hr : r = ((min (rung N (-2176)) INF : Nat) : Int)) (h9 : 1102 ≤ l)
    (hM : M' = (((if N / 2 ^ (l - 1) % 2 = 1 ∧ (N % 2 ^ (l - 1) ≠ 0 ∨ N / 2 ^ l % 2 = 1) then 1 else 0 : Nat)) : Int)) : min (((l : Int) - 1102) * 4503599627370496 + (M + M')) 9218868437227405312 = r := by
  have e := rung_sum N
  rw [← hl, nrs_bits N l (by omega)] at e
  rw [INF_eq, e] at hr
  rw [hr, hMM, hM]
  exact min_fin _ _ _ h9
theorem rounded_any (L : Nat) (d : Nat → Int) (N : Nat) (w : World) (h : WordsAt w L d) (D : Digs d N) (r : Int) (hr : r = ((min (rung N (-2176)) INF : Nat) : Int)) :
    Calls Try.prog 38 #[.pointer (some ⟨L, 0, none⟩)] w fun e w' => e = .returned (.int .u64 r) ∧ ∃ n, w' = w.drewN n := by
  obtain ⟨t, ht⟩ : ∃ t : Int, t = if N = 0 then -1 else (N.log2 : Int) := ⟨_, rfl⟩
  obtain ⟨q1, q2, q3⟩ := last_lt D.lt
  obtain ⟨l, hl⟩ : ∃ l, l = lastI N := ⟨_, rfl⟩
  have hlog : N ≠ 0 → N.log2 < 64 * 70 := fun h => (Nat.log2_lt h).2 D.lt
  have t0 : -1 ≤ t := by rw [ht]; split <;> omega
  have t9 : t < 4480 := by
    rw [ht]; split
    · omega
    · rename_i h; have := hlog h; omega
  have tl : max (t - 53 + 1) 1102 = (l : Int) := by
    rw [hl, ht]; unfold lastI
    split <;> omega
  have KT := Lib.hid fun w h => top_any L d N w h D t ht
  have HW := Lib.hid h
  rw [← hl] at q1 q2 q3
  have HD := Lib.hid (⟨D, hr, hl, q1⟩ : _ ∧ _ ∧ _ ∧ _)
  clear h D hr hl ht hlog q1
  go_enter Try.func38, Try.ntmps38
  go_wp2_with (first | (go_at_call 48; ((with_reducible refine (KT.out _ HW.out).mono ?_)); rintro e w' ⟨rfl, rfl⟩))
  clear tl
  go_loopw [4, 12] (fun m i wr => RndRel w N l m i wr) (fun _ i _ => (53 - intOf i).toNat)
  case atStart => exact ⟨rfl, 0, by omega, by rw [Nat.pow_zero, Nat.mod_one]; rfl, rfl⟩
  case round =>
    obtain ⟨rfl, k, hk, rfl, rfl⟩ := hrel
    by_cases hlt : k < 53
    · have hl : (k : Int) < 53 := by omega
      have hor := bit_next N l k hlt
      obtain ⟨z, hz⟩ : ∃ z : Int, z = ((N / 2 ^ (l + k) % 2 : Nat) : Int) := ⟨_, rfl⟩
      have z0 : 0 ≤ z ∧ z ≤ 1 := by omega
      have KB := Lib.hid fun w h => bit_any L d N w h HD.out.1 ((l : Int) + k) (by omega) z (by rw [if_neg (by omega), hz, show ((l : Int) + k).toNat = l + k by omega])
      rw [← hz] at hor
      have KEEP := Lib.hid hor
      clear hor hz
      obtain ⟨M, hMM⟩ : ∃ M : Int, M = ((N / 2 ^ l % 2 ^ k : Nat) : Int) := ⟨_, rfl⟩
      rw [← hMM]
      have KM := Lib.hid hMM
      clear hMM
      go_wp2_with (go_at_call 49; ((with_reducible refine (KB.out _ HW.out).mono ?_)); rintro e w' ⟨rfl, rfl⟩)
      go_roundw
      case rel =>
        have h := KEEP.out
        rw [← KM.out] at h
        exact ⟨rfl, k + 1, by omega, by rw [h], by go_num⟩
      case measure => simp [intOf]; omega
    · have hn : k = 53 := by omega
      subst hn
      have hm : ((N / 2 ^ l % 2 ^ 53 : Nat) : Int) = ((N / 2 ^ l : Nat) : Int) := by rw [Nat.mod_eq_of_lt HD.out.2.2.2]
      rw [hm]
      clear hm hk hlt
      obtain ⟨M, hMM⟩ : ∃ M : Int, M = ((N / 2 ^ l : Nat) : Int) := ⟨_, rfl⟩
      have M0 : 0 ≤ M := by rw [hMM]; exact Int.natCast_nonneg _
      have M9 : M < 9007199254740992 := by have := HD.out.2.2.2; omega
      have hnrs := nrs_bits N l (by omega)
      obtain ⟨z, hz⟩ : ∃ z : Int, z = ((N / 2 ^ (l - 1) % 2 : Nat) : Int) := ⟨_, rfl⟩
      obtain ⟨f, hf⟩ : ∃ f : Bool, f = decide (N % 2 ^ (l - 1) ≠ 0) := ⟨_, rfl⟩
      have KB := Lib.hid fun w h => bit_any L d N w h HD.out.1 ((l : Int) - 1) (by omega) z (by rw [if_neg (by omega), hz, show ((l : Int) - 1).toNat = l - 1 by omega])
      have KA := Lib.hid fun w h => any_any L d N w h HD.out.1 ((l : Int) - 1) (by omega) (by omega) f (by rw [hf, show ((l : Int) - 1).toNat = l - 1 by omega])
      have ka := and_one M0 (by omega)
      have hM2 : M % 2 = ((N / 2 ^ l % 2 : Nat) : Int) := by omega
      rw [← hMM]
      have HH := Lib.hid (⟨hMM, hnrs, hz, hf, hM2⟩ : _ ∧ _ ∧ _ ∧ _ ∧ _)
      have z0 : z = 0 ∨ z = 1 := by omega
      clear hMM hnrs hz hf hM2
      have kI : ∀ w : World, (callFunc 39 #[.float .f64 9218868437227405312]).run Try.prog w = .ok (.value (.int .u64 9218868437227405312)) w := fun w => run_f64bits _ w
      rcases z0 with rfl | rfl
      · clear KA
        go_wp2_with (first | (go_at_call 49; ((with_reducible refine (KB.out _ HW.out).mono ?_)); rintro e w' ⟨rfl, rfl⟩) | (go_at_call 50; ((with_reducible refine (KA.out _ HW.out).mono ?_)); rintro e w' ⟨rfl, nn, rfl⟩) | (go_at_call 35; ((with_reducible refine (inf_acc _).mono ?_)); rintro e w' ⟨rfl, rfl⟩))
        go_ret
        obtain ⟨k1, k2, k3, k4, k5⟩ := HH.out
        refine ⟨?_, ?_⟩
        · have := rnd_fin (M := M) (M' := 0) HD.out.2.2.1 k1 HD.out.2.1 q3 (by rw [if_neg (by omega)]; rfl)
          rw [Int.add_zero] at this
          exact ret_int' this
        · exact ⟨0, rfl⟩
      · cases f
        · by_cases hm : M % 2 = 1
          · rw [hm] at ka
            go_wp2_with (first | (go_at_call 49; ((with_reducible refine (KB.out _ HW.out).mono ?_)); rintro e w' ⟨rfl, rfl⟩) | (go_at_call 50; ((with_reducible refine (KA.out _ HW.out).mono ?_)); rintro e w' ⟨rfl, nn, rfl⟩) | (go_at_call 35; ((with_reducible refine (inf_acc _).mono ?_)); rintro e w' ⟨rfl, rfl⟩))
            go_ret
            obtain ⟨k1, k2, k3, k4, k5⟩ := HH.out
            exact ⟨ret_int' (rnd_fin (M := M) (M' := 1) HD.out.2.2.1 k1 HD.out.2.1 q3 (by rw [if_pos ⟨by omega, .inr (by omega)⟩]; rfl)), _, rfl⟩
          · have hm2 : M % 2 = 0 := by omega
            rw [hm2] at ka
            go_wp2_with (first | (go_at_call 49; ((with_reducible refine (KB.out _ HW.out).mono ?_)); rintro e w' ⟨rfl, rfl⟩) | (go_at_call 50; ((with_reducible refine (KA.out _ HW.out).mono ?_)); rintro e w' ⟨rfl, nn, rfl⟩) | (go_at_call 35; ((with_reducible refine (inf_acc _).mono ?_)); rintro e w' ⟨rfl, rfl⟩))
            go_ret
            obtain ⟨k1, k2, k3, k4, k5⟩ := HH.out
            have k6 := decide_eq_false_iff_not.1 k4.symm
            have := rnd_fin (M := M) (M' := 0) HD.out.2.2.1 k1 HD.out.2.1 q3 (by rw [if_neg (fun h => h.2.elim k6 (fun h => by omega))]; rfl)
            rw [Int.add_zero] at this
            exact ⟨ret_int' this, _, rfl⟩
        · go_wp2_with (first | (go_at_call 49; ((with_reducible refine (KB.out _ HW.out).mono ?_)); rintro e w' ⟨rfl, rfl⟩) | (go_at_call 50; ((with_reducible refine (KA.out _ HW.out).mono ?_)); rintro e w' ⟨rfl, nn, rfl⟩) | (go_at_call 35; ((with_reducible refine (inf_acc _).mono ?_)); rintro e w' ⟨rfl, rfl⟩))
          go_ret
          obtain ⟨k1, k2, k3, k4, k5⟩ := HH.out
          exact ⟨ret_int' (rnd_fin (M := M) (M' := 1) HD.out.2.2.1 k1 HD.out.2.1 q3 (by rw [if_pos ⟨by omega, .inl (decide_eq_true_iff.1 k4.symm)⟩]; rfl)), _, rfl⟩
end Go.Proofs.Ytneedadoafcfcaa
