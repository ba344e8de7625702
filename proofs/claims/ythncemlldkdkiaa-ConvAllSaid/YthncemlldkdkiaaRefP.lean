/- The reference's functions of layer 2: whole numbers as floats, a float's parts, clamps. -/
import Derived.Test.YthncemlldkdkiaaRefL
import Derived.Test.YthncemlldkdkiaaLevI
import Derived.Test.YthncemlldkdkiaaLevG
namespace Go.Proofs.Ythncemlldkdkiaa
open Go.RowKit TF

attribute [local go_sem] cmp_eq cmp_ne cmp_lt cmp_gt cmp_le cmp_ge

theorem rfromint_any (i : Int) (h1 : -9223372036854775808 ≤ i) (h2 : i ≤ 9223372036854775807) (w : World) :
    Calls Try.prog 18 #[.int .i64 i] w fun e w' => e = .returned (.float .f64 (floatOfInt .f64 i)) ∧ w = w' := by
  have hS : SmallOk i.natAbs 0 52 (-1074) 9218868437227405312 := ⟨by omega, by omega, by omega, by omega, by omega, by omega, by omega, by omega, by omega, fun h => by
    have := lenN_le (m := i.natAbs) (by omega)
    unfold unitI at h; omega⟩
  obtain ⟨m, hm⟩ : ∃ m : Int, m = i.natAbs := ⟨_, rfl⟩
  obtain ⟨k, hk⟩ : ∃ k : Int, k = smallI i.natAbs 0 52 (-1074) 9218868437227405312 := ⟨_, rfl⟩
  have KS := Lib.hid fun w => (by rw [hk]; exact small_any i.natAbs m 0 52 (-1074) _ hm hS w : Calls Try.prog 40 #[.int .u64 m, .int .i64 0, .int .i64 52, .int .i64 (-1074), .int .u64 9218868437227405312] w fun x w' => x = .returned (.int .u64 k) ∧ w = w')
  have hk2 : k = (min (rnd (i.natAbs * Q)) INF : Nat) := by rw [hk, small_word, rung_whole]
  have hI' := INF_eq
  have k1 : 0 ≤ k := by omega
  have k2 : k ≤ 9218868437227405312 := by omega
  have hf := fi_eq i
  by_cases h0 : i < 0
  · have hr : floatOfInt .f64 i = (9223372036854775808 + k).toNat := by
      rw [hf, decide_eq_true h0]
      show 2 ^ 63 + _ = _
      omega
    rw [hr]
    have hmi : m = IntKind.u64.wrap (-IntKind.u64.wrap i) := by rw [u64w, u64w]; omega
    subst hmi
    clear hS hk hk2 hf hr hm hI'
    go_enter Try.func18, Try.ntmps18
    go_wp2_with (first | (go_at_call 40; ((with_reducible refine (KS.out _).mono ?_)); rintro e w' ⟨rfl, rfl⟩) | (go_at_call 28; ((with_reducible refine (from_any _ _).mono ?_)); rintro e w' ⟨rfl, rfl⟩))
    go_ret
    exact ⟨rfl, rfl⟩
  · have hr : floatOfInt .f64 i = k.toNat := by
      rw [hf, decide_eq_false h0, hk2, Int.toNat_natCast]; exact if_neg Bool.false_ne_true
    rw [hr]
    have hmi : m = i := by omega
    subst hmi
    clear hS hk hk2 hf hr hm hI'
    go_enter Try.func18, Try.ntmps18
    go_wp2_with (first | (go_at_call 40; ((with_reducible refine (KS.out _).mono ?_)); rintro e w' ⟨rfl, rfl⟩) | (go_at_call 28; ((with_reducible refine (from_any _ _).mono ?_)); rintro e w' ⟨rfl, rfl⟩))
    go_ret
    exact ⟨by first | rfl | exact ret_f64 (by omega), rfl⟩

theorem results_tmp4 {fn : Func} {t u v x : Tmp} (h : fn.results = #[.tmp t, .tmp u, .tmp v, .tmp x]) (tmps : Array Value) (P : Program) (w : World) :
    (results fn tmps).run P w = .ok (.tuple #[tmps.getD t undef, tmps.getD u undef, tmps.getD v undef, tmps.getD x undef]) w := by
  simp [results, h]
theorem ret_parts {g : Bool} {m m' e e' v v' : Int} (h1 : m = m') (h2 : e = e') (h3 : v = v') :
    Ending.returned (.tuple #[.bool g, .int .u64 m, .int .i64 e, .int .i64 v]) = .returned (.tuple #[.bool g, .int .u64 m', .int .i64 e', .int .i64 v']) := by rw [h1, h2, h3]
theorem rparts_any (b : Nat) (hb : W64 b) (w : World) :
    Calls Try.prog 32 #[.float .f64 b] w fun e w' => e = .returned (.tuple #[.bool (ng b), .int .u64 (partsM b), .int .i64 (partsE b), .int .i64 (partsW b)]) ∧ w = w' := by
  obtain ⟨n, hn⟩ : ∃ n : Int, n = b := ⟨_, rfl⟩
  have KB := Lib.hid fun w => rbits_any b n hn w
  have hb' : b < 2 ^ 64 := hb
  have n1 : 0 ≤ n := by omega
  have n2 : n < 18446744073709551616 := by omega
  have hg : ng b = (n / 9223372036854775808 == 1) := by
    unfold ng
    rw [hn]
    have : b / 2 ^ 63 % 2 = b / 2 ^ 63 := by omega
    rw [this]
    by_cases h : b / 2 ^ 63 = 1
    · have h2 : (b : Int) / 9223372036854775808 = 1 := by omega
      rw [h2, h]; rfl
    · have h2 : ¬ (b : Int) / 9223372036854775808 = 1 := by omega
      rw [beq_eq_false_iff_ne.2 h, beq_eq_false_iff_ne.2 h2]
  rw [hg]
  have HN := Lib.hid hn
  clear hg hn hb hb'
  go_enter Try.func32, Try.ntmps32
  go_wp2_with (first | (go_at_call 27; ((with_reducible refine (KB.out _).mono ?_)); rintro e w' ⟨rfl, rfl⟩))
  all_goals
    (try simp only [Exit.inBlock, Exit.then])
    refine bodyPost_ret (results_tmp4 rfl _ _ _) rfl ?_
    refine ⟨ret_parts ?_ ?_ ?_, rfl⟩
    all_goals
      have hn := HN.out
      have hI := INF_eq
      simp only [beq_iff_eq, beq_eq_false_iff_ne, ne_eq] at *
      have hmg : mg b = b % 2 ^ 63 := rfl
      have hE : E (mg b) = mg b / 2 ^ 52 - 1 := rfl
      simp only [partsM, partsE, partsW]
      rcases Nat.lt_or_ge (mg b) (2 ^ 52) with hlow | hlow
      · have hM : M (mg b) = mg b := if_pos hlow
        repeat' split
        all_goals omega
      · have hM : M (mg b) = 2 ^ 52 + mg b % 2 ^ 52 := if_neg (by omega)
        repeat' split
        all_goals omega
end Go.Proofs.Ythncemlldkdkiaa
