/- slices.IndexFunc, ContainsFunc over the two tests of rain; the closure that looks at a rain. -/
import Derived.Test.YtbjkofjkpfgimaaRainA
import Derived.Lib.Hide
namespace Go.Proofs.Ytbjkofjkpfgimaa
open Go.RowKit TF


set_option maxHeartbeats 1000000 in
theorem index_w (A : Option Addr) (n cap : Nat) (Z : Nat → Int) (w : World) (hn : n ≤ 9223372036854775807) (hz : IntsAt w A n Z) :
    Calls Try.prog 23 #[.slice A n cap, .func (.func 16) #[] #[]] w fun e w' => ∃ r : Int, decide (0 ≤ r) = anyB n (fun i => outB (Z i)) ∧ e = .returned (.int .i64 r) ∧ w = w' := by
  go_enter Try.func23, Try.ntmps23
  go_wp2
  go_loopw [8] (fun i wr => ∃ k : Nat, k ≤ n ∧ i = .int .i64 k ∧ w = wr ∧ Hid (∀ j, j < k → outB (Z j) = false)) (fun i _ => n - (intOf i).toNat)
  case atStart => exact ⟨0, Nat.zero_le _, rfl, by first | rfl | trivial, fun j hj => absurd hj (Nat.not_lt_zero _)⟩
  case round =>
    obtain ⟨k, hk, rfl, rfl, H⟩ := hrel
    by_cases hlt : k < n
    · obtain ⟨b, off, rfl, hbl, hc⟩ := hz k hlt
      cases hq : outB (Z k) with
      | true =>
        go_wp2_with (first | (go_at_call 16; ((with_reducible refine (outside_any _ _).mono ?_)); rintro e w' ⟨rfl, rfl⟩))
        go_ret
        exact ⟨k, by rw [anyB_true hlt hq]; simp, by first | rfl | trivial, by first | rfl | trivial⟩
      | false =>
        go_wp2_with (first | (go_at_call 16; ((with_reducible refine (outside_any _ _).mono ?_)); rintro e w' ⟨rfl, rfl⟩))
        go_roundw
        case rel => exact ⟨k + 1, by omega, by go_num, by first | rfl | trivial, fun j hj => by
          by_cases e : j = k
          · subst e; exact hq
          · exact H.out j (by omega)⟩
        case measure => simp [intOf]; omega
    · have hkn : k = n := by omega
      go_wp2
      go_ret
      exact ⟨-1, by rw [anyB_false.2 (fun i hi => H.out i (by omega))]; rfl, rfl, rfl⟩

set_option maxHeartbeats 1000000 in
theorem contains_w (A : Option Addr) (n cap : Nat) (Z : Nat → Int) (w : World) (hn : n ≤ 9223372036854775807) (hz : IntsAt w A n Z) :
    Calls Try.prog 17 #[.slice A n cap, .func (.func 16) #[] #[]] w fun e w' => e = .returned (.bool (anyB n (fun i => outB (Z i)))) ∧ w = w' := by
  go_enter Try.func17, Try.ntmps17
  go_wp2_with (first | (go_at_call 23; ((with_reducible refine (index_w A n cap Z w hn hz).mono ?_)); rintro e w' ⟨r, hr, rfl, rfl⟩))
  go_ret
  exact ⟨by rw [← hr]; rfl, rfl⟩

set_option maxHeartbeats 1000000 in
/-- the closure that looks at a rain; N: the length of the water, B: where the water's variable lies. -/
theorem invalid_any (N c a f t : Int) (B : Nat) (w : World) (hB : B < w.heap.size) (hbx : ∃ A n cap, N = (n : Nat) ∧ w.cell? ⟨B, 0, none⟩ = some (.slice A n cap)) :
    Calls Try.prog 15 #[.agg #[.int .i64 c, .int .i64 a, .int .i64 f, .int .i64 t], .pointer (some ⟨B, 0, none⟩)] w fun e w' => e = .returned (.bool (!validB N c a f t)) ∧ Below w.heap.size w w' := by
  obtain ⟨A, n, cap, rfl, hc⟩ := hbx
  go_enter Try.func15, Try.ntmps15
  go_wp2_with (first | (go_at_call 10; ((with_reducible refine (valid_any _ _ _ _ _ _).mono ?_)); rintro e w' ⟨rfl, hbl⟩))
  go_ret
  exact ⟨rfl, ((Below.refl _ _).alloc (Nat.le_refl _) _).trans (hbl.mono (by simp))⟩

set_option maxHeartbeats 1000000 in
theorem index_r (N : Int) (R : Option Addr) (m cap : Nat) (C Am F T : Nat → Int) (B : Nat) (w : World) (hm : m ≤ 9223372036854775807) (hr : RainsAt w R m C Am F T) (hB : B < w.heap.size) (hbx : ∃ A n cap, N = (n : Nat) ∧ w.cell? ⟨B, 0, none⟩ = some (.slice A n cap)) :
    Calls Try.prog 24 #[.slice R m cap, .func (.func 15) #[] #[.pointer (some ⟨B, 0, none⟩)]] w fun e w' => ∃ r : Int, decide (0 ≤ r) = anyB m (fun i => !validB N (C i) (Am i) (F i) (T i)) ∧ e = .returned (.int .i64 r) ∧ Below w.heap.size w w' := by
  have HBX := Lib.hid hbx
  clear hbx
  go_enter Try.func24, Try.ntmps24
  go_wp2
  go_loopw [8] (fun i wr => ∃ k : Nat, k ≤ m ∧ i = .int .i64 k ∧ Below w.heap.size w wr ∧ Hid (∀ j, j < k → validB N (C j) (Am j) (F j) (T j) = true)) (fun i _ => m - (intOf i).toNat)
  case atStart => exact ⟨0, Nat.zero_le _, rfl, Below.refl _ _, fun j hj => absurd hj (Nat.not_lt_zero _)⟩
  case round =>
    obtain ⟨k, hk, rfl, hw, H⟩ := hrel
    have hBr : B < wr.heap.size := Nat.lt_of_lt_of_le hB hw.size
    have hbr : ∃ A n cap, N = ((n : Nat) : Int) ∧ wr.cell? ⟨B, 0, none⟩ = some (.slice A n cap) := by
      obtain ⟨A, n, cap, h1, h2⟩ := HBX.out
      exact ⟨A, n, cap, h1, by rw [hw.cell (p := ⟨B, 0, none⟩) hB]; exact h2⟩
    by_cases hlt : k < m
    · obtain ⟨b, off, rfl, hbl, h0, h1, h2, h3⟩ := hr.below hw k hlt
      cases hq : validB N (C k) (Am k) (F k) (T k) with
      | false =>
        go_wp2_with (first | (go_at_call 15; ((with_reducible refine (invalid_any N _ _ _ _ B _ hBr hbr).mono ?_)); rintro e w' ⟨rfl, hbl⟩))
        go_ret
        exact ⟨k, by rw [anyB_true hlt (by rw [hq]; rfl)]; simp, rfl, hw.trans (hbl.mono hw.size)⟩
      | true =>
        go_wp2_with (first | (go_at_call 15; ((with_reducible refine (invalid_any N _ _ _ _ B _ hBr hbr).mono ?_)); rintro e w' ⟨rfl, hbl⟩))
        go_roundw
        case rel => exact ⟨k + 1, by omega, by go_num, hw.trans (hbl.mono hw.size), fun j hj => by
          by_cases e : j = k
          · subst e; exact hq
          · exact H.out j (by omega)⟩
        case measure => simp [intOf]; omega
    · have hkn : k = m := by omega
      go_wp2
      go_ret
      exact ⟨-1, by rw [anyB_false.2 (fun i hi => by rw [H.out i (by omega)]; rfl)]; rfl, rfl, hw⟩

set_option maxHeartbeats 1000000 in
theorem contains_r (N : Int) (R : Option Addr) (m cap : Nat) (C Am F T : Nat → Int) (B : Nat) (w : World) (hm : m ≤ 9223372036854775807) (hr : RainsAt w R m C Am F T) (hB : B < w.heap.size) (hbx : ∃ A n cap, N = (n : Nat) ∧ w.cell? ⟨B, 0, none⟩ = some (.slice A n cap)) :
    Calls Try.prog 18 #[.slice R m cap, .func (.func 15) #[] #[.pointer (some ⟨B, 0, none⟩)]] w fun e w' => e = .returned (.bool (anyB m (fun i => !validB N (C i) (Am i) (F i) (T i)))) ∧ Below w.heap.size w w' := by
  go_enter Try.func18, Try.ntmps18
  go_wp2_with (first | (go_at_call 24; ((with_reducible refine (index_r N R m cap C Am F T B w hm hr hB hbx).mono ?_)); rintro e w' ⟨r, hr, rfl, hbl⟩))
  go_ret
  exact ⟨by rw [← hr]; rfl, hbl⟩
end Go.Proofs.Ytbjkofjkpfgimaa
