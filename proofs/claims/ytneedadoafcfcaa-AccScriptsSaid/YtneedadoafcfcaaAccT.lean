/- Bits of a sum; the highest one; the nearest float. -/
import Derived.Test.YtneedadoafcfcaaAccG2
import Derived.Test.YtneedadoafcfcaaAccV
import Derived.Lib.Strings
import Derived.Lib.Slices
import Derived.Lib.Small
import Derived.Lib.Walk
import Derived.Lib.BitFns
namespace Go.Proofs.Ytneedadoafcfcaa
open Go Go.RowKit TF

attribute [local go_sem] cmp_eq cmp_ne cmp_lt cmp_gt cmp_le cmp_ge

theorem bitLen_lenN : ∀ (f x : Nat), x < 2 ^ f → f ≤ 64 → Lib.bitLen x = lenN x := by
  intro f
  induction f with
  | zero => intro x h _; have : x = 0 := by omega
            subst this; rfl
  | succ f ih =>
    intro x h hf
    by_cases h0 : x = 0
    · subst h0; rfl
    · have hx64 : x < 2 ^ 64 := Nat.lt_of_lt_of_le h (Nat.pow_le_pow_right (by omega) hf)
      rw [Lib.bitLen_half x h0 hx64, lenN_step h0, ih (x / 2) (by rw [Nat.pow_succ] at h; omega) (by omega), Nat.add_comm]
theorem len_shift (k : Nat) (P : Int) (hP : P = ((2 ^ k : Nat) : Int)) {x y : Int} (h0 : 0 ≤ x) (h9 : x < 18446744073709551616) (h : P ≤ x) (hy : x / P = y) : lenN x.toNat = k + lenN y.toNat ∧ 0 ≤ y ∧ y < 18446744073709551616 := by
  subst hP
  obtain ⟨X, rfl⟩ := Int.eq_ofNat_of_zero_le h0
  have hx9 : X < 18446744073709551616 := by omega
  have hy2 : y = ((X / 2 ^ k : Nat) : Int) := by rw [← hy, Int.natCast_ediv]
  have hle : X / 2 ^ k ≤ X := Nat.div_le_self _ _
  have hk : 2 ^ k ≤ X := Int.ofNat_le.1 h
  have hs := Lib.bitLen_shift k X hk hx9
  rw [bitLen_lenN 64 X hx9 (Nat.le_refl _), bitLen_lenN 64 (X / 2 ^ k) (Nat.lt_of_le_of_lt hle hx9) (Nat.le_refl _)] at hs
  clear h hy hk
  subst hy2
  generalize X / 2 ^ k = Y at *
  rw [Int.toNat_natCast, Int.toNat_natCast]
  exact ⟨hs, by omega, by omega⟩
theorem fin8 {n z L : Int} (h0 : 0 ≤ z) (h8 : z ≤ 255) (n0 : 0 ≤ n) (n9 : n ≤ 56) (hL : L = n + lenN z.toNat) : wrap64 (n + wrap64 (Lib.len8 z)) = L := by
  have hl := Lib.bitLen_le8' z h0 h8
  rw [Lib.len8_of z h0 h8, hL, ← bitLen_lenN 64 _ (by omega) (by omega)]
  rw [IntWalk.wrap64_in (Lib.bitLen z.toNat : Int) ⟨by omega, by omega⟩, IntWalk.wrap64_in _ ⟨by omega, by omega⟩]
theorem fin8' {z L : Int} (h0 : 0 ≤ z) (h8 : z ≤ 255) (hL : L = lenN z.toNat) : wrap64 (wrap64 (Lib.len8 z)) = L := by
  have hl := Lib.bitLen_le8' z h0 h8
  rw [Lib.len8_of z h0 h8, hL, ← bitLen_lenN 64 _ (by omega) (by omega)]
  rw [IntWalk.wrap64_in (Lib.bitLen z.toNat : Int) ⟨by omega, by omega⟩, IntWalk.wrap64_in _ ⟨by omega, by omega⟩]
set_option maxHeartbeats 4000000 in
set_option maxRecDepth 100000 in
theorem len64_any (x : Int) (h0 : 0 ≤ x) (h9 : x < 18446744073709551616) (w : World) :
    Calls Try.prog 53 #[.int .u64 x] w fun e w' => e = .returned (.int .i64 (lenN x.toNat)) ∧ w = w' := by
  obtain ⟨L, hL⟩ : ∃ L : Int, L = lenN x.toNat := ⟨_, rfl⟩
  rw [← hL]
  obtain ⟨y, hy⟩ : ∃ y, x / 4294967296 = y := ⟨_, rfl⟩
  have s1 := fun h => len_shift 32 4294967296 rfl h0 h9 h hy
  have key : ∀ z : Int, 0 ≤ z → z ≤ 255 → Lib.bitLen z.toNat ≤ 8 ∧ lenN z.toNat = Lib.bitLen z.toNat := fun z z0 z9 => ⟨Lib.bitLen_le8' z z0 z9, (bitLen_lenN 64 _ (by omega) (by omega)).symm⟩
  by_cases c1 : 4294967296 ≤ x
  · obtain ⟨l1, y0, y9⟩ := s1 c1
    obtain ⟨z, hz⟩ : ∃ z, y / 65536 = z := ⟨_, rfl⟩
    have s2 := fun h => len_shift 16 65536 rfl y0 y9 h hz
    by_cases c2 : 65536 ≤ y
    · obtain ⟨l2, z0, z9⟩ := s2 c2
      obtain ⟨u, hu⟩ : ∃ u, z / 256 = u := ⟨_, rfl⟩
      have s3 := fun h => len_shift 8 256 rfl z0 z9 h hu
      by_cases c3 : 256 ≤ z
      · obtain ⟨l3, u0, u9⟩ := s3 c3
        have u8 : u ≤ 255 := by omega
        have KK := Lib.hid (⟨hL, l1, l2, l3, key u u0 u8⟩ : _ ∧ _ ∧ _ ∧ _ ∧ _)
        clear hL s1 s2 s3 l2 l3 key l1
        go_enter Try.func53, Try.ntmps53
        go_wp2_with fail
        go_ret
        exact ⟨ret_int' (fin8 u0 u8 (by decide) (by decide) (by have hK := KK.out; omega)), rfl⟩
      · have z8 : z ≤ 255 := by omega
        have KK := Lib.hid (⟨hL, l1, l2, key z z0 z8⟩ : _ ∧ _ ∧ _ ∧ _)
        clear hL s1 s2 s3 l2 key c3 l1
        go_enter Try.func53, Try.ntmps53
        go_wp2_with fail
        go_ret
        exact ⟨ret_int' (fin8 z0 z8 (by decide) (by decide) (by have hK := KK.out; omega)), rfl⟩
    · obtain ⟨u, hu⟩ : ∃ u, y / 256 = u := ⟨_, rfl⟩
      have s3 := fun h => len_shift 8 256 rfl y0 y9 h hu
      by_cases c3 : 256 ≤ y
      · obtain ⟨l3, u0, u9⟩ := s3 c3
        have u8 : u ≤ 255 := by omega
        have KK := Lib.hid (⟨hL, l1, l3, key u u0 u8⟩ : _ ∧ _ ∧ _ ∧ _)
        clear hL s1 s2 s3 l3 key hz l1
        go_enter Try.func53, Try.ntmps53
        go_wp2_with fail
        go_ret
        exact ⟨ret_int' (fin8 u0 u8 (by decide) (by decide) (by have hK := KK.out; omega)), rfl⟩
      · have v8 : y ≤ 255 := by omega
        have KK := Lib.hid (⟨hL, l1, key y y0 v8⟩ : _ ∧ _ ∧ _)
        clear hL s1 s2 s3 key hz l1
        go_enter Try.func53, Try.ntmps53
        go_wp2_with fail
        go_ret
        exact ⟨ret_int' (fin8 y0 v8 (by decide) (by decide) (by have hK := KK.out; omega)), rfl⟩
  · have x0 := h0
    have x9 := h9
    clear s1 hy
    obtain ⟨z, hz⟩ : ∃ z, x / 65536 = z := ⟨_, rfl⟩
    have s2 := fun h => len_shift 16 65536 rfl x0 x9 h hz
    by_cases c2 : 65536 ≤ x
    · obtain ⟨l2, z0, z9⟩ := s2 c2
      obtain ⟨u, hu⟩ : ∃ u, z / 256 = u := ⟨_, rfl⟩
      have s3 := fun h => len_shift 8 256 rfl z0 z9 h hu
      by_cases c3 : 256 ≤ z
      · obtain ⟨l3, u0, u9⟩ := s3 c3
        have u8 : u ≤ 255 := by omega
        have KK := Lib.hid (⟨hL, l2, l3, key u u0 u8⟩ : _ ∧ _ ∧ _ ∧ _)
        clear hL s2 s3 l2 l3 key
        go_enter Try.func53, Try.ntmps53
        go_wp2_with fail
        go_ret
        exact ⟨ret_int' (fin8 u0 u8 (by decide) (by decide) (by have hK := KK.out; omega)), rfl⟩
      · have z8 : z ≤ 255 := by omega
        have KK := Lib.hid (⟨hL, l2, key z z0 z8⟩ : _ ∧ _ ∧ _)
        clear hL s2 s3 l2 key c3
        go_enter Try.func53, Try.ntmps53
        go_wp2_with fail
        go_ret
        exact ⟨ret_int' (fin8 z0 z8 (by decide) (by decide) (by have hK := KK.out; omega)), rfl⟩
    · obtain ⟨u, hu⟩ : ∃ u, x / 256 = u := ⟨_, rfl⟩
      have s3 := fun h => len_shift 8 256 rfl x0 x9 h hu
      by_cases c3 : 256 ≤ x
      · obtain ⟨l3, u0, u9⟩ := s3 c3
        have u8 : u ≤ 255 := by omega
        have KK := Lib.hid (⟨hL, l3, key u u0 u8⟩ : _ ∧ _ ∧ _)
        clear hL s2 s3 l3 key hz
        go_enter Try.func53, Try.ntmps53
        go_wp2_with fail
        go_ret
        exact ⟨ret_int' (fin8 u0 u8 (by decide) (by decide) (by have hK := KK.out; omega)), rfl⟩
      · have v8 : x ≤ 255 := by omega
        have KK := Lib.hid (⟨hL, key x x0 v8⟩ : _ ∧ _)
        clear hL s2 s3 key hz
        go_enter Try.func53, Try.ntmps53
        go_wp2_with fail
        go_ret
        exact ⟨ret_int' (fin8' x0 v8 (by have hK := KK.out; omega)), rfl⟩
/-- 70 words at a block of their own. -/
def WordsAt (w : World) (L : Nat) (d : Nat → Int) : Prop := ∀ i, i < 70 → CellIs w L i (.int .u64 (d i))
theorem and_one {z : Int} (z0 : 0 ≤ z) (z9 : z < 18446744073709551616) : bits .and .u64 z 1 = z % 2 := by
  obtain ⟨Z, rfl⟩ := Int.eq_ofNat_of_zero_le z0
  have e := u64_and_nat Z 1 (by omega) (by omega)
  have e2 : Z &&& 1 = Z % 2 := Nat.and_two_pow_sub_one_eq_mod Z 1
  rw [e2] at e
  rw [show ((1 : Nat) : Int) = 1 from rfl] at e
  rw [e]; omega
theorem bit_any (L : Nat) (d : Nat → Int) (N : Nat) (w : World) (h : WordsAt w L d) (D : Digs d N) (a : Int) (a9 : a < 4480) (r : Int) (hr : r = if a < 0 then 0 else ((N / 2 ^ a.toNat % 2 : Nat) : Int)) :
    Calls Try.prog 49 #[.pointer (some ⟨L, 0, none⟩), .int .i64 a] w fun e w' => e = .returned (.int .u64 r) ∧ w = w' := by
  by_cases h0 : a < 0
  · rw [if_pos h0] at hr
    subst hr
    go_enter Try.func49, Try.ntmps49
    go_wp2_with fail
    go_ret
    exact ⟨rfl, rfl⟩
  · rw [if_neg h0] at hr
    obtain ⟨k, hk⟩ : ∃ k : Nat, (k : Int) = a / 64 := ⟨(a / 64).toNat, by omega⟩
    obtain ⟨s, hs⟩ : ∃ k : Nat, (k : Int) = a % 64 := ⟨(a % 64).toNat, by omega⟩
    obtain ⟨c, -⟩ := h k (by omega)
    have hb := D.bit (k := k) (r := s) (by omega) (by omega)
    rw [show 64 * k + s = a.toNat by omega] at hb
    have hd := D.ok k
    obtain ⟨U, hU⟩ : ∃ U, U = d k := ⟨_, rfl⟩
    rw [← hU] at c hb hd
    have c2 : w.cell? ⟨L, (a / 64).toNat, none⟩ = some (.int .u64 U) := by rw [show (a / 64).toNat = k by omega]; exact c
    obtain ⟨z, hz⟩ : ∃ z, z = U / 2 ^ (a % 64).toNat := ⟨_, rfl⟩
    have hz2 := hz.symm
    have hp : (0 : Int) < 2 ^ (a % 64).toNat := Int.pow_pos (by decide)
    have z0 : 0 ≤ z := by rw [hz]; exact Int.ediv_nonneg hd.1 (by omega)
    have z9 : z < 18446744073709551616 := by rw [hz]; exact Int.lt_of_le_of_lt (Int.ediv_le_self _ hd.1) hd.2
    have ka := and_one z0 z9
    have hr2 : z % 2 = r := by
      rw [hr, hb, hz, show (a % 64).toNat = s by omega]; simp
    rw [hr2] at ka
    have i0 : 0 ≤ a / 64 := by omega
    have i9 : a / 64 < 70 := by omega
    have j0 : 0 ≤ a % 64 := by omega
    have a0 : 0 ≤ a := by omega
    clear h D hr hb hU hz hp z0 z9 hr2 hk hs c hd h0
    go_enter Try.func49, Try.ntmps49
    go_wp2_with fail
    go_ret
    exact ⟨rfl, rfl⟩
end Go.Proofs.Ytneedadoafcfcaa
