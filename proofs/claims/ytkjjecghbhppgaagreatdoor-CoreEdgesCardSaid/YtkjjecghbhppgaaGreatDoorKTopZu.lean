/- Tracers: of the pond, which has none. -/
import Derived.Test.YtkjjecghbhppgaaGreatDoorK27
import Derived.Deep.RegionLaw
import Derived.BigQuiet
namespace Go.Proofs.YtkjjecghbhppgaaGreatDoor
open Go Go.RowKit Go.Maps TF

set_option maxRecDepth 100000
set_option maxHeartbeats 8000000
theorem low_ok (x : Int) (h : 0 ≤ x) (w : World) : Calls Tryz.prog 135 #[.int .i64 x] w fun e w' => e = .returned (.bool false) ∧ w = w' := by
  have d1 : decide (x < 0) = false := decide_eq_false (by omega)
  go_enter Tryz.func135, Tryz.ntmps135
  go_wp2
  go_ret
  exact ⟨rfl, rfl⟩
theorem idx_low (b N : Nat) (hN : N ≤ 12) (f : Nat → Int) (hf : ∀ i < N, 0 ≤ f i) (w : World) (hb : IW w b N f) :
    Calls Tryz.prog 107 #[.slice (some ⟨b, 0, none⟩) N N, .func (.func 135) #[] #[]] w fun e w' => e = .returned (.int .i64 (-1)) ∧ w = w' := by
  have HB := Lib.hid hb
  have HF := Lib.hid hf
  clear hb hf
  go_enter Tryz.func107, Tryz.ntmps107
  go_wp2_with fail
  go_loopw [8] (fun i wr => ∃ k : Nat, k ≤ N ∧ i = .int .i64 k ∧ wr = w) (fun i _ => N - (intOf i).toNat)
  case atStart => exact ⟨0, by omega, rfl, rfl⟩
  case round =>
    obtain ⟨k, hk, rfl, hw⟩ := hrel
    subst hw
    by_cases hlt : k < N
    · have c0 := HB.out k hlt
      have q := HF.out k hlt
      generalize f k = x at c0 q
      go_wp2_with (go_at_call 135; ((with_reducible refine (low_ok _ q _).mono ?_)); rintro e w' ⟨rfl, rfl⟩)
      go_roundw
      case rel => exact ⟨k + 1, by omega, by go_num, by trivial⟩
      case measure => simp [intOf]; omega
    · have hE : k = N := by omega
      subst hE
      go_wp2
      go_ret
      exact ⟨rfl, rfl⟩
theorem con_low (b N : Nat) (hN : N ≤ 12) (f : Nat → Int) (hf : ∀ i < N, 0 ≤ f i) (w : World) (hb : IW w b N f) :
    Calls Tryz.prog 69 #[.slice (some ⟨b, 0, none⟩) N N, .func (.func 135) #[] #[]] w fun e w' => e = .returned (.bool false) ∧ w = w' := by
  have KI := Lib.hid (idx_low b N hN f hf w hb)
  clear hf hb
  go_enter Tryz.func69, Tryz.ntmps69
  go_wp2_with (go_at_call 107; ((with_reducible refine (KI.out).mono ?_)); rintro e w' ⟨rfl, rfl⟩)
  go_ret
  exact ⟨rfl, rfl⟩
theorem big_ok (x : Int) (h : 0 ≤ x) (h2 : x ≤ 214249) (w : World) : Calls Tryz.prog 136 #[.int .i64 x] w fun e w' => e = .returned (.bool false) ∧ w = w' := by
  have d1 : decide (x < -4503599627370496) = false := decide_eq_false (by omega)
  have d2 : decide (4503599627370496 < x) = false := decide_eq_false (by omega)
  go_enter Tryz.func136, Tryz.ntmps136
  go_wp2
  go_ret
  exact ⟨rfl, rfl⟩
theorem idx_big (b N : Nat) (hN : N ≤ 12) (f : Nat → Int) (hf : ∀ i < N, 0 ≤ f i ∧ f i ≤ 214249) (w : World) (hb : IW w b N f) :
    Calls Tryz.prog 107 #[.slice (some ⟨b, 0, none⟩) N N, .func (.func 136) #[] #[]] w fun e w' => e = .returned (.int .i64 (-1)) ∧ w = w' := by
  have HB := Lib.hid hb
  have HF := Lib.hid hf
  clear hb hf
  go_enter Tryz.func107, Tryz.ntmps107
  go_wp2_with fail
  go_loopw [8] (fun i wr => ∃ k : Nat, k ≤ N ∧ i = .int .i64 k ∧ wr = w) (fun i _ => N - (intOf i).toNat)
  case atStart => exact ⟨0, by omega, rfl, rfl⟩
  case round =>
    obtain ⟨k, hk, rfl, hw⟩ := hrel
    subst hw
    by_cases hlt : k < N
    · have c0 := HB.out k hlt
      have q := HF.out k hlt
      generalize f k = x at c0 q
      go_wp2_with (go_at_call 136; ((with_reducible refine (big_ok _ q.1 q.2 _).mono ?_)); rintro e w' ⟨rfl, rfl⟩)
      go_roundw
      case rel => exact ⟨k + 1, by omega, by go_num, by trivial⟩
      case measure => simp [intOf]; omega
    · have hE : k = N := by omega
      subst hE
      go_wp2
      go_ret
      exact ⟨rfl, rfl⟩
theorem con_big (b N : Nat) (hN : N ≤ 12) (f : Nat → Int) (hf : ∀ i < N, 0 ≤ f i ∧ f i ≤ 214249) (w : World) (hb : IW w b N f) :
    Calls Tryz.prog 69 #[.slice (some ⟨b, 0, none⟩) N N, .func (.func 136) #[] #[]] w fun e w' => e = .returned (.bool false) ∧ w = w' := by
  have KI := Lib.hid (idx_big b N hN f hf w hb)
  clear hf hb
  go_enter Tryz.func69, Tryz.ntmps69
  go_wp2_with (go_at_call 107; ((with_reducible refine (KI.out).mono ?_)); rintro e w' ⟨rfl, rfl⟩)
  go_ret
  exact ⟨rfl, rfl⟩
theorem tgood_ok {T : NetT} (bW bT bF : Nat) (w : World) (hN : Net 1 T w) (hW : IW w bW 6 wat) (hT : IW w bT 6 (fun _ => 0)) (hF : IW w bF 12 flo) :
    Calls Tryz.prog 103 #[.pointer (some ⟨T.g, 0, none⟩), .slice (some ⟨bW, 0, none⟩) 6 6, .slice (some ⟨bT, 0, none⟩) 6 6, .slice (some ⟨bF, 0, none⟩) 12 12] w fun e w' => e = .returned (.bool true) ∧ w = w' := by
  have KC := Lib.hid ((cells_1 w hN).mono fun _ _ h => (⟨h.1, h.2.symm⟩ : _ ∧ w = _))
  have KE := Lib.hid ((edges_1 w hN).mono fun _ _ h => (⟨h.1, h.2.symm⟩ : _ ∧ w = _))
  have K1 := Lib.hid (con_low bW 6 (by omega) wat (fun i _ => by have := wat_lt i; omega) w hW)
  have K2 := Lib.hid (con_low bT 6 (by omega) (fun _ => 0) (fun i _ => Int.le_refl _) w hT)
  have K3 := Lib.hid (con_big bF 12 (by omega) flo (fun i _ => flo_in i) w hF)
  clear hN hW hT hF
  go_enter Tryz.func103, Tryz.ntmps103
  go_wp2_with (first | (go_at_call 6; ((with_reducible refine (KC.out).mono ?_)); rintro e w' ⟨rfl, rfl⟩) | (go_at_call 7; ((with_reducible refine (KE.out).mono ?_)); rintro e w' ⟨rfl, rfl⟩) | (go_at_call 69; ((with_reducible refine (K1.out).mono ?_)); rintro e w' ⟨rfl, rfl⟩) | (go_at_call 69; ((with_reducible refine (K2.out).mono ?_)); rintro e w' ⟨rfl, rfl⟩) | (go_at_call 69; ((with_reducible refine (K3.out).mono ?_)); rintro e w' ⟨rfl, rfl⟩))
  go_ret
  exact ⟨rfl, rfl⟩
theorem and_small {g : Int} (h0 : 0 ≤ g) (h1 : g ≤ 4000000000) : bits .and .u64 g 4294967295 = g := by
  obtain ⟨Z, rfl⟩ := Int.eq_ofNat_of_zero_le h0
  have e := u64_and_nat Z 4294967295 (by omega) (by omega)
  have e2 : Z &&& 4294967295 = Z % 4294967296 := Nat.and_two_pow_sub_one_eq_mod Z 32
  rw [e2] at e
  rw [show ((4294967295 : Nat) : Int) = 4294967295 from rfl] at e
  rw [e]; omega
theorem mul_none (g : Int) (h0 : 0 ≤ g) (h1 : g ≤ 4000000000) (w : World) :
    Calls Tryz.prog 113 #[.int .u64 0, .int .u64 g] w fun e w' => e = .returned (.tuple #[.int .u64 0, .int .u64 0]) ∧ w = w' := by
  have k1 := and_small h0 h1
  have k2 := and_small (g := 0) (by omega) (by omega)
  have k3 : g / 4294967296 = 0 := by omega
  go_enter Tryz.func113, Tryz.ntmps113
  go_wp2
  refine bodyPost_ret (results_tmp2 rfl _ _ _) rfl ?_
  exact ⟨rfl, rfl⟩
theorem div_none (z : Int) (h0 : 1 ≤ z) (h1 : z ≤ 4000000000) (w : World) :
    Calls Tryz.prog 114 #[.int .u64 0, .int .u64 0, .int .u64 z] w fun e w' => e = .returned (.tuple #[.int .u64 0, .int .u64 0]) ∧ Below w.heap.size w w' := by
  have k1 : (z == 0) = false := by simp; omega
  have k2 : decide (z ≤ 0) = false := decide_eq_false (by omega)
  have k3 : (0 : Int) / z = 0 := Int.zero_ediv z
  have k4 : (0 : Int) % z = 0 := Int.zero_emod z
  have k5 : z ≠ 0 := by omega
  go_enter Tryz.func114, Tryz.ntmps114
  go_wp2
  go_quiet (fail)
  go_wp2
  refine bodyPost_ret (results_tmp2 rfl _ _ _) rfl ?_
  exact ⟨rfl, below_drewN (Below.refl _ _) _⟩
theorem part_none (g z : Int) (h0 : 0 ≤ g) (h1 : g ≤ 4000000000) (z0 : 1 ≤ z) (z1 : z ≤ 4000000000) (w : World) :
    Calls Tryz.prog 78 #[.int .i64 0, .int .i64 g, .int .i64 z] w fun e w' => e = .returned (.int .i64 0) ∧ Below w.heap.size w w' := by
  have KM := Lib.hid (mul_none g h0 h1 w)
  have KD := Lib.hid (div_none z z0 z1 w)
  have k2 : decide (z ≤ 0) = false := decide_eq_false (by omega)
  go_enter Tryz.func78, Tryz.ntmps78
  go_wp2_with (first | (go_at_call 113; ((with_reducible refine (KM.out).mono ?_)); rintro e w' ⟨rfl, rfl⟩) | (go_at_call 114; ((with_reducible refine (KD.out).mono ?_)); rintro e w' ⟨rfl, hB1⟩))
  go_ret
  exact ⟨rfl, hB1⟩
theorem takes_ok (b : Nat) (q water : Int) (h0 : 0 ≤ q) (h1 : q ≤ 214249) (h2 : 4 * q ≤ water) (h3 : water ≤ 1433053866) (h4 : 1 ≤ water) (w : World) (hl : b < w.heap.size) (hb : IW w b 4 (fun _ => q)) :
    Calls Tryz.prog 104 #[.int .i64 water, .int .i64 0, .slice (some ⟨b, 0, none⟩) 4 4] w fun e w' => ∃ b', e = .returned (.tuple #[.slice (some ⟨b', 0, none⟩) 4 4, .int .i64 0]) ∧ Below w.heap.size w w' ∧ w.heap.size ≤ b' ∧ b' < w'.heap.size ∧ IW w' b' 4 (fun _ => 0) := by
  have HB := Lib.hid hb
  have hmk := make_i4
  clear hb
  go_enter Tryz.func104, Tryz.ntmps104
  go_wp2_with fail
  clear hmk
  have h0' : Below w.heap.size w (w.alloc (Obj.cells #[Value.int IntKind.i64 0, Value.int IntKind.i64 0, Value.int IntKind.i64 0, Value.int IntKind.i64 0] 2)) ∧ w.heap.size < (w.alloc (Obj.cells #[Value.int IntKind.i64 0, Value.int IntKind.i64 0, Value.int IntKind.i64 0, Value.int IntKind.i64 0] 2)).heap.size ∧ (∀ o, (w.alloc (Obj.cells #[Value.int IntKind.i64 0, Value.int IntKind.i64 0, Value.int IntKind.i64 0, Value.int IntKind.i64 0] 2)).frozen? ⟨w.heap.size, o, none⟩ = false) ∧
      IW (w.alloc (Obj.cells #[Value.int IntKind.i64 0, Value.int IntKind.i64 0, Value.int IntKind.i64 0, Value.int IntKind.i64 0] 2)) w.heap.size 4 (fun _ => 0) := by
    refine ⟨by (repeat' (first | with_reducible assumption | with_reducible exact Nat.le_refl _ | with_reducible refine Below.setCell ?_ ?_ _ | with_reducible refine Below.drew ?_ | with_reducible refine Below.alloc ?_ ?_ _ | with_reducible exact Below.refl _ _ | omega | (simp; done) | (simp; omega))), by simp, fun o => by simp [go_sem], fun i hi => ?_⟩
    obtain rfl | rfl | rfl | rfl : i = 0 ∨ i = 1 ∨ i = 2 ∨ i = 3 := by omega
    all_goals simp [go_sem]
  generalize w.alloc (Obj.cells #[Value.int IntKind.i64 0, Value.int IntKind.i64 0, Value.int IntKind.i64 0, Value.int IntKind.i64 0] 2) = W at h0' ⊢
  have H0 := Lib.hid h0'
  clear h0'
  obtain ⟨A, hA⟩ : ∃ A, A = w.heap.size := ⟨_, rfl⟩
  have HA := Lib.hid hA
  rw [← hA] at H0 ⊢
  clear hA
  go_loopw [25, 9, 10] (fun i s t wr => ∃ k : Nat, k ≤ 4 ∧ i = .int .i64 k ∧ s = .int .i64 (k * q) ∧ t = .int .i64 0 ∧ Below w.heap.size w wr ∧ A < wr.heap.size ∧ (∀ o, wr.frozen? ⟨A, o, none⟩ = false) ∧ IW wr A 4 (fun _ => 0)) (fun i _ _ _ => 4 - (intOf i).toNat)
  case atStart => exact ⟨0, by omega, rfl, by simp, rfl, by have h := H0.out.1; rw [HA.out] at h; exact h, H0.out.2.1, H0.out.2.2.1, H0.out.2.2.2⟩
  case round =>
    clear H0
    obtain ⟨k, hk, rfl, rfl, rfl, hB, hl2, hf, hI⟩ := hrel
    by_cases hlt : k < 4
    · have c0 := (hB.cell (p := ⟨b, k, none⟩) hl).trans (HB.out k hlt)
      have c1 : wr.cell? ⟨A, k, none⟩ = some (.int .i64 0) := hI k hlt
      have f1 := hf k
      obtain ⟨s, hs⟩ : ∃ s : Int, s = k * q := ⟨_, rfl⟩
      have hs0 : 0 ≤ s := by rw [hs]; exact Int.mul_nonneg (by omega) h0
      have hs1 : s + q ≤ water := by
        obtain rfl | rfl | rfl | rfl : k = 0 ∨ k = 1 ∨ k = 2 ∨ k = 3 := by omega
        all_goals simp at hs; omega
      have HS : Hid (s + q = ((k + 1 : Nat) : Int) * q) := Lib.hid (by rw [hs]; push_cast; rw [Int.add_mul]; omega)
      rw [← hs]
      clear hs
      have KP := Lib.hid (part_none (s + q) water (by omega) (by omega) (by omega) (by omega))
      have HR := Lib.hid (⟨hB, hl2, hf, hI⟩ : _ ∧ _ ∧ _ ∧ _)
      clear hB hl2 hf hI c1 f1
      go_wp2_with (first | ((first | (go_at_call 78; ((with_reducible refine (KP.out _).mono ?_)); rintro e w4 ⟨rfl, hB4⟩)); have c1 : w4.cell? ⟨A, k, none⟩ = some (.int .i64 0) := (hB4.cell (p := ⟨A, k, none⟩) HR.out.2.1).trans (HR.out.2.2.2 k hlt); have f1 := (hB4.frozen (p := ⟨A, k, none⟩) HR.out.2.1).trans (HR.out.2.2.1 k); have HB4 := Lib.hid hB4; clear hB4 c0))
      go_roundw
      case rel =>
        have b4 := HB4.out
        obtain ⟨hB, hl2, hf, hI⟩ := HR.out
        exact ⟨k + 1, by omega, by go_num, by rw [HS.out], rfl, (hB.trans (b4.mono hB.size)).setCell (by rw [HA.out]; exact Nat.le_refl _) _, by rw [World.size_setCell]; exact Nat.lt_of_lt_of_le hl2 b4.size,
          fun o => by rw [World.frozen?_setCell]; exact (b4.frozen (p := ⟨A, o, none⟩) hl2).trans (hf o), ((hI.below hl2 b4).set k 0).same fun i _ => by split <;> rfl⟩
      case measure => simp [intOf]; omega
    · have hE : k = 4 := by omega
      subst hE
      go_wp2
      refine bodyPost_ret (results_tmp2 rfl _ _ _) rfl ?_
      exact ⟨A, rfl, hB, by rw [HA.out]; exact Nat.le_refl _, hl2, hI⟩
end Go.Proofs.YtkjjecghbhppgaaGreatDoor
