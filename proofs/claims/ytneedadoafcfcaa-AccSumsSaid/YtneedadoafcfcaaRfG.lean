/- The reference's bit and Value. -/
import Derived.Test.YtneedadoafcfcaaRfE
namespace Go.Proofs.Ytneedadoafcfcaa
open Go Go.RowKit TF

attribute [local go_sem] cmp_eq cmp_ne cmp_lt cmp_gt cmp_le cmp_ge

set_option maxRecDepth 100000 in
theorem rbit_any (L : Nat) (d : Nat → Int) (N : Nat) (w : World) (h : ArrAt w L d) (D : DigR d N) (a : Int) (a0 : 0 ≤ a) (a9 : a < 4352) (r : Int) (hr : r = ((N / 2 ^ a.toNat % 2 : Nat) : Int)) :
    Calls Try.prog 45 #[.pointer (some ⟨L, 0, none⟩), .int .i64 a] w fun e w' => e = .returned (.int .u64 r) ∧ w = w' := by
  obtain ⟨k, hk⟩ : ∃ k : Nat, (k : Int) = a / 32 := ⟨(a / 32).toNat, by omega⟩
  obtain ⟨s, hs⟩ : ∃ k : Nat, (k : Int) = a % 32 := ⟨(a % 32).toNat, by omega⟩
  obtain ⟨c, -⟩ := h.cell (i := k) (by omega)
  have bl := h.lt
  have hb := D.bit (k := k) (r := s) (by omega) (by omega)
  rw [show 32 * k + s = a.toNat by omega, ← hr] at hb
  have hd := D.ok.r k
  obtain ⟨U, hU⟩ : ∃ U, U = d k := ⟨_, rfl⟩
  rw [← hU] at c hb hd
  have e1 : a.tdiv 32 = k := by rw [Int.tdiv_eq_ediv_of_nonneg a0]; omega
  have e2 : a.tmod 32 = s := by rw [Int.tmod_eq_emod_of_nonneg a0]; omega
  have hp := Nat.two_pow_pos s
  obtain ⟨z, hz⟩ : ∃ z, z = U / 2 ^ s := ⟨_, rfl⟩
  have hz2 := hz.symm
  have hpi : (0 : Int) < 2 ^ s := Int.pow_pos (by decide)
  have z0 : 0 ≤ z := by rw [hz]; exact Int.ediv_nonneg hd.1 (by omega)
  have z9 : z < 4294967296 := by rw [hz]; exact Int.lt_of_le_of_lt (Int.ediv_le_self _ hd.1) hd.2
  have hm : z.tmod 2 = r := by
    rw [Int.tmod_eq_emod_of_nonneg z0, hb, hz, Int.natCast_pow]; rfl
  have k9 : (k : Int) < 136 := by omega
  have s9 : s < 32 := by omega
  obtain ⟨u0, u9⟩ := hd
  clear h D hr hb hU hz hp hpi hk hs
  go_enter Try.func45, Try.ntmps45
  go_wp2_with fail
  go_ret
  exact ⟨rfl, rfl⟩
set_option maxRecDepth 100000 in
theorem rvalue_nil (w : World) :
    Calls Try.prog 25 #[.pointer none] w fun e w' => e = .returned (.float .f64 0) ∧ w = w' := by
  go_enter Try.func25, Try.ntmps25
  go_wp2_with fail
  go_ret
  exact ⟨rfl, rfl⟩
set_option maxRecDepth 100000 in
theorem rvalue_odd (b : Nat) (s : RefS) (w : World) (h : RefAt w b s) (r : Nat) (hc : s.cnt = 0 ∧ r = 0 ∨ (s.cnt == 0) = false ∧ (s.no = true ∧ r = 9221120237041090561 ∨ s.no = false ∧ (s.pl = true ∧ s.mi = true ∧ r = 9221120237041090561 ∨ s.pl = true ∧ s.mi = false ∧ r = 9218868437227405312 ∨ s.pl = false ∧ s.mi = true ∧ r = 18442240474082181120 ∨ s.pl = false ∧ s.mi = false ∧ s.ot = false ∧ r = 9223372036854775808))) :
    Calls Try.prog 25 #[.pointer (some ⟨b, 0, none⟩)] w fun e w' => e = .returned (.float .f64 r) ∧ ∃ n, w' = w.drewN n := by
  obtain ⟨c1, -⟩ := h.cnt
  obtain ⟨c2, -⟩ := h.ot
  obtain ⟨c3, -⟩ := h.pl
  obtain ⟨c4, -⟩ := h.mi
  obtain ⟨c5, -⟩ := h.no
  have bl := h.lt
  clear h
  obtain ⟨C, hC⟩ : ∃ C, C = s.cnt := ⟨_, rfl⟩
  rw [← hC] at c1 hc
  clear hC
  obtain ⟨rfl, rfl⟩ | ⟨h0, ⟨h1, rfl⟩ | ⟨h1, ⟨h2, h3, rfl⟩ | ⟨h2, h3, rfl⟩ | ⟨h2, h3, rfl⟩ | ⟨h2, h3, h4, rfl⟩⟩⟩ := hc
  · go_enter Try.func25, Try.ntmps25
    go_wp2_with fail
    go_ret
    exact ⟨rfl, 0, rfl⟩
  · rw [h1] at c5
    clear h1
    go_enter Try.func25, Try.ntmps25
    go_wp2_with (go_at_call 15; ((with_reducible refine (from_any _ _).mono ?_)); rintro e w' ⟨rfl, rfl⟩)
    go_ret
    exact ⟨rfl, 0, rfl⟩
  all_goals
    rw [h1] at c5
    rw [h2] at c3
    rw [h3] at c4
    try rw [h4] at c2
    clear h1 h2 h3
    go_enter Try.func25, Try.ntmps25
    go_wp2_with (go_at_call 15; ((with_reducible refine (from_any _ _).mono ?_)); rintro e w' ⟨rfl, rfl⟩)
    go_ret
    exact ⟨rfl, 0, rfl⟩
end Go.Proofs.Ytneedadoafcfcaa
