/- The statement ConvAll: every call as the reference. -/
import Derived.Test.YthncemlldkdkiaaConvK
import Derived.Test.YthncemlldkdkiaaConvS
import Derived.Test.YthncemlldkdkiaaOpenC
import Derived.Deep.QuietTactic
import Derived.BigQuiet
import Derived.ProofKit
namespace Go.Proofs.Ythncemlldkdkiaa
open Go.RowKit TF

theorem run_store_float (P : Program) (w : World) (a : Addr) (m : Mode) (k : FloatKind) (n : Nat) : (store a (.float k n) m).run P w = stored P w a (.float k n) m := run_store P w a _ m rfl
attribute [local go_sem] run_store_float cmp_eq cmp_ne cmp_lt cmp_gt cmp_le cmp_ge

theorem quiet_eq2 {P : Program} {f : FuncId} {args : Array Value} {w : World} {n a : Nat} {v : Value}
    (h : Calls P f args (w.drewN (n + a)) fun e w' => e = .returned v ∧ w.drewN (n + a) = w') : Calls P f args (w.drewN (n + a)) fun e w'' => e = .returned v ∧ ∃ m, w'' = w.drewN (n + m) :=
  h.mono fun _ _ ⟨he, hm⟩ => ⟨he, a, hm.symm⟩

set_option maxRecDepth 100000 in
set_option maxHeartbeats 4000000 in
theorem convAll_walk (A : Option Addr) (len cap : Nat) (os : Nat → ConvOp) (w : World) (hm : len ≤ 9223372036854775807) (hp : ConvOps w A len os) :
    Calls Try.prog 3 #[.slice A len cap] w fun e w' => e = .returned (.bool true) ∧ Below w.heap.size w w' := by
  have hw0 : Below w.heap.size w w := Below.refl _ _
  have s1 := sameB_self
  have hdr : ∀ (wr : World) (n : Nat), Below w.heap.size w wr → Below w.heap.size w (wr.drewN n) := fun wr n h => ⟨h.os, h.tape, h.output, h.size, h.block⟩
  have HDR := Lib.hid hdr
  clear hdr
  by_cases hbig : 1048576 < len
  · clear hp s1
    go_enter Try.func3, Try.ntmps3
    go_wp2_with (first | (go_at_call 9; ((with_reducible refine (awake_any _).mono ?_)); rintro e w' ⟨rfl, n, rfl⟩))
    go_ret
    exact ⟨rfl, HDR.out _ _ hw0⟩
  have hb2 : decide (1048576 < (len : Int)) = false := decide_eq_false (by omega)
  go_enter Try.func3, Try.ntmps3
  go_wp2_with (first | (go_at_call 9; ((with_reducible refine (awake_any _).mono ?_)); rintro e w' ⟨rfl, n, rfl⟩))
  go_loopw [3, 4] (fun o i wr => ∃ k : Nat, k ≤ len ∧ o = .bool true ∧ i = .int .i64 k ∧ Below w.heap.size w wr) (fun _ i _ => len - (intOf i).toNat)
  case atStart => exact ⟨0, Nat.zero_le _, rfl, rfl, HDR.out _ _ hw0⟩
  case round =>
    obtain ⟨k, hk, rfl, rfl, hw⟩ := hrel
    by_cases hlt : k < len
    · obtain ⟨b, off, rfl, hbl, hc0, hc1, hc2, hc3, hc4, hok⟩ := hp k hlt
      have d0 := hw.cell (p := ⟨b, off + k * 5, none⟩) hbl
      have d1 := hw.cell (p := ⟨b, off + k * 5 + 1, none⟩) hbl
      have d2 := hw.cell (p := ⟨b, off + k * 5 + 2, none⟩) hbl
      have d3 := hw.cell (p := ⟨b, off + k * 5 + 3, none⟩) hbl
      have d4 := hw.cell (p := ⟨b, off + k * 5 + 4, none⟩) hbl
      rw [hc0] at d0
      rw [hc1] at d1
      rw [hc2] at d2
      rw [hc3] at d3
      rw [hc4] at d4
      clear hp hc0 hc1 hc2 hc3 hc4
      generalize hO : os k = o at *
      obtain ⟨x, most, i, b32, h16⟩ := o
      obtain ⟨hx, m1, m2, i1, i2, b1, b2, h1, h2⟩ := hok
      dsimp only at hx m1 m2 i1 i2 b1 b2 h1 h2 d0 d1 d2 d3 d4
      clear hO
      go_wp2_with (first | (go_at_call 10; ((with_reducible refine (round_any _ (by assumption) _).mono ?_)); rintro e w' ⟨rfl, rfl⟩) | (go_at_call 11; ((with_reducible refine (rround_any _ (by assumption) _).mono ?_)); rintro e w' ⟨rfl, rfl⟩) | (go_at_call 12; ((with_reducible refine (floor_conv _ _).mono ?_)); rintro e w' ⟨rfl, n, rfl⟩) | (go_at_call 13; ((with_reducible refine (rfloor_any _ (by assumption) _).mono ?_)); rintro e w' ⟨rfl, rfl⟩))
      simp only [List.append_eq, List.cons_append, List.nil_append]
      go_quiet ((first | (go_at_call 14; exact quiet_eq2 (clamp_any _ _ hx m2 _)) | (go_at_call 15; exact quiet_eq2 (rclamp_any _ _ hx m2 _)) | (go_at_call 17; exact quiet_eq2 (fromint_any _ _)) | (go_at_call 18; exact quiet_eq2 (rfromint_any _ i1 i2 _)) | (go_at_call 19; exact quiet_eq2 (to32_any _ hx _)) | (go_at_call 20; exact quiet_eq2 (rto32_any _ hx _)) | (go_at_call 23; exact quiet_eq2 (to16_any _ hx _)) | (go_at_call 24; exact quiet_eq2 (rto16_any _ hx _)) | (go_at_call 21; exact quiet_eq2 (from32_any _ b1 b2 _)) | (go_at_call 22; exact quiet_eq2 (rfrom32_any _ b1 b2 _)) | (go_at_call 25; exact quiet_eq2 (from16_any _ h1 h2 _)) | (go_at_call 26; exact quiet_eq2 (rfrom16_any _ h1 h2 _)) | (go_at_call 16; exact quiet_eq2 (rsame_any _ _ _))))
      go_wp2
      go_roundw
      case rel => exact ⟨k + 1, by omega, rfl, by go_num, by first | exact HDR.out _ _ (HDR.out _ _ (hw.alloc hw.size _)) | exact HDR.out _ _ (hw.alloc hw.size _)⟩
      case measure => simp [intOf]; omega
    · go_wp2
      go_ret
      exact ⟨rfl, hw⟩

theorem open_rows {H : Type} {enc : TypeId × Value → H} {w : World} {r : Reach} {b0 base : Nat} {spare : Nat → Bool} {held : Bool} {v : Value} {d : DataW H} {p : List MemPlace}
    (hv : Value.okWide Try.prog w r b0 22 v) (h : DataW.Trod enc Try.prog w base spare held 22 v d p) :
    ∃ A l c xs, v = .slice A l c ∧ l ≤ 9223372036854775807 ∧ ConvOps w A l xs := by
  obtain ⟨A, l, c, rfl⟩ := Go.WideShapes.okWide_slice Try.underlying22 hv
  obtain ⟨A', l', c', os, e, hl, hm, hp⟩ := open_convops Try.underlying22 Try.underlying28 (by kernel_rfl) (by kernel_rfl) Try.underlying24 Try.underlying2 Try.underlying2 Try.underlying25 Try.underlying26 rfl h
  obtain ⟨rfl, rfl, rfl⟩ : A = A' ∧ l = l' ∧ c = c' := by simpa using e
  exact ⟨A, l, c, os, rfl, by unfold maxLen at hm; omega, hp⟩
end Go.Proofs.Ythncemlldkdkiaa
