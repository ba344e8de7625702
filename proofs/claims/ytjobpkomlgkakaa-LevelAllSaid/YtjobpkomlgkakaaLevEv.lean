/- The statement LevelAll: every call as the reference. -/
import Derived.Test.YtjobpkomlgkakaaLevAll
import Derived.Test.YtjobpkomlgkakaaOpenV
import Derived.Deep.QuietTactic
import Derived.BigQuiet
import Derived.ProofKit
namespace Go.Proofs.Ytjobpkomlgkakaa
open Go.RowKit TF

theorem run_store_float (P : Program) (w : World) (a : Addr) (m : Mode) (k : FloatKind) (n : Nat) : (store a (.float k n) m).run P w = stored P w a (.float k n) m := run_store P w a _ m rfl
attribute [local go_sem] run_store_float cmp_eq cmp_ne cmp_lt cmp_gt cmp_le cmp_ge

theorem quiet_eq {P : Program} {f : FuncId} {args : Array Value} {w : World} {n : Nat} {v : Value}
    (h : Calls P f args (w.drewN n) fun e w' => e = .returned v ∧ w.drewN n = w') : Calls P f args (w.drewN n) fun e w'' => e = .returned v ∧ ∃ m, w'' = w.drewN m :=
  h.mono fun _ _ ⟨he, hm⟩ => ⟨he, n, hm.symm⟩

set_option maxRecDepth 100000 in
set_option maxHeartbeats 4000000 in
theorem levelAll_walk (A : Option Addr) (len cap : Nat) (os : Nat → LevOp) (w : World) (hm : len ≤ 9223372036854775807) (hp : LevOps w A len os) :
    Calls Try.prog 3 #[.slice A len cap] w fun e w' => e = .returned (.bool true) ∧ Below w.heap.size w w' := by
  have hw0 : Below w.heap.size w w := Below.refl _ _
  have s1 := sameB_self
  by_cases hbig : 1048576 < len
  · clear hp s1
    go_enter Try.func3, Try.ntmps3
    go_wp2_with (first | (go_at_call 7; ((with_reducible refine (awake_any _).mono ?_)); rintro e w' ⟨rfl, n, rfl⟩))
    go_ret
    exact ⟨rfl, below_drewN hw0 _⟩
  have hb2 : decide (1048576 < (len : Int)) = false := decide_eq_false (by omega)
  go_enter Try.func3, Try.ntmps3
  go_wp2_with (first | (go_at_call 7; ((with_reducible refine (awake_any _).mono ?_)); rintro e w' ⟨rfl, n, rfl⟩))
  go_loopw [3, 4] (fun o i wr => ∃ k : Nat, k ≤ len ∧ o = .bool true ∧ i = .int .i64 k ∧ Below w.heap.size w wr) (fun _ i _ => len - (intOf i).toNat)
  case atStart => exact ⟨0, Nat.zero_le _, rfl, rfl, below_drewN hw0 _⟩
  case round =>
    obtain ⟨k, hk, rfl, rfl, hw⟩ := hrel
    by_cases hlt : k < len
    · obtain ⟨b, off, rfl, hbl, hc0, hc1, hc2, hc3, hx, hy, hz, hu⟩ := hp k hlt
      have d0 := hw.cell (p := ⟨b, off + k * 4, none⟩) hbl
      have d1 := hw.cell (p := ⟨b, off + k * 4 + 1, none⟩) hbl
      have d2 := hw.cell (p := ⟨b, off + k * 4 + 2, none⟩) hbl
      have d3 := hw.cell (p := ⟨b, off + k * 4 + 3, none⟩) hbl
      rw [hc0] at d0
      rw [hc1] at d1
      rw [hc2] at d2
      rw [hc3] at d3
      clear hp hc0 hc1 hc2 hc3
      have ha := int_hi hy
      have hb := int_hi hz
      clear hy hz
      generalize hO : os k = o at *
      obtain ⟨bed, water, area, level⟩ := o
      clear hO
      go_wp2
      go_quiet ((first | (go_at_call 9; exact quiet_eq (depth_any _ _ ha hb _)) | (go_at_call 10; exact quiet_eq (rdepth_any _ _ ha hb _)) | (go_at_call 11; exact Calls.quiet_of (level_any _ _ _ ha hb _)) | (go_at_call 12; exact Calls.quiet_of (rlevel_any _ _ _ ha hb _)) | (go_at_call 13; exact quiet_eq (fill_any _ _ _ hx hb _)) | (go_at_call 14; exact quiet_eq (rfill_any _ _ _ hx hb _)) | (go_at_call 8; exact quiet_eq (rsame_any _ _ _))))
      go_wp2
      go_roundw
      case rel => exact ⟨k + 1, by omega, rfl, by go_num, below_drewN (hw.alloc hw.size _) _⟩
      case measure => simp [intOf]; omega
    · go_wp2
      go_ret
      exact ⟨rfl, hw⟩

theorem open_rows {H : Type} {enc : TypeId × Value → H} {w : World} {r : Reach} {b0 base : Nat} {spare : Nat → Bool} {held : Bool} {v : Value} {d : DataW H} {p : List MemPlace}
    (hv : Value.okWide Try.prog w r b0 22 v) (h : DataW.Trod enc Try.prog w base spare held 22 v d p) :
    ∃ A l c xs, v = .slice A l c ∧ l ≤ 9223372036854775807 ∧ LevOps w A l xs := by
  obtain ⟨A, l, c, rfl⟩ := Go.WideShapes.okWide_slice Try.underlying22 hv
  obtain ⟨A', l', c', os, e, hl, hm, hp⟩ := open_levops Try.underlying22 Try.underlying26 (by kernel_rfl) (by kernel_rfl) Try.underlying24 Try.underlying2 Try.underlying2 Try.underlying24 rfl h
  obtain ⟨rfl, rfl, rfl⟩ : A = A' ∧ l = l' ∧ c = c' := by simpa using e
  exact ⟨A, l, c, os, rfl, by unfold maxLen at hm; omega, hp⟩
end Go.Proofs.Ytjobpkomlgkakaa
