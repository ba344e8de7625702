/- The statement RainKept: what there was is there. -/
import Derived.Test.YtbjkofjkpfgimaaRainE
import Derived.Test.YtbjkofjkpfgimaaRainP
import Derived.Test.YtbjkofjkpfgimaaOpenW
namespace Go.Proofs.Ytbjkofjkpfgimaa
open Go Go.RowKit TF

/-- the four cells of the weather's box. -/
theorem box_cells (A : Option Addr) (n cap : Nat) (s : Int) (R : Option Addr) (m cap2 : Nat) (st : Int) (t : TypeId) (w : World) :
    ∀ x : World, Below (w.alloc (.cells #[.slice A n cap, .int .i64 s, .slice R m cap2, .int .i64 st] t)).heap.size (w.alloc (.cells #[.slice A n cap, .int .i64 s, .slice R m cap2, .int .i64 st] t)) x →
      x.cell? ⟨w.heap.size, 0, none⟩ = some (.slice A n cap) ∧ x.cell? ⟨w.heap.size, 1, none⟩ = some (.int .i64 s) ∧ x.cell? ⟨w.heap.size, 2, none⟩ = some (.slice R m cap2) ∧ x.cell? ⟨w.heap.size, 3, none⟩ = some (.int .i64 st) := by
  intro x h
  have hl : w.heap.size < (w.alloc (.cells #[.slice A n cap, .int .i64 s, .slice R m cap2, .int .i64 st] t)).heap.size := by simp
  refine ⟨?_, ?_, ?_, ?_⟩ <;> rw [h.cell (p := ⟨w.heap.size, _, none⟩) hl, World.cell?_alloc_new] <;> rfl

set_option maxHeartbeats 4000000 in
theorem rainKept_walk (A : Option Addr) (n cap : Nat) (Z : Nat → Int) (s : Int) (R : Option Addr) (m cap2 : Nat) (C Am F T : Nat → Int) (st : Int) (w : World) (hW : WeatherAt w A n cap Z s R m cap2 C Am F T st) :
    Calls Try.prog 4 #[.agg #[.slice A n cap, .int .i64 s, .slice R m cap2, .int .i64 st]] w fun e w' => e = .returned (.bool true) ∧ Below w.heap.size w w' := by
  have KB := Lib.hid (box_cells A n cap s R m cap2 st 25 w)
  have hn9 := hW.n8
  cases hq : refuseB n Z s m C Am F T st with
  | true =>
    go_enter Try.func4, Try.ntmps4
    go_wp2_with (first | (go_at_call 9; ((with_reducible refine (awake_any _).mono ?_)); rintro e wa ⟨rfl, hBa⟩; obtain ⟨a0, a1, a2, a3⟩ := KB.out _ hBa) | (go_at_call 12; ((with_reducible refine (fall_bad A n cap Z s R m cap2 C Am F T st wa hW.n8 hW.m9 (hW.hz.below (past1 hBa)) (hW.hr.below (past1 hBa)) hq).mono ?_)); rintro e wb ⟨rfl, hBb⟩; obtain ⟨b0, b1, b2, b3⟩ := KB.out _ (join hBa hBb)))
    go_ret
    exact ⟨rfl, past1 (join hBa hBb)⟩
  | false =>
    obtain ⟨-, ⟨t2, t3⟩, t4, t5, t6⟩ := taken hq
    have hbd := rs_bnd (st := st) t6 t5 t2 t3 m (Nat.le_refl _)
    have hkp := rs_kept (st := st) (Z := Z) (s := s) t6 m (Nat.le_refl _)
    obtain ⟨S, hS⟩ : ∃ S, S = rsS st C Am F T Z s m := ⟨_, rfl⟩
    obtain ⟨Y, hY⟩ : ∃ Y, Y = rsZ st C Am F T Z s m := ⟨_, rfl⟩
    rw [← hS, ← hY] at hbd hkp
    have hFOK : ∀ x : World, Below w.heap.size w x → Calls Try.prog 12 #[.slice A n cap, .int .i64 s, .slice R m cap2, .int .i64 st] x fun e w' => FallP x n Y S e w' := fun x h => by
      rw [hS, hY]; exact fall_ok A n cap Z s R m cap2 C Am F T st x hW.n8 (fun h => (hW.hnil h).1) (hW.hz.below h) (hW.hr.below h) hq
    have FOK := Lib.hid hFOK
    clear hFOK hS hY hq t4 t6
    obtain ⟨hb1, hb2, hb3⟩ := hbd
    by_cases hbig : 1024 < n
    · clear hkp hb1 t5
      go_enter Try.func4, Try.ntmps4
      go_wp2_with (first | (go_at_call 9; ((with_reducible refine (awake_any _).mono ?_)); rintro e wa ⟨rfl, hBa⟩; obtain ⟨a0, a1, a2, a3⟩ := KB.out _ hBa) | (go_at_call 12; ((with_reducible refine (FOK.out wa (past1 hBa)).mono ?_)); rintro e wb ⟨L, capL, rfl, hcL, hO, hBb⟩; obtain ⟨b0, b1, b2, b3⟩ := KB.out _ (join hBa hBb)))
      go_ret
      exact ⟨rfl, past1 (join hBa hBb)⟩
    · have hn1 : n ≤ 1024 := by omega
      have hz0 := Lib.hid (sumI_bnd t5)
      have hz1 := Lib.hid (fun k (hk : k < n) => t5 k hk)
      have hy0 := Lib.hid (fun k (hk : k < n) => (hb1 k hk).1)
      have hy1 := Lib.hid (fun k (hk : k ≤ n) => sumI_mono (Z := Y) (fun i hi => (hb1 i hi).1) k (n - k) (by omega))
      have hy2 := Lib.hid (fun k (hk : k ≤ n) => sumI_mono (Z := Y) (fun i hi => (hb1 i hi).1) 0 k (by omega))
      have hkp := Lib.hid hkp
      clear t5 hb1
      go_enter Try.func4, Try.ntmps4
      go_wp2_with (first | (go_at_call 9; ((with_reducible refine (awake_any _).mono ?_)); rintro e wa ⟨rfl, hBa⟩; obtain ⟨a0, a1, a2, a3⟩ := KB.out _ hBa) | (go_at_call 12; ((with_reducible refine (FOK.out wa (past1 hBa)).mono ?_)); rintro e wb ⟨L, capL, rfl, hcL, hO, hBb⟩; obtain ⟨b0, b1, b2, b3⟩ := KB.out _ (join hBa hBb)))
      go_loopw [6, 7, 8] (fun x y i wr => ∃ k : Nat, k ≤ n ∧ x = .int .i64 (s + sumI Z k) ∧ y = .int .i64 (S + sumI Y k) ∧ i = .int .i64 k ∧ Below wb.heap.size wb wr) (fun _ _ i _ => n - (intOf i).toNat)
      case atStart => exact ⟨0, Nat.zero_le _, by simp [sumI], by simp [sumI], rfl, Below.refl _ _⟩
      case round =>
        obtain ⟨k, hk, rfl, rfl, rfl, hB⟩ := hrel
        obtain ⟨g0, g1, g2, g3⟩ := KB.out _ (join (join hBa hBb) hB)
        by_cases hlt : k < n
        · have hl : (k : Int) < (n : Int) := by omega
          obtain ⟨bz, oz, rfl, hbz, hcz⟩ := hW.hz.below (past1 (join (join hBa hBb) hB)) k hlt
          obtain ⟨bl, ol, rfl, hbl, hcl⟩ := hO.ints.below hB k hlt
          obtain ⟨v1, v2⟩ := hz1.out k hlt
          have v3 := hy0.out k hlt
          obtain ⟨z1, z2⟩ := hz0.out k (by omega)
          obtain ⟨z3, z4⟩ := hz0.out (k + 1) (by omega)
          obtain ⟨z5, z6⟩ := hz0.out n (by omega)
          have y1 := hy1.out (k + 1) (by omega)
          rw [show k + 1 + (n - (k + 1)) = n by omega] at y1
          have y2 := hy2.out k (by omega)
          rw [Nat.zero_add] at y2
          have y3 := hy2.out (k + 1) (by omega)
          have hk2 := hkp.out
          simp only [sumI] at y1 y2 y3 z3 z4
          have q1 : s + sumI Z k ≤ 4616189618054758400 := by omega
          have q2 : s + sumI Z k + Z k ≤ 4620693217682128896 := by omega
          have q3 : S + sumI Y k + Y k ≤ 4620693217682128896 := by omega
          have q4 : 0 ≤ s + sumI Z k := by omega
          have q5 : 0 ≤ S + sumI Y k := by omega
          clear hk2 y1 y2 y3 z1 z2 z3 z4 z5 z6
          go_wp2
          go_roundw
          case rel => exact ⟨k + 1, by omega, by simp only [sumI]; go_num, by simp only [sumI]; go_num, by go_num, hB⟩
          case measure => simp [intOf]; omega
        · have hkn : k = n := by omega
          subst hkn
          have hk2 := hkp.out
          go_wp2
          go_ret
          exact ⟨by rw [hk2]; simp, past1 (join (join hBa hBb) hB)⟩
end Go.Proofs.Ytbjkofjkpfgimaa
