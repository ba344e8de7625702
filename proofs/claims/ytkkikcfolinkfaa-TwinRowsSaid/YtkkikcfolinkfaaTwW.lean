/- Words in memory: add, carried. -/
import Derived.Test.YtkkikcfolinkfaaTwE
import Derived.Test.YtkkikcfolinkfaaTwinWd
import Derived.Deep.RegionHeld3
import Derived.Deep.WholeRow
import Derived.Laws.CopyOwn
import Derived.Lib.Hide
namespace Go.Proofs.Ytkkikcfolinkfaa
open Go Go.RowKit TF

def ZA : Array Value := Array.replicate 150 (.int .u64 0)
theorem zero43 : ∀ w : World, (zeroValue 43).run Try.prog w = .ok (.agg ZA) w := fun _ => by kernel_rfl
theorem size43 : (Try.prog.info? 43).map (·.size) = some 150 := by kernel_rfl

/-- what add leaves. -/
def AddP (w : World) (B : Nat) (U : Nat → Int) (K m : Int) (a : Nat) (e : Ending) (w' : World) : Prop :=
  e = .returned (.tuple #[]) ∧ ∃ U', WAt w' B U' ∧ S U' 150 = S U 150 + m * 2 ^ a ∧ (∀ i, i < 150 → 0 ≤ U' i ∧ U' i ≤ K + 8589934592) ∧ Only w w' B

set_option maxHeartbeats 2000000 in
theorem wadd_any (B k n : Nat) (U : Nat → Int) (K m a : Int) (w : World) (hW : WAt w B U) (hU : ∀ i, i < 150 → 0 ≤ U i ∧ U i ≤ K) (hK : K ≤ 4611686018427387904) (hm0 : 0 ≤ m) (hm : m ≤ 18014398509481984) (hn : n < 32) (hk : k + 2 < 150) (ha : a = 32 * k + n) :
    Calls Try.prog 47 #[.pointer (some ⟨B, 0, none⟩), .int .u64 m, .int .i64 a] w fun e w' => AddP w B U K m (32 * k + n) e w' := by
  obtain ⟨u0, f0⟩ := hW k (by omega)
  obtain ⟨u1, f1⟩ := hW (k + 1) (by omega)
  obtain ⟨u2, f2⟩ := hW (k + 2) (by omega)
  obtain ⟨b0, c0⟩ := hU k (by omega)
  obtain ⟨b1, c1⟩ := hU (k + 1) (by omega)
  obtain ⟨b2, c2⟩ := hU (k + 2) (by omega)
  have a0 : 0 ≤ a := by omega
  have a9 : a ≤ 4800 := by omega
  have e1 : a / 32 = (k : Int) := by omega
  have e2 : a % 32 = (n : Int) := by omega
  have hp : (2 : Int) ^ n ≤ 2147483648 := by
    have h := Nat.pow_le_pow_right (n := 2) (by omega) (show n ≤ 31 by omega)
    have h2 : (2 : Int) ^ n = ((2 ^ n : Nat) : Int) := by simp
    rw [h2]; omega
  have hp0 : (0 : Int) < 2 ^ n := Int.pow_pos (by decide)
  obtain ⟨lo, hlo⟩ : ∃ lo, lo = m % 4294967296 * 2 ^ n := ⟨_, rfl⟩
  obtain ⟨hi, hhi⟩ : ∃ hi, hi = m / 4294967296 * 2 ^ n := ⟨_, rfl⟩
  have l0 : 0 ≤ lo := by rw [hlo]; exact Int.mul_nonneg (Int.emod_nonneg _ (by decide)) (by omega)
  have l9 : lo ≤ 4294967295 * 2147483648 := by rw [hlo]; exact Int.mul_le_mul (by omega) hp (by omega) (by omega)
  have h0 : 0 ≤ hi := by rw [hhi]; exact Int.mul_nonneg (by omega) (by omega)
  have h9 : hi ≤ 4194304 * 2147483648 := by rw [hhi]; exact Int.mul_le_mul (by omega) hp (by omega) (by omega)
  have e3 : IntKind.u64.wrap (m % 4294967296 * 2 ^ n) = lo := by rw [← hlo]; exact IntWalk.u64_in _ (by omega)
  have e4 : IntKind.u64.wrap (m / 4294967296 * 2 ^ n) = hi := by rw [← hhi]; exact IntWalk.u64_in _ (by omega)
  have e5 : IntKind.u64.wrap (U k + lo % 4294967296) = U k + lo % 4294967296 := IntWalk.u64_in _ (by omega)
  have e6 : IntKind.u64.wrap (lo / 4294967296 + hi % 4294967296) = lo / 4294967296 + hi % 4294967296 := IntWalk.u64_in _ (by omega)
  have e7 : IntKind.u64.wrap (U (k + 1) + (lo / 4294967296 + hi % 4294967296)) = U (k + 1) + (lo / 4294967296 + hi % 4294967296) := IntWalk.u64_in _ (by omega)
  have e8 : IntKind.u64.wrap (U (k + 2) + hi / 4294967296) = U (k + 2) + hi / 4294967296 := IntWalk.u64_in _ (by omega)
  have k1 : IntKind.i64.wrap ((k : Int) + 1) = (k : Int) + 1 := IntWalk.i64_in _ (by omega)
  have k2 : IntKind.i64.wrap ((k : Int) + 2) = (k : Int) + 2 := IntWalk.i64_in _ (by omega)
  have g1 : ∀ v, (w.setCell ⟨B, k, none⟩ v).cell? ⟨B, k + 1, none⟩ = some (.int .u64 (U (k + 1))) := fun v => by
    rw [World.cell?_setCell_other _ _ _ _ (by intro e; injection e with _ e2; omega)]; exact u1
  have g2 : ∀ v v', ((w.setCell ⟨B, k, none⟩ v).setCell ⟨B, k + 1, none⟩ v').cell? ⟨B, k + 2, none⟩ = some (.int .u64 (U (k + 2))) := fun v v' => by
    rw [World.cell?_setCell_other _ _ _ _ (by intro e; injection e with _ e2; omega), World.cell?_setCell_other _ _ _ _ (by intro e; injection e with _ e2; omega)]; exact u2
  have fin : ∃ U', WAt (((w.setCell ⟨B, k, none⟩ (.int .u64 (U k + lo % 4294967296))).setCell ⟨B, k + 1, none⟩ (.int .u64 (U (k + 1) + (lo / 4294967296 + hi % 4294967296)))).setCell ⟨B, k + 2, none⟩ (.int .u64 (U (k + 2) + hi / 4294967296))) B U' ∧
      S U' 150 = S U 150 + m * 2 ^ (32 * k + n) ∧ (∀ i, i < 150 → 0 ≤ U' i ∧ U' i ≤ K + 8589934592) ∧ Only w (((w.setCell ⟨B, k, none⟩ (.int .u64 (U k + lo % 4294967296))).setCell ⟨B, k + 1, none⟩ (.int .u64 (U (k + 1) + (lo / 4294967296 + hi % 4294967296)))).setCell ⟨B, k + 2, none⟩ (.int .u64 (U (k + 2) + hi / 4294967296))) B := by
    refine ⟨_, ((hW.stored k _).stored (k + 1) _).stored (k + 2) _, ?_, ?_, Only.three⟩
    · have r1 : U (k + 1) = upd U k (U k + lo % 4294967296) (k + 1) := by rw [upd_off _ _ (by omega)]
      have r2 : U (k + 2) = upd (upd U k (U k + lo % 4294967296)) (k + 1) (U (k + 1) + (lo / 4294967296 + hi % 4294967296)) (k + 2) := by rw [upd_off _ _ (by omega), upd_off _ _ (by omega)]
      have q := add_words m k n
      have s2 := S_upd (upd (upd U k (U k + lo % 4294967296)) (k + 1) (U (k + 1) + (lo / 4294967296 + hi % 4294967296))) (k + 2) (hi / 4294967296) 150
      rw [← r2, if_pos (by omega)] at s2
      have s1 := S_upd (upd U k (U k + lo % 4294967296)) (k + 1) (lo / 4294967296 + hi % 4294967296) 150
      rw [← r1, if_pos (by omega)] at s1
      have s0 := S_upd U k (lo % 4294967296) 150
      rw [if_pos (by omega)] at s0
      rw [s2, s1, s0, ← q, hlo, hhi]
      simp only [B32]
      omega
    · intro i hi'
      have hui := hU i hi'
      unfold upd
      split
      · omega
      · split
        · omega
        · split <;> omega
  have FIN := Lib.hid fin
  have hk0 : (0 : Int) ≤ (k : Int) := by omega
  have hk1 : (k : Int) + 2 < 150 := by omega
  have hs0 : B < w.heap.size := by
    rcases Nat.lt_or_ge B w.heap.size with h1 | h1
    · exact h1
    · unfold World.cell? at u0; rw [Array.getElem?_eq_none h1] at u0; cases u0
  clear fin hW hU ha hlo hhi hp hp0
  go_enter Try.func47, Try.ntmps47
  go_wp2
  go_region
  go_wp2
  go_region
  go_wp2
  go_region
  go_wp2
  go_end0
  obtain ⟨U', q1, q2, q3, q4⟩ := FIN.out
  exact ⟨rfl, U', q1, q2, q3, q4.drew.drew.drew⟩

theorem heap_two (w : World) (a b : Obj) : ((w.alloc a).alloc b).heap[w.heap.size]? = some a ∧ ((w.alloc a).alloc b).heap[w.heap.size + 1]? = some b := by
  constructor
  · show ((w.heap.push a).push b)[w.heap.size]? = some a
    rw [Array.getElem?_push, if_neg (by simp), Array.getElem?_push, if_pos rfl]
  · have := heap_alloc_last (w.alloc a) b
    simpa using this

set_option maxHeartbeats 2000000 in
theorem carried_any (B : Nat) (U : Nat → Int) (K : Int) (w : World) (hW : WAt w B U) (hU : ∀ i, i < 150 → 0 ≤ U i ∧ U i ≤ K) (hK : 1 ≤ K) (hK2 : K ≤ 4611686018427387904) :
    Calls Try.prog 31 #[.pointer (some ⟨B, 0, none⟩)] w fun e w' => e = .returned (.agg (DA U 150)) ∧ Below w.heap.size w w' := by
  have z43 := zero43
  have hs0 : B < w.heap.size := by
    obtain ⟨u0, -⟩ := hW 0 (by omega)
    rcases Nat.lt_or_ge B w.heap.size with h1 | h1
    · exact h1
    · unfold World.cell? at u0; rw [Array.getElem?_eq_none h1] at u0; cases u0
  have HC := Lib.hid (cy_bnd hK hU)
  have HU := Lib.hid hU
  have hb : ∀ k, Below w.heap.size w ((w.alloc (.cells ZA 43)).alloc (.cells (DA U k) 43)) := fun k => ((Below.refl _ _).alloc (Nat.le_refl _) _).alloc (by simp) _
  have HB := Lib.hid hb
  have HW := Lib.hid hW
  clear hb hU hW
  go_enter Try.func31, Try.ntmps31
  go_wp2
  go_loopw [4, 5] (fun c i wr => ∃ k : Nat, k ≤ 150 ∧ c = .int .u64 (cy U k) ∧ i = .int .i64 k ∧ wr = (w.alloc (.cells ZA 43)).alloc (.cells (DA U k) 43)) (fun _ i _ => 150 - (intOf i).toNat)
  case atStart => exact ⟨0, Nat.zero_le _, rfl, rfl, by rw [DA_zero]; rfl⟩
  case round =>
    obtain ⟨k, hk, rfl, rfl, rfl⟩ := hrel
    by_cases hlt : k < 150
    · have hl : (k : Int) < 150 := by omega
      obtain ⟨v0, v1⟩ := HC.out k hk
      obtain ⟨v2, v3⟩ := HU.out k hlt
      obtain ⟨u0, -⟩ := HW.out k hlt
      have hsz := DA_size U k
      obtain ⟨x, hx⟩ : ∃ x, x = cy U k + U k := ⟨_, rfl⟩
      have e1 : IntKind.u64.wrap (cy U k + U k) = x := by rw [← hx]; exact IntWalk.u64_in _ (by omega)
      have x0 : 0 ≤ x := by omega
      have hd := DA_step U k
      unfold dg at hd
      rw [← hx] at hd
      have HD := Lib.hid hd
      have HX := Lib.hid hx
      clear hd hx
      go_wp2
      go_roundw
      case rel => exact ⟨k + 1, by omega, by rw [cy, ← HX.out]; rfl, by go_num, by rw [← HD.out]; first | rfl | (rw [World.setCell_alloc_at] <;> simp)⟩
      case measure => simp [intOf]; omega
    · have hk9 : k = 150 := by omega
      subst hk9
      obtain ⟨p1, p2⟩ := heap_two w (.cells ZA 43) (.cells (DA U 150) 43)
      have HP1 := Lib.hid p1
      have HP2 := Lib.hid p2
      clear p1 p2
      go_wp2_with (first | (refine wpList_load_row rfl 43 _ rfl (w.heap.size + 1) rfl 43 (DA U 150) (0, 0) _ HP2.out Try.underlying43 rfl (by rw [DA_size]; exact size43) ?_) | (refine wpList_store_row rfl 43 _ _ rfl w.heap.size (DA U 150) rfl rfl 43 ZA HP1.out (by rw [DA_size]; exact size43) (by rw [DA_size]; rfl) (DA_one U 150) ?_))
      refine bodyPost_ret (v := .agg (DA U 150)) (results_cell_row rfl _ _ w.heap.size 43 (DA U 150) (0, 0) _ rfl (setRow_heap _ _ _ _ _ _ HP1.out) Try.underlying43 rfl (by rw [DA_size]; exact size43)) rfl ⟨rfl, below_setRow (HB.out 150) (Nat.le_refl _) _⟩
end Go.Proofs.Ytkkikcfolinkfaa
