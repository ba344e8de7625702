/- Sum. -/
import Derived.Test.YtneedadoafcfcaaAccS1
import Derived.Test.YtneedadoafcfcaaOpenS
namespace Go.Proofs.Ytneedadoafcfcaa
open Go Go.RowKit TF

attribute [local go_sem] cmp_eq cmp_ne cmp_lt cmp_gt cmp_le cmp_ge

/-- the first k numbers, one after the other. -/
def sumG (xs : Nat → Nat) : Nat → AccG
  | 0 => newG
  | k + 1 => addG (sumG xs k) (xs k)
theorem addG_cnt (g : AccG) (x : Nat) : (addG g x).cnt = g.cnt + 1 := by
  unfold addG; split
  · rfl
  · split
    · split <;> rfl
    · rfl
theorem sumG_ok (xs : Nat → Nat) : ∀ k, k ≤ 1048576 → GOk (sumG xs k) ∧ (sumG xs k).cnt = k := by
  intro k
  induction k with
  | zero => intro _; exact ⟨new_ok, rfl⟩
  | succ k ih =>
    intro hk
    obtain ⟨h1, h2⟩ := ih (by omega)
    exact ⟨add_ok h1 (by omega) _, by show (addG _ _).cnt = _; rw [addG_cnt, h2]; omega⟩
def SumRel (w : World) (xs : Nat → Nat) (len : Nat) (i : Value) (wr : World) : Prop :=
  ∃ k : Nat, k ≤ len ∧ i = .int .i64 k ∧ AccIs wr w.heap.size (sumG xs k) ∧ Below w.heap.size w wr
theorem sum_long (A : Option Addr) (len cap : Nat) (w : World) (hl : 1048576 < len) :
    Calls Try.prog 10 #[.slice A len cap] w fun e w' => e = .returned (.tuple #[.float .f64 0, .int .i64 3]) ∧ w = w' := by
  go_enter Try.func10, Try.ntmps10
  go_wp2_with fail
  go_ret2
  exact ⟨rfl, rfl⟩
theorem sum_any (A : Option Addr) (len cap : Nat) (xs : Nat → Nat) (w : World) (hF : Floats w A len xs) (hl : len ≤ 1048576) :
    Calls Try.prog 10 #[.slice A len cap] w fun e w' => e = .returned (.tuple #[.float .f64 (valG (sumG xs len)), .int .i64 0]) ∧ Below w.heap.size w w' := by
  have KN := Lib.hid new_any
  have HF := Lib.hid hF
  obtain ⟨r, hr⟩ : ∃ r, r = valG (sumG xs len) := ⟨_, rfl⟩
  rw [← hr]
  have HR := Lib.hid hr
  clear hF hr
  go_enter Try.func10, Try.ntmps10
  go_wp2_with (go_at_call 11; ((with_reducible refine (KN.out _).mono ?_)); rintro e w' ⟨rfl, rfl⟩)
  go_loopw [13] (fun i wr => SumRel w xs len i wr) (fun i _ => len - (intOf i).toNat)
  case atStart => exact ⟨0, by omega, rfl, new_is w, (Below.refl _ _).alloc (Nat.le_refl _) _⟩
  case round =>
    obtain ⟨k, hk, rfl, hacc, hbel⟩ := hrel
    by_cases hlt : k < len
    · have hl2 : (k : Int) < len := by omega
      obtain ⟨hok, hcnt⟩ := sumG_ok xs k (by omega)
      obtain ⟨b, off, rfl, hb, c0, hx⟩ := HF.out k hlt
      have c1 : wr.cell? ⟨b, off + k, none⟩ = some (.float .f64 (xs k)) := by rw [hbel.cell (p := ⟨b, off + k, none⟩) hb]; exact c0
      have KA := Lib.hid (add_some w.heap.size _ wr hacc hok (xs k) hx (by omega))
      have KEEP := Lib.hid hbel
      have hsz := hbel.size
      obtain ⟨X, hX⟩ : ∃ X, X = xs k := ⟨_, rfl⟩
      rw [← hX] at c1 KA
      have KX := Lib.hid hX
      clear hacc hok hcnt hbel hx c0 hX
      go_wp2_with (go_at_call 17; ((with_reducible refine (KA.out).mono ?_)); rintro e w' ⟨rfl, hac, hch⟩)
      go_roundw
      case rel => exact ⟨k + 1, by omega, by go_num, by show AccIs _ _ (addG (sumG xs k) (xs k)); rw [← KX.out]; exact hac, hch.below KEEP.out (Nat.le_refl _) hsz⟩
      case measure => simp [intOf]; omega
    · have hn : k = len := by omega
      subst hn
      obtain ⟨hok, hcnt⟩ := sumG_ok xs k (by omega)
      have KV := Lib.hid (value_any w.heap.size _ wr hacc hok)
      have KEEP := Lib.hid hbel
      have hsz := hbel.size
      rw [← HR.out] at KV
      clear hacc hok hcnt hbel
      go_wp2_with (go_at_call 13; ((with_reducible refine (KV.out).mono ?_)); rintro e w' ⟨rfl, hbl⟩)
      go_ret2
      exact ⟨rfl, KEEP.out.trans (hbl.mono hsz)⟩
end Go.Proofs.Ytneedadoafcfcaa
