/- awake. -/
import Derived.Test.YtneedadoafcfcaaAccS2
import Derived.Test.YtneedadoafcfcaaAccM
import Derived.Test.YtneedadoafcfcaaAccG2
namespace Go.Proofs.Ytneedadoafcfcaa
open Go Go.RowKit TF

attribute [local go_sem] cmp_eq cmp_ne cmp_lt cmp_gt cmp_le cmp_ge

def aw (i : Nat) : Nat := if i = 0 then 4607182418800017408 else if i = 1 then 1 else 13830554455654793216
theorem aw_val : valG (sumG aw 3) = 1 := by kernel_rfl
def gw : AccG := addG (mulG (mulG newG 7598952565167317594 7598952565167317594) 16822324602022093402 7598952565167317594) 4602678819172646912
theorem gw_val : valG gw = 4602678819172646912 := by kernel_rfl
theorem awake_any (w : World) :
    Calls Try.prog 9 #[] w fun e w' => e = .returned (.bool true) ∧ Below w.heap.size w w' := by
  have KN := Lib.hid new_any
  obtain ⟨W1, hW1⟩ : ∃ W1, w.alloc (.cells #[.float .f64 4607182418800017408, .float .f64 1, .float .f64 13830554455654793216] 22) = W1 := ⟨_, rfl⟩
  have hB : Below w.heap.size w W1 := by rw [← hW1]; exact (Below.refl _ _).alloc (Nat.le_refl _) _
  have hF : Floats W1 (some ⟨w.heap.size, 0, none⟩) 3 aw := by
    rw [← hW1]
    intro i hi
    refine ⟨_, _, rfl, by simp, ?_, by unfold aw W64; split <;> (try split) <;> decide⟩
    rw [World.cell?_alloc_new]
    match i, hi with
    | 0, _ => rfl
    | 1, _ => rfl
    | 2, _ => rfl
  have KS := Lib.hid (sum_any (some ⟨w.heap.size, 0, none⟩) 3 3 aw W1 hF (by omega))
  rw [aw_val] at KS
  have HB := Lib.hid hB
  clear hB hF
  go_enter Try.func9, Try.ntmps9
  go_wp2_with fail
  refine (KS.out).mono ?_
  rintro e w2 ⟨rfl, hb2⟩
  have HB2 := Lib.hid (HB.out.trans (hb2.mono HB.out.size))
  clear hb2
  go_wp2_with (go_at_call 11; ((with_reducible refine (KN.out _).mono ?_)); rintro e w' ⟨rfl, rfl⟩)
  refine (mul_some w2.heap.size newG _ (new_is w2) new_ok _ _ (by unfold W64; decide) (by unfold W64; decide) (by decide)).mono ?_
  rintro e w3 ⟨rfl, a3, c3⟩
  have ok3 := mul_ok (x := 7598952565167317594) (y := 7598952565167317594) new_ok (by decide)
  have hb3 := c3.below (w0 := w) (lim := w.heap.size) ((HB2.out).alloc HB2.out.size _) HB2.out.size (by have := HB2.out.size; simp; omega)
  have K3 := Lib.hid (⟨hb3, a3, ok3⟩ : _ ∧ _ ∧ _)
  clear hb3 a3 ok3 c3
  go_wp2_with fail
  refine (mul_some w2.heap.size _ _ K3.out.2.1 K3.out.2.2 _ _ (by unfold W64; decide) (by unfold W64; decide) (by decide)).mono ?_
  rintro e w4 ⟨rfl, a4, c4⟩
  have ok4 := mul_ok (x := 16822324602022093402) (y := 7598952565167317594) K3.out.2.2 (by decide)
  have hb4 := c4.below K3.out.1 HB2.out.size K3.out.1.size
  have K4 := Lib.hid (⟨hb4, a4, ok4⟩ : _ ∧ _ ∧ _)
  clear hb4 a4 ok4 c4
  go_wp2_with fail
  refine (add_some w2.heap.size _ _ K4.out.2.1 K4.out.2.2 _ (by unfold W64; decide) (by decide)).mono ?_
  rintro e w5 ⟨rfl, a5, c5⟩
  have ok5 := add_ok (g := mulG (mulG newG 7598952565167317594 7598952565167317594) 16822324602022093402 7598952565167317594) K4.out.2.2 (by decide) 4602678819172646912
  have hb5 := c5.below K4.out.1 HB2.out.size K4.out.1.size
  have KV := value_any w2.heap.size gw w5 a5 ok5
  rw [gw_val] at KV
  have K5 := Lib.hid (⟨hb5, a5⟩ : _ ∧ _)
  have KV2 := Lib.hid KV
  clear hb5 a5 ok5 c5 KV
  go_wp2_with fail
  refine (KV2.out).mono ?_
  rintro e w6 ⟨rfl, hb6⟩
  have KC := Lib.hid (count_any w2.heap.size gw w6 (K5.out.2.cong (hb6.block _ K5.out.2.lt)))
  rw [show gw.cnt = 3 by decide] at KC
  have K6 := Lib.hid (K5.out.1.trans (hb6.mono K5.out.1.size))
  clear hb6
  go_wp2_with fail
  refine (KC.out).mono ?_
  rintro e w7 ⟨rfl, rfl⟩
  go_wp2_with fail
  go_ret
  exact ⟨rfl, K6.out⟩
end Go.Proofs.Ytneedadoafcfcaa
