/- AccLimit. -/
import Derived.Test.YtneedadoafcfcaaAccTwo
import Derived.Test.YtneedadoafcfcaaAccMs
import Derived.Test.YtneedadoafcfcaaAccLm
namespace Go.Proofs.Ytneedadoafcfcaa
open Go Go.RowKit TF

attribute [local go_sem] cmp_eq cmp_ne cmp_lt cmp_gt cmp_le cmp_ge

theorem acc_of_heap {w w' : World} {b : Nat} {g : AccG} (h : AccIs w b g) (e : w'.heap = w.heap) : AccIs w' b g := h.cong (by rw [e])
theorem accLimit_any (x y : Nat) (w : World) (hx : W64 x) (hy : W64 y) :
    Calls Try.prog 8 #[.float .f64 x, .float .f64 y] w fun e w' => e = .returned (.bool true) ∧ Below w.heap.size w w' := by
  have KN := Lib.hid new_any
  have KAw := Lib.hid (awake_any w)
  have HX := Lib.hid (⟨hx, hy⟩ : _ ∧ _)
  clear hx hy
  go_enter Try.func8, Try.ntmps8
  go_wp2_with fail
  refine (KAw.out).mono ?_
  rintro e w1 ⟨rfl, hb1⟩
  have HB1 := Lib.hid hb1
  clear hb1
  go_wp2_with (go_at_call 11; ((with_reducible refine (KN.out _).mono ?_)); rintro e w' ⟨rfl, rfl⟩)
  refine (add_some w1.heap.size newG _ (new_is w1) new_ok _ HX.out.1 (by decide)).mono ?_
  rintro e w2 ⟨rfl, a2, c2⟩
  obtain ⟨G, hG⟩ : ∃ G, G = addG newG x := ⟨_, rfl⟩
  rw [← hG] at a2
  have ok2 : GOk G := by rw [hG]; exact add_ok new_ok (by decide) x
  have ec : G.cnt = 1 := by rw [hG, addG_cnt]; rfl
  have hb2 := c2.below (w0 := w) (lim := w.heap.size) ((HB1.out).alloc HB1.out.size _) HB1.out.size (by have := HB1.out.size; simp; omega)
  obtain ⟨A, hA⟩ : ∃ A, A = w1.heap.size := ⟨_, rfl⟩
  rw [← hA] at a2 ⊢
  have hAw : w.heap.size ≤ A := by rw [hA]; exact HB1.out.size
  have KG := Lib.hid (⟨hG, ok2, ec, hAw, dbl_ok ok2 ec⟩ : _ ∧ _ ∧ _ ∧ _ ∧ _)
  have START := Lib.hid (⟨a2, hb2⟩ : AccIs w2 A (dbl G 0) ∧ Below w.heap.size w w2)
  clear hb2 c2 a2 ok2 ec hG hAw hA HB1
  go_wp2_with fail
  go_loopw [7] (fun i wr => ∃ k : Nat, k ≤ 20 ∧ i = .int .i64 k ∧ AccIs wr A (dbl G k) ∧ Below w.heap.size w wr) (fun i _ => 20 - (intOf i).toNat)
  case atStart => exact ⟨0, by omega, rfl, START.out.1, START.out.2⟩
  case round =>
    obtain ⟨k, hk, rfl, hacc, hbel⟩ := hrel
    by_cases hlt : k < 20
    · have hl2 : (k : Int) < 20 := by omega
      have hcn : (dbl G k).cnt + (dbl G k).cnt ≤ 1048576 := by
        have h := (KG.out.2.2.2.2 (k + 1) (by omega))
        have h1 : (dbl G (k + 1)).cnt = (dbl G k).cnt + (dbl G k).cnt := rfl
        have := h.1.c9
        omega
      have KM := Lib.hid (merge_self A _ wr hacc (KG.out.2.2.2.2 k (by omega)).1 hcn)
      have KEEP := Lib.hid hbel
      have hsz := hbel.size
      clear hacc hbel hcn
      go_wp2_with (go_at_call 22; ((with_reducible refine (KM.out).mono ?_)); rintro e w' ⟨rfl, hac, hch⟩)
      go_roundw
      case rel => exact ⟨k + 1, by omega, by go_num, hac, hch.below KEEP.out KG.out.2.2.2.1 hsz⟩
      case measure => simp [intOf]; omega
    · have hn : k = 20 := by omega
      subst hn
      have okD := (KG.out.2.2.2.2 20 (by omega)).1
      have ecD : (dbl G 20).cnt = 1048576 := (KG.out.2.2.2.2 20 (by omega)).2
      have hval := dbl_val (x := x)
      rw [← KG.out.1] at hval
      obtain ⟨D, hD⟩ : ∃ D, D = dbl G 20 := ⟨_, rfl⟩
      rw [← hD] at hacc okD ecD hval
      have K0 := Lib.hid (⟨hacc, hbel, okD, ecD, hval⟩ : _ ∧ _ ∧ _ ∧ _ ∧ _)
      clear hacc hbel okD ecD hval hD hlt hk START
      go_wp2_with (go_at_call 11; ((with_reducible refine (KN.out _).mono ?_)); rintro e w' ⟨rfl, rfl⟩)
      refine (add_some wr.heap.size newG _ (new_is wr) new_ok _ HX.out.2 (by decide)).mono ?_
      rintro e w3 ⟨rfl, a3, c3⟩
      have hbw : Below w.heap.size w (wr.alloc (.cells ZAcc 55)) := (K0.out.2.1).alloc K0.out.2.1.size _
      have hb3 := c3.below (w0 := w) (lim := w.heap.size) hbw K0.out.2.1.size (by have := K0.out.2.1.size; simp; omega)
      obtain ⟨H, hH⟩ : ∃ G, G = addG newG y := ⟨_, rfl⟩
      rw [← hH] at a3
      have ok3 : GOk H := by rw [hH]; exact add_ok new_ok (by decide) y
      have ec3 : H.cnt = 1 := by rw [hH, addG_cnt]; rfl
      have aD : AccIs w3 A D := by
        have hl := K0.out.1.lt
        refine (K0.out.1.cong (w' := wr.alloc (.cells ZAcc 55)) ?_).cong (c3.block A (by simp; omega) (by omega))
        show (wr.heap.push _)[A]? = _
        rw [Array.getElem?_push, if_neg (by omega)]
      obtain ⟨B, hB⟩ : ∃ B, B = wr.heap.size := ⟨_, rfl⟩
      rw [← hB] at a3 ⊢
      have K3 := Lib.hid (⟨aD, a3, hb3, ok3, ec3⟩ : _ ∧ _ ∧ _ ∧ _ ∧ _)
      clear aD a3 hb3 ok3 ec3 hbw c3 hB hH
      go_wp2_with fail
      refine (add_full A D w3 K3.out.1 K0.out.2.2.1 y K0.out.2.2.2.1).mono ?_
      rintro e w4 ⟨rfl, rfl⟩
      go_wp2_with fail
      refine (mul_full A D w3 K3.out.1 K0.out.2.2.1 y y K0.out.2.2.2.1).mono ?_
      rintro e w4 ⟨rfl, rfl⟩
      go_wp2_with fail
      refine (merge_full A B D H w3 K3.out.1 K0.out.2.2.1 K3.out.2.1 K3.out.2.2.2.1 (by rw [K0.out.2.2.2.1, K3.out.2.2.2.2]; decide)).mono ?_
      rintro e w4 ⟨rfl, rfl⟩
      go_wp2_with fail
      refine (merge_full A A D D w3 K3.out.1 K0.out.2.2.1 K3.out.1 K0.out.2.2.1 (by rw [K0.out.2.2.2.1]; decide)).mono ?_
      rintro e w4 ⟨rfl, rfl⟩
      go_wp2_with fail
      refine (merge_full B A H D w3 K3.out.2.1 K3.out.2.2.2.1 K3.out.1 K0.out.2.2.1 (by rw [K0.out.2.2.2.1, K3.out.2.2.2.2]; decide)).mono ?_
      rintro e w4 ⟨rfl, rfl⟩
      obtain ⟨S, hS⟩ : ∃ S, S = valG D := ⟨_, rfl⟩
      have hA : (∃ f : World → Nat, (∀ w, eqW (f w) (f w) = false) ∧ (∀ w, (binOp .mul 22 (.float .f64 x) (.float .f64 4697254411347427328)).run Try.prog w = .ok (.float .f64 (f w)) w.drew) ∧ S = 9221120237041090561) ∨
          (eqW S S = true ∧ ∀ w, (binOp .mul 22 (.float .f64 x) (.float .f64 4697254411347427328)).run Try.prog w = .ok (.float .f64 S) w) := by
        rcases K0.out.2.2.2.2 with ⟨h1, h2⟩ | ⟨r, h1, h2, h3, h4⟩
        · obtain ⟨f, f1, f2⟩ := run_nan 22 (.inr (.inr (.inl rfl))) (show floatBits .mul .f64 x 4697254411347427328 = none from h1)
          exact .inl ⟨f, fun w => by have := isN_true.2 (f1 w).2; unfold eqW; rw [this]; rfl, f2, hS.trans h2⟩
        · have e : S = r := hS.trans h4
          subst e
          exact .inr ⟨by unfold eqW; rw [h3]; simp, fun w => run_valid 22 (show floatBits .mul .f64 x 4697254411347427328 = some _ from h1) w⟩
      have KCa := Lib.hid fun w' (h : w'.heap = w3.heap) => count_any A D w' (acc_of_heap K3.out.1 h)
      have KCb := Lib.hid fun w' (h : w'.heap = w3.heap) => count_any B H w' (acc_of_heap K3.out.2.1 h)
      have KV := Lib.hid fun w' (h : w'.heap = w3.heap) => value_any A D w' (acc_of_heap K3.out.1 h) K0.out.2.2.1
      rw [K0.out.2.2.2.1] at KCa
      rw [K3.out.2.2.2.2] at KCb
      rw [← hS] at KV
      have KSm := Lib.hid same_self
      clear hS
      rcases hA with ⟨f, a1, a2, rfl⟩ | ⟨a1, a2⟩
      all_goals
        go_wp2_with (go_at_call 15; ((with_reducible refine (from_any _ _).mono ?_)); rintro e w' ⟨rfl, rfl⟩)
        refine (KCa.out _ (by rfl)).mono ?_
        rintro e w5 ⟨rfl, rfl⟩
        go_wp2_with fail
        refine (KCb.out _ (by rfl)).mono ?_
        rintro e w5 ⟨rfl, rfl⟩
        go_wp2_with fail
        refine (KV.out _ (by rfl)).mono ?_
        rintro e w6 ⟨rfl, hb6⟩
        have K6 := Lib.hid hb6
        clear hb6
        go_wp2_with (go_at_call 16; ((with_reducible refine (KSm.out _ _).mono ?_)); rintro e w' ⟨rfl, rfl⟩)
        go_ret
        first
        | exact ⟨rfl, K3.out.2.2.1.trans (K6.out.mono K3.out.2.2.1.size)⟩
        | exact ⟨rfl, (K3.out.2.2.1.drew).trans (K6.out.mono K3.out.2.2.1.size)⟩
end Go.Proofs.Ytneedadoafcfcaa
