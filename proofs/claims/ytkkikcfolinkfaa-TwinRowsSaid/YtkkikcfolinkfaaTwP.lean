/- The law's parts, finite, plain, put. -/
import Derived.Test.YtkkikcfolinkfaaTwW
import Derived.Test.YtkkikcfolinkfaaTwinWp
import Derived.Test.YtkkikcfolinkfaaArrEq
namespace Go.Proofs.Ytkkikcfolinkfaa
open Go Go.RowKit TF

attribute [local go_sem] cmp_eq cmp_ne cmp_lt cmp_gt cmp_le cmp_ge

theorem wparts_any (b : Nat) (m e : Int) (hm : m = M (mg b)) (he : e = E (mg b)) (hb : W64 b) (hf : mg b < INF) (w : World) :
    Calls Try.prog 46 #[.float .f64 b] w fun e' w' => e' = .returned (.tuple #[.bool (ng b), .int .u64 m, .int .i64 e]) ∧ w = w' := by
  obtain ⟨n, hn⟩ : ∃ n : Int, n = b := ⟨_, rfl⟩
  have HN := Lib.hid hn
  obtain ⟨h0, h1, hs, ⟨h2, h3, h4⟩ | ⟨h2, h5, h3, h4⟩⟩ := wparts_cases hb n m e hn hm he hf
  all_goals
    have H3 := Lib.hid h3
    have H4 := Lib.hid h4
    clear hn hm he hb hf h3 h4
    go_enter Try.func46, Try.ntmps46
    go_wp2_with (first | (go_at_call 23; refine (rbits_any b n HN.out _).mono ?_; rintro e w' ⟨rfl, rfl⟩))
    refine bodyPost_ret (results_tmp3 rfl _ _ _) rfl ?_
    exact ⟨by simp [← H3.out, ← H4.out], rfl⟩

theorem wfin_any (b : Nat) (w : World) :
    Calls Try.prog 22 #[.float .f64 b] w fun e' w' => e' = .returned (.bool (decide (mg b < INF ∨ INF + 4503599627370496 ≤ mg b))) ∧ w = w' := by
  obtain ⟨n, hn⟩ : ∃ n : Int, n = b := ⟨_, rfl⟩
  have HN := Lib.hid hn
  have h := wfin_case n hn
  have H := Lib.hid h
  have h0 : 0 ≤ n := by omega
  clear hn h
  go_enter Try.func22, Try.ntmps22
  go_wp2_with (first | (go_at_call 23; refine (rbits_any b n HN.out _).mono ?_; rintro e w' ⟨rfl, rfl⟩))
  go_ret
  exact ⟨by rw [H.out]; rfl, rfl⟩

theorem plain_any (b : Nat) (w : World) :
    Calls Try.prog 19 #[.float .f64 b] w fun e' w' => e' = .returned (.bool (sameB (canonW b) b)) ∧ w = w' := by
  go_enter Try.func19, Try.ntmps19
  go_wp2_with (first | (go_at_call 21; refine (canon_any _ _).mono ?_; rintro e w' ⟨rfl, rfl⟩) | (go_at_call 20; refine (rsame_any _ _ _).mono ?_; rintro e w' ⟨rfl, rfl⟩))
  go_ret
  exact ⟨rfl, rfl⟩

set_option maxHeartbeats 1000000 in
theorem put_any (w0 : World) (B C : Nat) (U V : Nat → Int) (K : Int) (x : Nat) (w : World) (hx : W64 x) (hf : mg x < INF) (P : PW w0 w B C U V K) (hK : K ≤ 4611686018427387904) :
    Calls Try.prog 30 #[.pointer (some ⟨B, 0, none⟩), .pointer (some ⟨C, 0, none⟩), .float .f64 x] w fun e w' => PutP w0 B C U V K (iv x) e w' := by
  obtain ⟨m, hm⟩ : ∃ m : Int, m = M (mg x) := ⟨_, rfl⟩
  obtain ⟨e, he⟩ : ∃ e : Int, e = E (mg x) := ⟨_, rfl⟩
  have hiv := iv_parts x
  rw [← hm] at hiv
  have HM := Lib.hid hm
  have HE := Lib.hid he
  have hM := M_lt (mg x)
  have hm0 : 0 ≤ m := by omega
  have hm1 : m ≤ 18014398509481984 := by omega
  have hEb : E (mg x) ≤ 2046 := by
    have hI := INF_eq
    unfold E; omega
  obtain ⟨k, hk1⟩ : ∃ k, k = (E (mg x) + 1074) / 32 := ⟨_, rfl⟩
  obtain ⟨n, hn1⟩ : ∃ n, n = (E (mg x) + 1074) % 32 := ⟨_, rfl⟩
  have hn : n < 32 := by omega
  have hk : k + 2 < 150 := by omega
  have hkn : 32 * k + n = E (mg x) + 1074 := by omega
  have ha : e + 1074 = 32 * (k : Int) + n := by omega
  have e0 : 0 ≤ e := by omega
  have e9 : e ≤ 2046 := by omega
  have HKN := Lib.hid hkn
  have HA := Lib.hid ha
  have HIV := Lib.hid hiv
  clear hM hEb hk1 hn1 hm he hkn hiv ha
  cases hs : ng x with
  | true =>
    rw [hs, if_pos rfl] at HIV
    go_enter Try.func30, Try.ntmps30
    go_wp2_with (first | (go_at_call 46; ((with_reducible refine (wparts_any x m e HM.out HE.out hx hf _).mono ?_)); rintro e w' ⟨rfl, rfl⟩) | (go_at_call 47; ((with_reducible refine (wadd_any C k n V K m _ w P.v P.bv hK hm0 hm1 hn hk HA.out).mono ?_)); rintro e w' ⟨rfl, U', q1, q2, q3, q4⟩))
    go_end0
    rw [HKN.out] at q2
    exact ⟨rfl, U, U', (P.swap.onto q1 q3 q4).swap, put_down HIV.out q2 _⟩
  | false =>
    rw [hs, if_neg (by decide)] at HIV
    go_enter Try.func30, Try.ntmps30
    go_wp2_with (first | (go_at_call 46; ((with_reducible refine (wparts_any x m e HM.out HE.out hx hf _).mono ?_)); rintro e w' ⟨rfl, rfl⟩) | (go_at_call 47; ((with_reducible refine (wadd_any B k n U K m _ w P.u P.bu hK hm0 hm1 hn hk HA.out).mono ?_)); rintro e w' ⟨rfl, U', q1, q2, q3, q4⟩))
    go_end0
    rw [HKN.out] at q2
    exact ⟨rfl, U', V, P.onto q1 q3 q4, put_up HIV.out q2 _⟩

theorem eq_words {U V : Nat → Int} (h : S U 150 = S V 150) : ∀ w : World, (binOp .eql 43 (.agg (DA U 150)) (.agg (DA V 150))).run Try.prog w = .ok (.bool true) w := by
  intro w
  rw [← DA_eq h, run_eql_ints w (DA U 150) (DA U 150) (dg U) (dg U) Try.underlying43 Try.underlying35 (by kernel_rfl) (fun i hi => DA_at U hi) (fun i hi => DA_at U hi)]
  have h2 : ((List.range 150).all fun i => dg U i == dg U i) = true := List.all_eq_true.2 (fun i _ => by simp)
  rw [h2]

theorem zero_words (w : World) (t : TypeId) {g : Nat} (hg : g = w.heap.size) : WAt (w.alloc (.cells ZA t)) g (fun _ => 0) := by
  subst hg
  intro i hi
  refine ⟨?_, World.frozen?_alloc_new _ _ _ _⟩
  rw [World.cell?_alloc_new]
  simp [ZA, hi]
theorem zero_pair (w : World) (t : TypeId) : PW w ((w.alloc (.cells ZA t)).alloc (.cells ZA t)) w.heap.size (w.heap.size + 1) (fun _ => 0) (fun _ => 0) 1 :=
  ⟨((Below.refl _ _).alloc (Nat.le_refl _) _).alloc (by simp) _, Nat.le_refl _, by omega, by omega, (zero_words w t rfl).below ((Below.refl _ _).alloc (Nat.le_refl _) _) (by simp), zero_words _ t (by simp), fun _ _ => by omega, fun _ _ => by omega⟩

theorem sums_eq {a b s e q : Int} {u0 v0 u1 v1 u2 v2 u3 v3 u4 v4 : Int} (h : a + b = s + e) (D1 : u1 - v1 = u0 - v0 + a * q) (D2 : u2 - v2 = u1 - v1 + b * q) (D3 : u3 - v3 = v2 - u2 + s * q) (D4 : u4 - v4 = u3 - v3 + e * q) (h0 : u0 = v0 := by rfl) : v4 = u4 := by
  have h1 : (a + b) * q = (s + e) * q := by rw [h]
  rw [Int.add_mul, Int.add_mul] at h1
  omega

set_option maxHeartbeats 2000000 in
theorem equal_any (a b s e : Nat) (w : World) (ha : W64 a) (hb : W64 b) (hs : W64 s) (he : W64 e) (fa : mg a < INF) (fb : mg b < INF) (fs : mg s < INF) (fe : mg e < INF) (hi : iv a + iv b = iv s + iv e) :
    Calls Try.prog 24 #[.float .f64 a, .float .f64 b, .float .f64 s, .float .f64 e] w fun e' w' => e' = .returned (.bool true) ∧ Below w.heap.size w w' := by
  have z43 := zero43
  have HI := Lib.hid hi
  clear hi
  go_enter Try.func24, Try.ntmps24
  go_wp2_with (first | (go_at_call 30; ((with_reducible refine (put_any w w.heap.size (w.heap.size + 1) _ _ 1 a _ ha fa (zero_pair w _) (by omega)).mono ?_)); rintro e1 w1 ⟨rfl, U1, V1, P1, D1⟩) | (go_at_call 30; ((with_reducible refine (put_any w w.heap.size (w.heap.size + 1) _ _ _ b w1 hb fb P1 (by omega)).mono ?_)); rintro e1 w2 ⟨rfl, U2, V2, P2, D2⟩) | (go_at_call 30; ((with_reducible refine (put_any w (w.heap.size + 1) w.heap.size _ _ _ s w2 hs fs P2.swap (by omega)).mono ?_)); rintro e1 w3 ⟨rfl, U3, V3, P3, D3⟩) | (go_at_call 30; ((with_reducible refine (put_any w (w.heap.size + 1) w.heap.size _ _ _ e w3 he fe P3 (by omega)).mono ?_)); rintro e1 w4 ⟨rfl, U4, V4, P4, D4⟩) | (go_at_call 31; ((with_reducible refine (carried_any w.heap.size V4 _ w4 P4.v P4.bv (by omega) (by omega)).mono ?_)); rintro e1 w5 ⟨rfl, hB5⟩) | (go_at_call 31; ((with_reducible refine (carried_any (w.heap.size + 1) U4 _ w5 (P4.u.below hB5 P4.ltB) P4.bu (by omega) (by omega)).mono ?_)); rintro e1 w6 ⟨rfl, hB6⟩; have heq := eq_words (U := V4) (V := U4) (sums_eq HI.out D1 D2 D3 D4)))
  go_ret
  exact ⟨rfl, P4.below.trans ((hB5.mono P4.below.size).trans (hB6.mono (Nat.le_trans P4.below.size hB5.size)))⟩
end Go.Proofs.Ytkkikcfolinkfaa
