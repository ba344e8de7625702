/- The statement TwinRows: rows of whole numbers; nothing is lost. -/
import Derived.Test.YtkkikcfolinkfaaTwP
import Derived.Test.YtkkikcfolinkfaaTwinE4
import Derived.Test.YtkkikcfolinkfaaOpenS
namespace Go.Proofs.Ytkkikcfolinkfaa
open Go Go.RowKit TF

attribute [local go_sem] cmp_eq cmp_ne cmp_lt cmp_gt cmp_le cmp_ge

/-- what put leaves, all else besides. -/
def PutQ (w0 w : World) (B C : Nat) (U V : Nat → Int) (K : Int) (x : Int) (e : Ending) (w' : World) : Prop :=
  e = .returned (.tuple #[]) ∧ ∃ U' V', PW w0 w' B C U' V' (K + 8589934592) ∧ S U' 150 - S V' 150 = S U 150 - S V 150 + x * 2 ^ 1074 ∧ (∀ D W, D ≠ B → D ≠ C → WAt w D W → WAt w' D W) ∧ (∀ D, Shape w D → Shape w' D)

set_option maxHeartbeats 1000000 in
theorem put_more (w0 : World) (B C : Nat) (U V : Nat → Int) (K : Int) (x : Nat) (w : World) (hx : W64 x) (hf : mg x < INF) (P : PW w0 w B C U V K) (hK : K ≤ 4611686018427387904) :
    Calls Try.prog 30 #[.pointer (some ⟨B, 0, none⟩), .pointer (some ⟨C, 0, none⟩), .float .f64 x] w fun e w' => PutQ w0 w B C U V K (iv x) e w' := by
  obtain ⟨m, hm⟩ : ∃ m : Int, m = M (mg x) := ⟨_, rfl⟩
  obtain ⟨e, he⟩ : ∃ e : Int, e = E (mg x) := ⟨_, rfl⟩
  have hiv := iv_parts x
  rw [← hm] at hiv
  have HM := Lib.hid hm
  have HE := Lib.hid he
  have hM := M_lt (mg x)
  have hm0 : 0 ≤ m := by omega
  have hm1 : m ≤ 18014398509481984 := by omega
  have hEb : E (mg x) ≤ 2046 := by
    have hI := INF_eq
    unfold E; omega
  obtain ⟨k, hk1⟩ : ∃ k, k = (E (mg x) + 1074) / 32 := ⟨_, rfl⟩
  obtain ⟨n, hn1⟩ : ∃ n, n = (E (mg x) + 1074) % 32 := ⟨_, rfl⟩
  have hn : n < 32 := by omega
  have hk : k + 2 < 150 := by omega
  have hkn : 32 * k + n = E (mg x) + 1074 := by omega
  have ha : e + 1074 = 32 * (k : Int) + n := by omega
  have e0 : 0 ≤ e := by omega
  have e9 : e ≤ 2046 := by omega
  have HKN := Lib.hid hkn
  have HA := Lib.hid ha
  have HIV := Lib.hid hiv
  clear hM hEb hk1 hn1 hm he hkn hiv ha
  cases hs : ng x with
  | true =>
    rw [hs, if_pos rfl] at HIV
    go_enter Try.func30, Try.ntmps30
    go_wp2_with (first | (go_at_call 46; ((with_reducible refine (wparts_any x m e HM.out HE.out hx hf _).mono ?_)); rintro e w' ⟨rfl, rfl⟩) | (go_at_call 47; ((with_reducible refine (wadd_any C k n V K m _ w P.v P.bv hK hm0 hm1 hn hk HA.out).mono ?_)); rintro e w' ⟨rfl, U', q1, q2, q3, q4⟩))
    go_end0
    rw [HKN.out] at q2
    exact ⟨rfl, U, U', (P.swap.onto q1 q3 q4).swap, put_down HIV.out q2 _, fun D W _ hC h => q4.other D W (Ne.symm hC) h, q4.shape⟩
  | false =>
    rw [hs, if_neg (by decide)] at HIV
    go_enter Try.func30, Try.ntmps30
    go_wp2_with (first | (go_at_call 46; ((with_reducible refine (wparts_any x m e HM.out HE.out hx hf _).mono ?_)); rintro e w' ⟨rfl, rfl⟩) | (go_at_call 47; ((with_reducible refine (wadd_any B k n U K m _ w P.u P.bu hK hm0 hm1 hn hk HA.out).mono ?_)); rintro e w' ⟨rfl, U', q1, q2, q3, q4⟩))
    go_end0
    rw [HKN.out] at q2
    exact ⟨rfl, U', V, P.onto q1 q3 q4, put_up HIV.out q2 _, fun D W hB _ h => q4.other D W (Ne.symm hB) h, q4.shape⟩

theorem neq_words {U V : Nat → Int} (h : S U 150 = S V 150) : ∀ w : World, (binOp .neq 43 (.agg (DA U 150)) (.agg (DA V 150))).run Try.prog w = .ok (.bool false) w := by
  intro w
  rw [← DA_eq h, run_neq_struct, run_equalIn_ints w 9998 (DA U 150) (DA U 150) (dg U) (dg U) Try.underlying43 Try.underlying35 (by kernel_rfl) (fun i hi => DA_at U hi) (fun i hi => DA_at U hi)]
  have h2 : ((List.range 150).all fun i => dg U i == dg U i) = true := List.all_eq_true.2 (fun i _ => by simp)
  rw [h2]; rfl

theorem copy_row {w : World} {B : Nat} {U : Nat → Int} (hW : WAt w B U) (hs : Shape w B) : ∃ cs t, Hid (w.heap[B]? = some (.cells cs t (0, 0))) ∧ cs.size = 150 ∧ cs.all (·.oneCell') = true ∧ Hid (∀ i, i < 150 → cs[i]? = some (.int .u64 (U i))) := by
  obtain ⟨cs, t, h1, h2⟩ := hs
  have h3 : ∀ i, i < 150 → cs[i]? = some (.int .u64 (U i)) := fun i hi => by
    have := (hW i hi).1
    unfold World.cell? at this
    simpa [h1] using this
  refine ⟨cs, t, h1, h2, ?_, h3⟩
  rw [Array.all_eq_true]
  intro i hi
  have := h3 i (by omega)
  rw [Array.getElem?_eq_getElem hi] at this
  rw [Option.some.inj this]; rfl
theorem row_words (w : World) (t : TypeId) {cs : Array Value} {U : Nat → Int} (h : ∀ i, i < 150 → cs[i]? = some (.int .u64 (U i))) {g : Nat} (hg : g = w.heap.size) : WAt (w.alloc (.cells cs t)) g U := by
  subst hg
  intro i hi
  exact ⟨by rw [World.cell?_alloc_new]; exact h i hi, World.frozen?_alloc_new _ _ _ _⟩
theorem copy_pair {w0 w : World} {B C : Nat} {U V : Nat → Int} {K : Int} (P : PW w0 w B C U V K) {c5 c6 : Array Value} {t : TypeId} (h5 : ∀ i, i < 150 → c5[i]? = some (.int .u64 (U i))) (h6 : ∀ i, i < 150 → c6[i]? = some (.int .u64 (V i))) :
    PW w0 ((w.alloc (.cells c5 t)).alloc (.cells c6 t)) (w.heap.size + 1) w.heap.size V U K :=
  ⟨(P.below.alloc P.below.size _).alloc (by have := P.below.size; simp; omega) _, by have := P.below.size; omega, P.below.size, by omega, row_words _ t h6 (by simp), (row_words w t h5 rfl).below ((Below.refl _ _).alloc (Nat.le_refl _) _) (by simp), P.bv, P.bu⟩
theorem setRow_two (w : World) (a : Obj) (c c' : Array Value) (t : TypeId) : ((w.alloc a).alloc (.cells c t)).setRow (w.heap.size + 1) c' = (w.alloc a).alloc (.cells c' t) := by
  have := World.setRow_alloc_new (w.alloc a) c c' t
  simpa using this
theorem pw_drewN {w0 w : World} {B C : Nat} {U V : Nat → Int} {K : Int} (P : PW w0 w B C U V K) (n : Nat) : PW w0 (w.drewN n) B C U V K :=
  ⟨TF.below_drewN P.below n, P.o1, P.o2, P.ne, P.u, P.v, P.bu, P.bv⟩

theorem rows_eq {N N' X : Int} {qq q u v u1 v1 u2 v2 u3 v3 ix ih il : Int} (D : u - v = N * qq * q) (hx : ix = X * qq) (hs : ih + il = N' * qq) (D1 : u1 - v1 = u - v + ix * q) (D2 : v2 - u2 = v1 - u1 + ih * q) (D3 : v3 - u3 = v2 - u2 + il * q) (hN : N' = N + X := by rfl) : u3 = v3 := by
  have h1 : (ih + il) * q = N' * qq * q := by rw [hs]
  rw [Int.add_mul] at h1
  have h2 : N' * qq * q = N * qq * q + X * qq * q := by rw [hN, Int.add_mul, Int.add_mul]
  rw [hx] at D1
  omega

set_option maxRecDepth 100000 in
set_option maxHeartbeats 4000000 in
theorem twinRows_walk (A : Option Addr) (n cap : Nat) (xs : Nat → Int) (w : World) (hp : Ints w .i64 A n xs) :
    Calls Try.prog 10 #[.slice A n cap] w fun e w' => e = .returned (.bool true) ∧ Below w.heap.size w w' := by
  have z43 := zero43
  have HI := Lib.hid hp
  clear hp
  go_enter Try.func10, Try.ntmps10
  go_wp2_with (first | (go_at_call 11; refine (awake_any _).mono ?_; rintro e w' ⟨rfl, rfl⟩))
  go_loopw [3, 4, 7] (fun h l i wr => ∃ (k hi lo : Nat) (N : Int) (U V : Nat → Int), k ≤ n ∧ k ≤ 1000 ∧ h = .float .f64 hi ∧ l = .float .f64 lo ∧ i = .int .i64 k ∧ RowIs hi lo N ∧ Hid (N.natAbs ≤ k * 9007199254740992) ∧ PW w wr w.heap.size (w.heap.size + 1) U V (1 + 8589934592 * (k : Int)) ∧ Hid (S U 150 - S V 150 = N * (Q : Nat) * 2 ^ 1074) ∧ Shape wr w.heap.size ∧ Shape wr (w.heap.size + 1)) (fun _ _ i _ => n - (intOf i).toNat)
  case atStart => exact ⟨0, 0, 0, 0, _, _, Nat.zero_le _, Nat.zero_le _, rfl, rfl, rfl, row_zero, Nat.le_refl _, zero_pair w _, by show S _ 150 - S _ 150 = _; rw [Int.sub_self, Int.zero_mul, Int.zero_mul], ⟨ZA, _, (heap_two w _ _).1, by kernel_rfl⟩, ⟨ZA, _, (heap_two w _ _).2, by kernel_rfl⟩⟩
  case round =>
    obtain ⟨k, hi, lo, N, U, V, hk, hk2, rfl, rfl, rfl, R, HN, P, HD, hS5, hS6⟩ := hrel
    by_cases hlt : k < n
    · have hl : (k : Int) < (n : Int) := by omega
      by_cases hth : k < 1000
      · have hl2 : (k : Int) < 1000 := by omega
        obtain ⟨b, off, rfl, hb, hc, hwf⟩ := HI.out k hlt
        have hc' : wr.cell? ⟨b, off + k, none⟩ = some (.int .i64 (xs k)) := by rw [P.below.cell (p := ⟨b, off + k, none⟩) hb]; exact hc
        obtain ⟨X, hX⟩ : ∃ X, X = (xs k).tmod 9007199254740992 := ⟨_, rfl⟩
        have hXb : X.natAbs ≤ 9007199254740992 := by
          have h1 := Int.tmod_lt_of_pos (xs k) (show (0 : Int) < 9007199254740992 by decide)
          have h2 := Int.lt_tmod_of_pos (xs k) (show (0 : Int) < 9007199254740992 by decide)
          omega
        have eX : (xs k).tmod 9007199254740992 = X := hX.symm
        have eX2 : IntKind.i64.wrap X = X := IntWalk.i64_in _ (by omega)
        have hN := HN.out
        have R2 := row_step R (X := X) (by omega) hXb
        obtain ⟨x64, xf, -, -, xiv⟩ := fi_small (n := X) (by omega)
        have hadd : ∀ y : World, Calls Try.prog 28 #[.float .f64 hi, .float .f64 lo, .float .f64 (floatOfInt .f64 X)] y fun e w' => e = .returned (.tuple #[.float .f64 (addW hi lo (floatOfInt .f64 X)).1, .float .f64 (addW hi lo (floatOfInt .f64 X)).2]) ∧ ∃ n, w' = y.drewN n := fun y => add_any hi lo _ R.w1 x64 y
        obtain ⟨x, hx⟩ : ∃ x, x = floatOfInt .f64 X := ⟨_, rfl⟩
        rw [← hx] at R2 x64 xf xiv hadd
        obtain ⟨h2, hh2⟩ : ∃ y, y = (addW hi lo x).1 := ⟨_, rfl⟩
        obtain ⟨l2, hl2'⟩ : ∃ y, y = (addW hi lo x).2 := ⟨_, rfl⟩
        rw [← hh2, ← hl2'] at R2 hadd
        have ex : floatOfInt .f64 X = x := hx.symm
        have HADD := Lib.hid hadd
        have HX := Lib.hid xiv
        have HNN := Lib.hid (show (N + X).natAbs ≤ (k + 1) * 9007199254740992 by omega)
        have d1 : decide (mg h2 < INF ∨ INF + 4503599627370496 ≤ mg h2) = true := by simp [R2.f1]
        have d2 : decide (mg l2 < INF ∨ INF + 4503599627370496 ≤ mg l2) = true := by simp [R2.f2]
        clear hX hXb hN hadd hx hh2 hl2' xiv hwf hc
        go_wp2_with (first | (go_at_call 28; ((with_reducible refine (HADD.out _).mono ?_)); rintro e1 w1 ⟨rfl, q, rfl⟩) | (go_at_call 30; ((with_reducible refine (put_more w w.heap.size (w.heap.size + 1) U V _ x _ x64 xf (pw_drewN P q) (by omega)).mono ?_)); rintro e1 w2 ⟨rfl, U1, V1, P1, D1, -, G1⟩; obtain ⟨c5, t5, HH5, hs5, o5, HC5⟩ := copy_row P1.u (G1 _ hS5); obtain ⟨c6, t6, HH6, hs6, o6, HC6⟩ := copy_row P1.v (G1 _ hS6)) | (go_at_call 22; ((with_reducible refine (wfin_any _ _).mono ?_)); rintro e1 w' ⟨rfl, rfl⟩) | (refine wpList_load_row rfl 43 _ rfl w.heap.size rfl t5 c5 (0, 0) _ HH5.out Try.underlying43 rfl (by rw [hs5]; exact size43) ?_) | (refine wpList_store_row rfl 43 _ _ rfl w2.heap.size c5 rfl rfl 43 ZA (heap_alloc_last _ _) (by rw [hs5]; exact size43) (by rw [hs5]; rfl) o5 ?_; rw [World.setRow_alloc_new]) | (refine wpList_load_row rfl 43 _ rfl (w.heap.size + 1) rfl t6 c6 (0, 0) _ ((Below.heap_alloc _ _ _ P1.v.lt).trans HH6.out) Try.underlying43 rfl (by rw [hs6]; exact size43) ?_) | (refine wpList_store_row rfl 43 _ _ rfl (w2.heap.size + 1) c6 rfl rfl 43 ZA (heap_two w2 _ _).2 (by rw [hs6]; exact size43) (by rw [hs6]; rfl) o6 ?_; rw [setRow_two]) | (go_at_call 30; ((with_reducible refine (put_more w (w2.heap.size + 1) w2.heap.size V1 U1 _ h2 _ R2.w1 R2.f1 (copy_pair P1 HC5.out HC6.out) (by omega)).mono ?_)); rintro e1 w3 ⟨rfl, V2, U2, P2, D2, O2, G2⟩) | (go_at_call 30; ((with_reducible refine (put_more w (w2.heap.size + 1) w2.heap.size V2 U2 _ l2 w3 R2.w2 R2.f2 P2 (by omega)).mono ?_)); rintro e1 w4 ⟨rfl, V3, U3, P3, D3, O3, G3⟩) | (go_at_call 31; ((with_reducible refine (carried_any w2.heap.size U3 _ w4 P3.v P3.bv (by omega) (by omega)).mono ?_)); rintro e1 w5 ⟨rfl, hB5⟩) | (go_at_call 31; ((with_reducible refine (carried_any (w2.heap.size + 1) V3 _ w5 (P3.u.below hB5 P3.ltB) P3.bu (by omega) (by omega)).mono ?_)); rintro e1 w6 ⟨rfl, hB6⟩; have heq := neq_words (U := U3) (V := V3) (rows_eq HD.out HX.out R2.sum D1 D2 D3)))
        have n1 : w.heap.size < w2.heap.size := P1.u.lt
        have n2 : w.heap.size + 1 < w2.heap.size := P1.v.lt
        have a2 : Below w2.heap.size w2 ((w2.alloc (.cells c5 43)).alloc (.cells c6 43)) := ((Below.refl _ _).alloc (Nat.le_refl _) _).alloc (by simp) _
        have z2 := a2.size
        have z3 := P2.u.lt
        have z4 := P3.u.lt
        have z5 := hB5.size
        have keep : ∀ D W, D < w2.heap.size → WAt w2 D W → WAt w6 D W := fun D W hD h =>
          ((O3 D W (by omega) (by omega) (O2 D W (by omega) (by omega) (h.below a2 hD))).below hB5 (by omega)).below hB6 (by omega)
        have kept : ∀ D, D < w2.heap.size → Shape w2 D → Shape w6 D := fun D hD h => ((G3 D (G2 D (h.below a2 hD))).below hB5 (by omega)).below hB6 (by omega)
        refine ⟨⟨k + 1, h2, l2, N + X, U1, V1, by omega, by omega, rfl, rfl, by go_num, R2, HNN, ?_, ?_, kept _ n1 (G1 _ hS5), kept _ n2 (G1 _ hS6)⟩, by simp [intOf]; omega⟩
        · have e : (1 : Int) + 8589934592 * ((k + 1 : Nat) : Int) = 1 + 8589934592 * (k : Int) + 8589934592 := by omega
          rw [e]
          exact ⟨P3.below.trans ((hB5.mono (by have := P3.below.size; omega)).trans (hB6.mono (by have := P3.below.size; omega))), P1.o1, P1.o2, P1.ne, keep _ _ n1 P1.u, keep _ _ n2 P1.v, P1.bu, P1.bv⟩
        · show S U1 150 - S V1 150 = _
          rw [D1, HD.out, HX.out, Int.add_mul, Int.add_mul]
      · go_wp2
        go_ret
        exact ⟨rfl, P.below⟩
    · go_wp2
      go_ret
      exact ⟨rfl, P.below⟩
end Go.Proofs.Ytkkikcfolinkfaa
