/- The reference's AddProduct. -/
import Derived.Test.YtneedadoafcfcaaRfB
namespace Go.Proofs.Ytneedadoafcfcaa
open Go Go.RowKit TF

attribute [local go_sem] cmp_eq cmp_ne cmp_lt cmp_gt cmp_le cmp_ge

set_option maxRecDepth 100000 in
theorem rmul_full (b : Nat) (g : AccG) (w : World) (h : RefIs w b g) (x y : Nat) (hc : g.cnt = 1048576) :
    Calls Try.prog 21 #[.pointer (some ⟨b, 0, none⟩), .float .f64 x, .float .f64 y] w fun e w' => e = .returned (.int .i64 3) ∧ w = w' := by
  obtain ⟨d, hX, hL, h⟩ := h
  obtain ⟨c, f⟩ := h.cnt
  rw [show (⟨d, g.cnt, g.up, g.dn, g.nn, decide (g.nz ≠ g.cnt)⟩ : RefS).cnt = 1048576 from hc] at c
  clear hX h hL hc
  go_enter Try.func21, Try.ntmps21
  go_wp2_with fail
  go_ret
  exact ⟨rfl, rfl⟩
set_option maxRecDepth 100000 in
theorem rmul_nil (x y : Nat) (w : World) :
    Calls Try.prog 21 #[.pointer none, .float .f64 x, .float .f64 y] w fun e w' => e = .returned (.int .i64 2) ∧ w = w' := by
  go_enter Try.func21, Try.ntmps21
  go_wp2_with fail
  go_ret
  exact ⟨rfl, rfl⟩
def nanB (x y : Nat) : Bool := isN x || isN y || decide (mg x = 0) || decide (mg y = 0)
theorem mulG_odd (g : AccG) {x y : Nat} (h : ¬ (mg x < INF ∧ mg y < INF)) :
    mulG g x y = { g with cnt := g.cnt + 1, nn := g.nn || nanB x y, dn := g.dn || (!nanB x y && (ng x != ng y)), up := g.up || (!nanB x y && !(ng x != ng y)) } := by
  rw [show mulG g x y = (if isN x ∨ isN y ∨ mg x = 0 ∨ mg y = 0 then { g with cnt := g.cnt + 1, nn := true } else if ng x ^^ ng y then { g with cnt := g.cnt + 1, dn := true } else { g with cnt := g.cnt + 1, up := true }) from if_neg h]
  by_cases hn : isN x = true ∨ isN y = true ∨ mg x = 0 ∨ mg y = 0
  · have e : nanB x y = true := by
      unfold nanB
      rcases hn with h | h | h | h
      · rw [h]; rfl
      · rw [h]; simp
      · rw [decide_eq_true h]; simp
      · rw [decide_eq_true h]; simp
    rw [if_pos hn, e]; simp
  · have e : nanB x y = false := by
      unfold nanB
      rw [decide_eq_false (fun k => hn (.inr (.inr (.inl k)))), decide_eq_false (fun k => hn (.inr (.inr (.inr k))))]
      have h1 : isN x = false := by cases h : isN x; rfl; exact absurd (.inl h) hn
      have h2 : isN y = false := by cases h : isN y; rfl; exact absurd (.inr (.inl h)) hn
      rw [h1, h2]; rfl
    rw [if_neg hn, e]
    cases ng x <;> cases ng y <;> simp
/-- what the walk sees of a factor. -/
theorem fac_cases (x : Nat) :
    (pK x = 1 ∧ pM x = 0 ∧ pE x = 0 ∧ isN x = false ∧ decide (mg x = 0) = false ∧ ¬ mg x < INF) ∨ (pK x = 2 ∧ pM x = 0 ∧ pE x = 0 ∧ isN x = true ∧ decide (mg x = 0) = false ∧ ¬ mg x < INF) ∨
    (pK x = 0 ∧ pM x = 0 ∧ isN x = false ∧ decide (mg x = 0) = true ∧ mg x < INF) ∨ (pK x = 0 ∧ (pM x ≠ 0 ∧ (pM x == 0) = false) ∧ isN x = false ∧ decide (mg x = 0) = false ∧ mg x < INF) := by
  have hI := INF_eq
  by_cases h : mg x < INF
  · have hk : pK x = 0 := if_pos h
    have hz := pM_zero h
    have hn := isN_false.2 (show mg x ≤ INF by omega)
    by_cases h0 : mg x = 0
    · exact .inr (.inr (.inl ⟨hk, hz.2 h0, hn, decide_eq_true h0, h⟩))
    · exact .inr (.inr (.inr ⟨hk, ⟨fun k => h0 (hz.1 k), beq_eq_false_iff_ne.2 (fun k => h0 (hz.1 k))⟩, hn, decide_eq_false h0, h⟩))
  · have hm : pM x = 0 := if_neg h
    have he : pE x = 0 := if_neg h
    have hz : decide (mg x = 0) = false := decide_eq_false (by omega)
    by_cases h1 : mg x = INF
    · exact .inl ⟨by unfold pK; rw [if_neg h, if_pos h1], hm, he, isN_false.2 (by omega), hz, h⟩
    · exact .inr (.inl ⟨by unfold pK; rw [if_neg h, if_neg h1], hm, he, isN_true.2 (by omega), hz, h⟩)
def OddFacts (g g' : AccG) (x y : Nat) : Prop := g'.X = g.X ∧ g'.cnt = g.cnt + 1 ∧ g'.nz = g.nz ∧ g'.nn = (g.nn || nanB x y) ∧ g'.dn = (g.dn || (!nanB x y && (ng x != ng y))) ∧ g'.up = (g.up || (!nanB x y && !(ng x != ng y)))
theorem odd_close {w w' : World} {b : Nat} {g g' : AccG} {l : Nat → Int} {x y : Nat} {nan neg : Bool} (hf : OddFacts g g' x y) (hX : SR l 136 = g.X) (hL : Lim l (g.cnt + 1)) (hot : decide (g.nz ≠ g.cnt + 1) = true)
    (hn : nanB x y = nan) (hs : (ng x != ng y) = neg) (h : RefAt w' b { l := l, cnt := g.cnt + 1, pl := g.up || (!nan && !neg), mi := g.dn || (!nan && neg), no := g.nn || nan, ot := true }) (_hc : Chg b w w') : RefIs w' b g' := by
  obtain ⟨f1, f2, f3, f4, f5, f6⟩ := hf
  refine ⟨l, by rw [hX, f1], by rw [f2]; exact hL, ?_⟩
  rw [f2, f3, f4, f5, f6, hn, hs, hot]
  exact h

set_option maxRecDepth 100000 in
set_option maxHeartbeats 4000000 in
theorem rmul_odd (b : Nat) (g g' : AccG) (w : World) (h : RefIs w b g) (ok : GOk g) (x y : Nat) (hx : W64 x) (hy : W64 y) (hc : g.cnt < 1048576) (hfin : ¬ (mg x < INF ∧ mg y < INF)) (hg' : g' = mulG g x y) :
    Calls Try.prog 21 #[.pointer (some ⟨b, 0, none⟩), .float .f64 x, .float .f64 y] w (RAddP w b g' 0) := by
  have hfacts : OddFacts g g' x y := by rw [hg', mulG_odd g hfin]; exact ⟨rfl, rfl, rfl, rfl, rfl, rfl⟩
  obtain ⟨l, hX, hL, h⟩ := h
  obtain ⟨c, f⟩ := h.cnt
  have c0 := ok.c0
  have z0 := ok.z0
  have z9 := ok.z9
  have KP1 := Lib.hid fun w => rparts_any x hx w
  have KP2 := Lib.hid fun w => rparts_any y hy w
  have CX := fac_cases x
  have CY := fac_cases y
  obtain ⟨C, hC⟩ : ∃ C, C = g.cnt := ⟨_, rfl⟩
  have HC := Lib.hid hC
  have HH := Lib.hid (h.setCnt (g.cnt + 1))
  have HG := Lib.hid ((Chg.refl b w).set 136 (.int .i64 (g.cnt + 1)))
  have LIM : Hid (Lim l (g.cnt + 1)) := Lib.hid (fun i hi => by have := hL i hi; omega)
  have HO := Lib.hid (show decide (g.nz ≠ g.cnt + 1) = true from decide_eq_true (by omega))
  have HF := Lib.hid (⟨hfacts, hX⟩ : _ ∧ _)
  dsimp only at c
  rw [← hC] at HH HG c c0 hc
  obtain ⟨M1, e1⟩ : ∃ z, z = pM x := ⟨_, rfl⟩
  obtain ⟨M2, e2⟩ : ∃ z, z = pM y := ⟨_, rfl⟩
  obtain ⟨K1, e3⟩ : ∃ z, z = pK x := ⟨_, rfl⟩
  obtain ⟨K2, e4⟩ : ∃ z, z = pK y := ⟨_, rfl⟩
  obtain ⟨E1, e5⟩ : ∃ z, z = pE x := ⟨_, rfl⟩
  obtain ⟨E2, e6⟩ : ∃ z, z = pE y := ⟨_, rfl⟩
  obtain ⟨s, e7⟩ : ∃ z, z = ng x := ⟨_, rfl⟩
  obtain ⟨o, e8⟩ : ∃ z, z = ng y := ⟨_, rfl⟩
  rw [← e1, ← e3, ← e5] at CX
  rw [← e2, ← e4, ← e6] at CY
  rw [← e1, ← e3, ← e5, ← e7] at KP1
  rw [← e2, ← e4, ← e6, ← e8] at KP2
  have HS := Lib.hid (show (ng x != ng y) = (s != o) by rw [e7, e8])
  clear e1 e2 e3 e4 e5 e6 e7 e8 hX hL h hC ok z0 z9 hfacts hg' hx hy
  have NB : ∀ p q r t : Bool, isN x = p → isN y = q → decide (mg x = 0) = r → decide (mg y = 0) = t → nanB x y = (p || q || r || t) := by intro p q r t a b c d; unfold nanB; rw [a, b, c, d]
  rcases CX with ⟨rfl, rfl, rfl, x1, x2, -⟩ | ⟨rfl, rfl, rfl, x1, x2, -⟩ | ⟨rfl, rfl, x1, x2, x3⟩ | ⟨rfl, ⟨x4, x5⟩, x1, x2, x3⟩ <;> rcases CY with ⟨rfl, rfl, rfl, y1, y2, -⟩ | ⟨rfl, rfl, rfl, y1, y2, -⟩ | ⟨rfl, rfl, y1, y2, y3⟩ | ⟨rfl, ⟨y4, y5⟩, y1, y2, y3⟩
  all_goals
    first
    | (exfalso; apply hfin; constructor <;> assumption)
    | (have HN := Lib.hid (NB _ _ _ _ x1 y1 x2 y2)
       clear NB x1 x2 y1 y2 hfin
       go_enter Try.func21, Try.ntmps21
       go_wp2_with (first | (go_at_call 40; ((with_reducible refine (KP1.out _).mono ?_)); rintro e w' ⟨rfl, rfl⟩) | (go_at_call 40; ((with_reducible refine (KP2.out _).mono ?_)); rintro e w' ⟨rfl, rfl⟩))
       refine (rodd_any b _ _ HH.out _ _).mono ?_
       rintro x' w' ⟨rfl, a1, a2⟩
       have HP := Lib.hid (⟨a1, a2⟩ : _ ∧ _)
       clear a1 a2
       go_wp2_with fail
       go_ret
       exact ⟨rfl, odd_close HF.out.1 HF.out.2 LIM.out HO.out HN.out HS.out (HP.out.1.ext (fun _ _ => rfl) (by show C + 1 = g.cnt + 1; rw [HC.out]) (by first | rfl | (simp [*]; done)) (by first | rfl | (simp [*]; done)) (by first | rfl | (simp [*]; done)) rfl) (HG.out.trans HP.out.2), HG.out.trans HP.out.2⟩)
theorem sgn_mul {x y : Nat} (hx : mg x < INF) (hy : mg y < INF) : sgn (ng x != ng y) (pM x * pM y) * 2 ^ (E (mg x) + E (mg y) + 28) = iv x * iv y * 268435456 := by
  have h := prod_val (x := x) (y := y) 0
  rw [show ((E (mg x) : Int) - 1074 + ((E (mg y) : Int) - 1074) + 2176).toNat = E (mg x) + E (mg y) + 28 by omega] at h
  have hd := Int.emod_add_mul_ediv ((M (mg x) : Int) * (M (mg y) : Int)) 18446744073709551616
  rw [show (M (mg x) : Int) * (M (mg y) : Int) / 18446744073709551616 * 18446744073709551616 + (M (mg x) : Int) * (M (mg y) : Int) % 18446744073709551616 = (M (mg x) : Int) * (M (mg y) : Int) by rw [Int.mul_comm ((M (mg x) : Int) * (M (mg y) : Int) / 18446744073709551616)]; omega] at h
  rw [pM_is hx, pM_is hy]
  have hs : (ng x != ng y) = (ng x ^^ ng y) := by cases ng x <;> cases ng y <;> rfl
  rw [hs]
  unfold sgn
  cases hc : ng x ^^ ng y
  · rw [hc, if_neg Bool.false_ne_true, Int.zero_add, Int.zero_add] at h
    rw [if_neg Bool.false_ne_true]; exact h
  · rw [hc, if_pos rfl, Int.zero_add] at h
    rw [if_pos rfl, Int.neg_mul]; omega
/-- four halves' products. -/
def mulL (l : Nat → Int) (s : Bool) (a b c d : Int) (q r : Nat) (i j : Nat) : Nat → Int :=
  if i = 0 then (if j = 0 then l else if j = 1 then addP l s (a * c) q r else addP (addP l s (a * c) q r) s (a * d) (q + 1) r)
  else if i = 1 then (if j = 0 then addP (addP l s (a * c) q r) s (a * d) (q + 1) r else if j = 1 then addP (addP (addP l s (a * c) q r) s (a * d) (q + 1) r) s (b * c) (q + 1) r
    else addP (addP (addP (addP l s (a * c) q r) s (a * d) (q + 1) r) s (b * c) (q + 1) r) s (b * d) (q + 2) r)
  else addP (addP (addP (addP l s (a * c) q r) s (a * d) (q + 1) r) s (b * c) (q + 1) r) s (b * d) (q + 2) r
theorem SR_mulL (l : Nat → Int) (s : Bool) (m k : Int) {q r : Nat} (h : q + 4 < 136) :
    SR (mulL l s (m % 4294967296) (m / 4294967296) (k % 4294967296) (k / 4294967296) q r 2 0) 136 = SR l 136 + sgn s (m * k) * 2 ^ (32 * q + r) := by
  unfold mulL
  rw [if_neg (by omega), if_neg (by omega), SR_addP _ _ _ _ _ _ (by omega), SR_addP _ _ _ _ _ _ (by omega), SR_addP _ _ _ _ _ _ (by omega), SR_addP _ _ _ _ _ _ (by omega)]
  have hm := Int.emod_add_mul_ediv m 4294967296
  have hk := Int.emod_add_mul_ediv k 4294967296
  rw [show 32 * (q + 1) + r = (32 * q + r) + 32 by omega, show 32 * (q + 2) + r = (32 * q + r) + 64 by omega]
  generalize 32 * q + r = u
  rw [Int.pow_add _ u 32, Int.pow_add _ u 64, show (2 : Int) ^ 32 = 4294967296 from rfl, show (2 : Int) ^ 64 = 18446744073709551616 from rfl]
  generalize (2 : Int) ^ u = p
  have e : m * k = (m % 4294967296) * (k % 4294967296) + 4294967296 * ((m % 4294967296) * (k / 4294967296)) + 4294967296 * ((m / 4294967296) * (k % 4294967296)) + 18446744073709551616 * ((m / 4294967296) * (k / 4294967296)) := by
    conv => lhs; rw [← hm, ← hk]
    grind
  generalize m % 4294967296 * (k % 4294967296) = t1 at *
  generalize m % 4294967296 * (k / 4294967296) = t2 at *
  generalize m / 4294967296 * (k % 4294967296) = t3 at *
  generalize m / 4294967296 * (k / 4294967296) = t4 at *
  rw [e]
  have e2 : sgn s (t1 + 4294967296 * t2 + 4294967296 * t3 + 18446744073709551616 * t4) = sgn s t1 + 4294967296 * sgn s t2 + 4294967296 * sgn s t3 + 18446744073709551616 * sgn s t4 := by unfold sgn; split <;> omega
  rw [e2]
  generalize sgn s t1 = u1
  generalize sgn s t2 = u2
  generalize sgn s t3 = u3
  generalize sgn s t4 = u4
  grind
theorem prod_range {a c : Int} (a0 : 0 ≤ a) (a9 : a < 4294967296) (c0 : 0 ≤ c) (c9 : c < 4294967296) : 0 ≤ a * c ∧ a * c < 18446744073709551616 := by
  have h := Int.mul_le_mul (show a ≤ 4294967295 by omega) (show c ≤ 4294967295 by omega) c0 (by decide)
  exact ⟨Int.mul_nonneg a0 c0, by omega⟩
/-- each limb stays near, at each stage. -/
theorem mulL_near (l : Nat → Int) (s : Bool) {a b c d : Int} {q r : Nat} (a0 : 0 ≤ a) (a9 : a < 4294967296) (b0 : 0 ≤ b) (b9 : b < 4294967296) (c0 : 0 ≤ c) (c9 : c < 4294967296) (d0 : 0 ≤ d) (d9 : d < 4294967296) (hr : r < 32) (i j z : Nat) :
    l z - 34359738368 ≤ mulL l s a b c d q r i j z ∧ mulL l s a b c d q r i j z ≤ l z + 34359738368 := by
  obtain ⟨p0, p9⟩ := prod_range a0 a9 c0 c9
  obtain ⟨q0, q9⟩ := prod_range a0 a9 d0 d9
  obtain ⟨r0, r9⟩ := prod_range b0 b9 c0 c9
  obtain ⟨s0, s9⟩ := prod_range b0 b9 d0 d9
  have h1 := addP_near l s q p0 p9 hr z
  have h2 := addP_near (addP l s (a * c) q r) s (q + 1) q0 q9 hr z
  have h3 := addP_near (addP (addP l s (a * c) q r) s (a * d) (q + 1) r) s (q + 1) r0 r9 hr z
  have h4 := addP_near (addP (addP (addP l s (a * c) q r) s (a * d) (q + 1) r) s (b * c) (q + 1) r) s (q + 2) s0 s9 hr z
  unfold mulL
  split
  · split
    · omega
    · split <;> omega
  · split
    · split
      · omega
      · split <;> omega
    · omega
end Go.Proofs.Ytneedadoafcfcaa
