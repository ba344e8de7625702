/- Add, AddProduct, Merge. -/
import Derived.Test.YtneedadoafcfcaaAccQ
namespace Go.Proofs.Ytneedadoafcfcaa
open Go Go.RowKit TF

attribute [local go_sem] cmp_eq cmp_ne cmp_lt cmp_gt cmp_le cmp_ge

theorem room_any (b : Nat) (s : AccS) (w : World) (h : AccAt w b s) (n r : Int) (c0 : 0 ≤ s.cnt) (c9 : s.cnt ≤ 1048576) (n0 : 0 ≤ n) (n9 : n ≤ 1048576) (hr : r = if 1048576 < s.cnt + n then 3 else 0) :
    Calls Try.prog 27 #[.pointer (some ⟨b, 0, none⟩), .int .i64 n] w fun e w' => e = .returned (.int .i64 r) ∧ w = w' := by
  obtain ⟨c, -⟩ := h.cnt
  obtain ⟨C, hC⟩ : ∃ C, C = s.cnt := ⟨_, rfl⟩
  rw [← hC] at c c0 c9 hr
  clear hC h
  by_cases hb : 1048576 < C + n
  · rw [if_pos hb] at hr
    subst hr
    go_enter Try.func27, Try.ntmps27
    go_wp2_with fail
    go_ret
    exact ⟨rfl, rfl⟩
  · rw [if_neg hb] at hr
    subst hr
    go_enter Try.func27, Try.ntmps27
    go_wp2_with fail
    go_ret
    exact ⟨rfl, rfl⟩
theorem room_nil (n : Int) (w : World) :
    Calls Try.prog 27 #[.pointer none, .int .i64 n] w fun e w' => e = .returned (.int .i64 2) ∧ w = w' := by
  go_enter Try.func27, Try.ntmps27
  go_wp2_with fail
  go_ret
  exact ⟨rfl, rfl⟩
theorem odd_cases {x : Nat} (hx : W64 x) :
    (isN x = true ∧ eqW x x = false) ∨ (isN x = false ∧ eqW x x = true ∧ mg x = INF ∧ ng x = false ∧ ltW 9218868437227405311 x = true ∧ ltW 9218868437227405311 (mg x) = true) ∨
    (isN x = false ∧ eqW x x = true ∧ mg x = INF ∧ ng x = true ∧ ltW 9218868437227405311 x = false ∧ ltW 9218868437227405311 (op x) = true ∧ ltW 9218868437227405311 (mg x) = true) ∨
    (isN x = false ∧ eqW x x = true ∧ mg x < INF ∧ ltW 9218868437227405311 x = false ∧ ltW 9218868437227405311 (op x) = false ∧ ltW 9218868437227405311 (mg x) = false) := by
  have hI := INF_eq
  have h1 : isN 9218868437227405311 = false := by decide
  have r1 : rk 9218868437227405311 = 9218868437227405311 := rk_small (by omega)
  have hop := rk_op hx
  have hmo := mg_op hx
  have hmm : isN (mg x) = isN x := isN_mg x
  have hno : isN (op x) = isN x := by unfold isN; rw [hmo]
  have rm : rk (mg x) = mg x := rk_small (mg_lt x)
  have hrk : rk x = if ng x then -(mg x : Int) else mg x := rfl
  unfold ltW
  rw [h1, r1, hmm, hno, hop, rm, eqW_self]
  by_cases hN : isN x = true
  · exact .inl ⟨hN, by rw [hN]; rfl⟩
  · rw [Bool.not_eq_true] at hN
    have hm := isN_false.1 hN
    rw [hN, hrk]
    simp only [Bool.not_false, Bool.true_and, decide_eq_true_eq, decide_eq_false_iff_not]
    right
    rcases Nat.lt_or_ge (mg x) INF with h | h
    · right; right
      refine ⟨trivial, trivial, h, ?_, ?_, ?_⟩
      all_goals cases ng x <;> simp <;> omega
    · cases hg : ng x
      · left; refine ⟨trivial, trivial, by omega, rfl, ?_, ?_⟩ <;> (first | omega | (simp; done) | (simp; omega))
      · right; left; refine ⟨trivial, trivial, by omega, rfl, ?_, ?_, ?_⟩ <;> (first | omega | (simp; done) | (simp; omega))

def OddP (w : World) (b : Nat) (s : AccS) (r : Bool) (e : Ending) (w' : World) : Prop := e = .returned (.bool r) ∧ AccAt w' b s ∧ Chg b w w'
theorem odd_nan (b : Nat) (s : AccS) (w : World) (h : AccAt w b s) (x : Nat) (hx : eqW x x = false) :
    Calls Try.prog 29 #[.pointer (some ⟨b, 0, none⟩), .float .f64 x] w (OddP w b { s with nn := true } true) := by
  obtain ⟨c, d⟩ := h.nn
  have K := Lib.hid (⟨h.setNn true, (Chg.refl b w).set 74 (.bool true)⟩ : _ ∧ _)
  clear h
  go_enter Try.func29, Try.ntmps29
  go_wp2_with (first | (go_at_call 46; ((with_reducible refine (isnan_any _ _).mono ?_)); rintro e w' ⟨rfl, rfl⟩))
  go_ret
  exact ⟨rfl, K.out.1, K.out.2⟩
theorem odd_up (b : Nat) (s : AccS) (w : World) (h : AccAt w b s) (x : Nat) (hx : eqW x x = true) (h1 : ltW 9218868437227405311 x = true) :
    Calls Try.prog 29 #[.pointer (some ⟨b, 0, none⟩), .float .f64 x] w (OddP w b { s with up := true } true) := by
  obtain ⟨c, d⟩ := h.up
  have K := Lib.hid (⟨h.setUp true, (Chg.refl b w).set 72 (.bool true)⟩ : _ ∧ _)
  clear h
  go_enter Try.func29, Try.ntmps29
  go_wp2_with (first | (go_at_call 46; ((with_reducible refine (isnan_any _ _).mono ?_)); rintro e w' ⟨rfl, rfl⟩) | (go_at_call 47; ((with_reducible refine (isinf_up _ _).mono ?_)); rintro e w' ⟨rfl, rfl⟩))
  go_ret
  exact ⟨rfl, K.out.1, K.out.2⟩
theorem odd_dn (b : Nat) (s : AccS) (w : World) (h : AccAt w b s) (x : Nat) (h64 : W64 x) (hx : eqW x x = true) (h1 : ltW 9218868437227405311 x = false) (h2 : ltW 9218868437227405311 (op x) = true) :
    Calls Try.prog 29 #[.pointer (some ⟨b, 0, none⟩), .float .f64 x] w (OddP w b { s with dn := true } true) := by
  obtain ⟨c, d⟩ := h.dn
  have K := Lib.hid (⟨h.setDn true, (Chg.refl b w).set 73 (.bool true)⟩ : _ ∧ _)
  clear h
  go_enter Try.func29, Try.ntmps29
  go_wp2_with (first | (go_at_call 46; ((with_reducible refine (isnan_any _ _).mono ?_)); rintro e w' ⟨rfl, rfl⟩) | (go_at_call 47; ((with_reducible refine (isinf_up _ _).mono ?_)); rintro e w' ⟨rfl, rfl⟩) | (go_at_call 47; ((with_reducible refine (isinf_dn _ (by assumption) _).mono ?_)); rintro e w' ⟨rfl, rfl⟩))
  go_ret
  exact ⟨rfl, K.out.1, K.out.2⟩
theorem odd_no (b : Nat) (w : World) (x : Nat) (h64 : W64 x) (hx : eqW x x = true) (h1 : ltW 9218868437227405311 x = false) (h2 : ltW 9218868437227405311 (op x) = false) :
    Calls Try.prog 29 #[.pointer (some ⟨b, 0, none⟩), .float .f64 x] w fun e w' => e = .returned (.bool false) ∧ w = w' := by
  go_enter Try.func29, Try.ntmps29
  go_wp2_with (first | (go_at_call 46; ((with_reducible refine (isnan_any _ _).mono ?_)); rintro e w' ⟨rfl, rfl⟩) | (go_at_call 47; ((with_reducible refine (isinf_up _ _).mono ?_)); rintro e w' ⟨rfl, rfl⟩) | (go_at_call 47; ((with_reducible refine (isinf_dn _ (by assumption) _).mono ?_)); rintro e w' ⟨rfl, rfl⟩))
  go_ret
  exact ⟨rfl, rfl⟩
/-- what a call of Add leaves. -/
def AddP (w : World) (b : Nat) (g : AccG) (r : Int) (e : Ending) (w' : World) : Prop := e = .returned (.int .i64 r) ∧ AccIs w' b g ∧ Chg b w w'
theorem put_val {x : Nat} : ((0 : Int) * 18446744073709551616 + (M (mg x) : Int)) * 2 ^ ((E (mg x) : Int) - 1074 + 2176).toNat = (V (mg x) : Int) * KA := by
  have hT : TA = 1102 := rfl
  have e : ((E (mg x) : Int) - 1074 + 2176).toNat = E (mg x) + TA := by omega
  rw [e, Int.pow_add, Int.zero_mul, Int.zero_add]
  unfold V KA
  rw [Int.natCast_mul, Int.natCast_pow, ← Int.mul_assoc]; rfl
theorem add_val {x : Nat} (X : Int) : (if ng x = true then X - ((0 : Int) * 18446744073709551616 + (M (mg x) : Int)) * 2 ^ ((E (mg x) : Int) - 1074 + 2176).toNat else X + ((0 : Int) * 18446744073709551616 + (M (mg x) : Int)) * 2 ^ ((E (mg x) : Int) - 1074 + 2176).toNat) = X + iv x * KA := by
  rw [put_val]
  unfold iv
  split
  · rw [Int.neg_mul]; omega
  · rfl
theorem add_some (b : Nat) (g : AccG) (w : World) (h : AccIs w b g) (ok : GOk g) (x : Nat) (hx : W64 x) (hc : g.cnt < 1048576) :
    Calls Try.prog 17 #[.pointer (some ⟨b, 0, none⟩), .float .f64 x] w (AddP w b (addG g x) 0) := by
  obtain ⟨d, hX, h⟩ := h
  obtain ⟨c, f⟩ := h.cnt
  obtain ⟨cz, fz⟩ := h.nz
  have c0 := ok.c0
  have z0 := ok.z0
  have z9 := ok.z9
  have KR := Lib.hid fun w' (hw : AccAt w' b ⟨d, g.cnt, g.nz, g.up, g.dn, g.nn⟩) => (room_any b _ w' hw 1 0 ok.c0 ok.c9 (by omega) (by omega) (by rw [if_neg (by dsimp only; omega)]))
  have HX := Lib.hid hX
  have C1 := (Chg.refl b w).set 70 (.int .i64 (g.cnt + 1))
  have H1 := h.setCnt (g.cnt + 1)
  have HH := Lib.hid (⟨C1, H1⟩ : _ ∧ _)
  clear hX ok C1 H1
  rcases odd_cases hx with ⟨o1, o2⟩ | ⟨o1, o2, o3, o4, o5, o6⟩ | ⟨o1, o2, o3, o4, o5, o6, o7⟩ | ⟨o1, o2, o3, o4, o5, o6⟩
  · have eg : addG g x = { g with cnt := g.cnt + 1, nn := true } := if_pos o1
    rw [eg]; clear eg
    go_enter Try.func17, Try.ntmps17
    go_wp2_with (go_at_call 27; ((with_reducible refine (KR.out _ h).mono ?_)); rintro e w' ⟨rfl, rfl⟩)
    refine (odd_nan b _ _ HH.out.2 x o2).mono ?_
    rintro e w' ⟨rfl, ha, hch⟩
    have K2 := Lib.hid (⟨ha, hch⟩ : _ ∧ _)
    clear ha hch
    go_wp2_with fail
    go_ret
    exact ⟨rfl, ⟨d, HX.out, K2.out.1⟩, HH.out.1.trans K2.out.2⟩
  · have eg : addG g x = { g with cnt := g.cnt + 1, up := true } := by unfold addG; rw [if_neg (by rw [o1]; simp), if_pos o3, if_neg (by rw [o4]; simp)]
    rw [eg]; clear eg o3
    go_enter Try.func17, Try.ntmps17
    go_wp2_with (go_at_call 27; ((with_reducible refine (KR.out _ h).mono ?_)); rintro e w' ⟨rfl, rfl⟩)
    refine (odd_up b _ _ HH.out.2 x o2 o5).mono ?_
    rintro e w' ⟨rfl, ha, hch⟩
    have K2 := Lib.hid (⟨ha, hch⟩ : _ ∧ _)
    clear ha hch
    go_wp2_with fail
    go_ret
    exact ⟨rfl, ⟨d, HX.out, K2.out.1⟩, HH.out.1.trans K2.out.2⟩
  · have eg : addG g x = { g with cnt := g.cnt + 1, dn := true } := by unfold addG; rw [if_neg (by rw [o1]; simp), if_pos o3, if_pos o4]
    rw [eg]; clear eg o3
    go_enter Try.func17, Try.ntmps17
    go_wp2_with (go_at_call 27; ((with_reducible refine (KR.out _ h).mono ?_)); rintro e w' ⟨rfl, rfl⟩)
    refine (odd_dn b _ _ HH.out.2 x hx o2 o5 o6).mono ?_
    rintro e w' ⟨rfl, ha, hch⟩
    have K2 := Lib.hid (⟨ha, hch⟩ : _ ∧ _)
    clear ha hch
    go_wp2_with fail
    go_ret
    exact ⟨rfl, ⟨d, HX.out, K2.out.1⟩, HH.out.1.trans K2.out.2⟩
  · have eg : addG g x = { g with cnt := g.cnt + 1, X := g.X + iv x * KA, nz := g.nz + if mg x = 0 ∧ ng x = true then 1 else 0 } := by unfold addG; rw [if_neg (by rw [o1]; simp), if_neg (by omega)]
    rw [eg]; clear eg
    obtain ⟨m, hm⟩ : ∃ m : Int, m = M (mg x) := ⟨_, rfl⟩
    obtain ⟨e, he⟩ : ∃ e : Int, e = (E (mg x) : Int) - 1074 := ⟨_, rfl⟩
    obtain ⟨s, hs⟩ : ∃ s, s = ng x := ⟨_, rfl⟩
    have hM := M_lt (mg x)
    have hI := INF_eq
    have hE : E (mg x) ≤ 2045 := by unfold E; omega
    have KP := Lib.hid fun w => parts_any x hx o3 m e hm he w
    have KS := Lib.hid fun w => (by rw [hs]; exact signbit_any x hx w : Calls Try.prog 30 #[.float .f64 x] w fun e w' => e = .returned (.bool s) ∧ w = w')
    have hz0 : eqW x 0 = decide (mg x = 0) := by rw [eqW_zero, o1]; rfl
    have m0 : 0 ≤ m := by omega
    have m9 : m < 9007199254740992 := by omega
    have e0 : -1074 ≤ e := by omega
    have e9 : e ≤ 971 := by omega
    have hval := add_val (x := x) g.X
    rw [← hm, ← he, ← hs] at hval
    have HV := Lib.hid hval
    have KO := Lib.hid fun w => (odd_no b w x hx o2 o4 o5)
    by_cases hz : mg x = 0
    · rw [decide_eq_true hz] at hz0
      cases s
      · have ez : (if mg x = 0 ∧ ng x = true then (1 : Int) else 0) = 0 := if_neg (by rw [← hs]; simp)
        rw [ez, Int.add_zero]
        have PUT := Lib.hid fun w' (hw : AccAt w' b ⟨d, g.cnt + 1, g.nz, g.up, g.dn, g.nn⟩) => put_is b d _ _ _ _ _ g.X w' hw HX.out false 0 m e (by omega) (by omega) (by omega) (by omega) m0 (by omega)
        clear hs hM hE hm he hval hz ez o1 o2 o3 o4 o5 o6 hI
        go_enter Try.func17, Try.ntmps17
        go_wp2_with (first | (go_at_call 27; ((with_reducible refine (KR.out _ h).mono ?_)); rintro e w' ⟨rfl, rfl⟩) | (go_at_call 29; ((with_reducible refine (KO.out _).mono ?_)); rintro e w' ⟨rfl, rfl⟩) | (go_at_call 30; ((with_reducible refine (KS.out _).mono ?_)); rintro e w' ⟨rfl, rfl⟩) | (go_at_call 31; ((with_reducible refine (KP.out _).mono ?_)); rintro e w' ⟨rfl, rfl⟩))
        refine (PUT.out _ HH.out.2).mono ?_
        rintro e' w' ⟨rfl, ha, hch⟩
        have K2 := Lib.hid (⟨ha, hch⟩ : _ ∧ _)
        clear ha hch
        go_wp2_with fail
        go_ret
        refine ⟨rfl, ?_, HH.out.1.trans K2.out.2⟩
        rw [← HV.out]; exact K2.out.1
      · have ez : (if mg x = 0 ∧ ng x = true then (1 : Int) else 0) = 1 := if_pos ⟨hz, hs.symm⟩
        rw [ez]
        have PUT := Lib.hid fun w' (hw : AccAt w' b ⟨d, g.cnt + 1, g.nz + 1, g.up, g.dn, g.nn⟩) => put_is b d _ _ _ _ _ g.X w' hw HX.out true 0 m e (by omega) (by omega) (by omega) (by omega) m0 (by omega)
        have HZ := Lib.hid (⟨HH.out.1.set 71 (.int .i64 (g.nz + 1)), HH.out.2.setNz (g.nz + 1)⟩ : _ ∧ _)
        clear hs hM hE hm he hval hz ez o1 o2 o3 o4 o5 o6 hI
        go_enter Try.func17, Try.ntmps17
        go_wp2_with (first | (go_at_call 27; ((with_reducible refine (KR.out _ h).mono ?_)); rintro e w' ⟨rfl, rfl⟩) | (go_at_call 29; ((with_reducible refine (KO.out _).mono ?_)); rintro e w' ⟨rfl, rfl⟩) | (go_at_call 30; ((with_reducible refine (KS.out _).mono ?_)); rintro e w' ⟨rfl, rfl⟩) | (go_at_call 31; ((with_reducible refine (KP.out _).mono ?_)); rintro e w' ⟨rfl, rfl⟩))
        refine (PUT.out _ HZ.out.2).mono ?_
        rintro e' w' ⟨rfl, ha, hch⟩
        have K2 := Lib.hid (⟨ha, hch⟩ : _ ∧ _)
        clear ha hch
        go_wp2_with fail
        go_ret
        refine ⟨rfl, ?_, HZ.out.1.trans K2.out.2⟩
        rw [← HV.out]; exact K2.out.1
    · rw [decide_eq_false hz] at hz0
      have ez : (if mg x = 0 ∧ ng x = true then (1 : Int) else 0) = 0 := if_neg (by omega)
      rw [ez, Int.add_zero]
      have PUT := Lib.hid fun w' (hw : AccAt w' b ⟨d, g.cnt + 1, g.nz, g.up, g.dn, g.nn⟩) => put_is b d _ _ _ _ _ g.X w' hw HX.out s 0 m e (by omega) (by omega) (by omega) (by omega) m0 (by omega)
      clear hs hM hE hm he hval hz ez o1 o2 o3 o4 o5 o6 hI
      go_enter Try.func17, Try.ntmps17
      go_wp2_with (first | (go_at_call 27; ((with_reducible refine (KR.out _ h).mono ?_)); rintro e w' ⟨rfl, rfl⟩) | (go_at_call 29; ((with_reducible refine (KO.out _).mono ?_)); rintro e w' ⟨rfl, rfl⟩) | (go_at_call 30; ((with_reducible refine (KS.out _).mono ?_)); rintro e w' ⟨rfl, rfl⟩) | (go_at_call 31; ((with_reducible refine (KP.out _).mono ?_)); rintro e w' ⟨rfl, rfl⟩))
      refine (PUT.out _ HH.out.2).mono ?_
      rintro e' w' ⟨rfl, ha, hch⟩
      have K2 := Lib.hid (⟨ha, hch⟩ : _ ∧ _)
      clear ha hch
      go_wp2_with fail
      go_ret
      refine ⟨rfl, ?_, HH.out.1.trans K2.out.2⟩
      rw [← HV.out]; exact K2.out.1
theorem add_full (b : Nat) (g : AccG) (w : World) (h : AccIs w b g) (ok : GOk g) (x : Nat) (hc : g.cnt = 1048576) :
    Calls Try.prog 17 #[.pointer (some ⟨b, 0, none⟩), .float .f64 x] w fun e w' => e = .returned (.int .i64 3) ∧ w = w' := by
  obtain ⟨d, hX, h⟩ := h
  have KR := Lib.hid fun w' (hw : AccAt w' b ⟨d, g.cnt, g.nz, g.up, g.dn, g.nn⟩) => (room_any b _ w' hw 1 3 ok.c0 ok.c9 (by omega) (by omega) (by rw [if_pos (by dsimp only; omega)]))
  clear hX ok hc
  go_enter Try.func17, Try.ntmps17
  go_wp2_with (go_at_call 27; ((with_reducible refine (KR.out _ h).mono ?_)); rintro e w' ⟨rfl, rfl⟩)
  go_ret
  exact ⟨rfl, rfl⟩
theorem add_nil (x : Nat) (w : World) :
    Calls Try.prog 17 #[.pointer none, .float .f64 x] w fun e w' => e = .returned (.int .i64 2) ∧ w = w' := by
  go_enter Try.func17, Try.ntmps17
  go_wp2_with (go_at_call 27; ((with_reducible refine (room_nil _ _).mono ?_)); rintro e w' ⟨rfl, rfl⟩)
  go_ret
  exact ⟨rfl, rfl⟩
theorem count_any (b : Nat) (g : AccG) (w : World) (h : AccIs w b g) :
    Calls Try.prog 18 #[.pointer (some ⟨b, 0, none⟩)] w fun e w' => e = .returned (.int .i64 g.cnt) ∧ w = w' := by
  obtain ⟨d, hX, h⟩ := h
  obtain ⟨c, f⟩ := h.cnt
  clear hX h
  go_enter Try.func18, Try.ntmps18
  go_wp2_with fail
  go_ret
  exact ⟨rfl, rfl⟩
theorem count_nil (w : World) :
    Calls Try.prog 18 #[.pointer none] w fun e w' => e = .returned (.int .i64 0) ∧ w = w' := by
  go_enter Try.func18, Try.ntmps18
  go_wp2_with fail
  go_ret
  exact ⟨rfl, rfl⟩
def ZAcc : Array Value := (List.replicate 70 (Value.int .u64 0) ++ [Value.int .i64 0, Value.int .i64 0, Value.bool false, Value.bool false, Value.bool false]).toArray
theorem zeroAcc : ∀ w : World, (zeroValue 55).run Try.prog w = .ok (.agg ZAcc) w := fun _ => by kernel_rfl
theorem ZAcc_word {i : Nat} (h : i < 70) : ZAcc[i]? = some (.int .u64 0) := by
  unfold ZAcc
  rw [List.getElem?_toArray, List.getElem?_append_left (by simpa using h), List.getElem?_replicate, if_pos h]
theorem alloc_cell {w : World} {cs : Array Value} {t : TypeId} {i : Nat} {v : Value} (h : cs[i]? = some v) : CellIs (w.alloc (.cells cs t)) w.heap.size i v := by
  refine ⟨?_, ?_⟩
  · rw [World.cell?_alloc_new]; exact h
  · simp
theorem new_is (w : World) : AccIs (w.alloc (.cells ZAcc 55)) w.heap.size newG :=
  ⟨fun _ => 0, Is.zero, fun _ hi => alloc_cell (ZAcc_word hi), alloc_cell rfl, alloc_cell rfl, alloc_cell rfl, alloc_cell rfl, alloc_cell rfl⟩
theorem new_any (w : World) :
    Calls Try.prog 11 #[] w fun e w' => e = .returned (.pointer (some ⟨w.heap.size, 0, none⟩)) ∧ w' = w.alloc (.cells ZAcc 55) := by
  have z := zeroAcc
  go_enter Try.func11, Try.ntmps11
  go_wp2_with fail
  go_ret
  exact ⟨rfl, rfl⟩
end Go.Proofs.Ytneedadoafcfcaa
