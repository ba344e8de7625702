/- The reference's New, Count, Add. -/
import Derived.Test.YtneedadoafcfcaaRfA
namespace Go.Proofs.Ytneedadoafcfcaa
open Go Go.RowKit TF

attribute [local go_sem] cmp_eq cmp_ne cmp_lt cmp_gt cmp_le cmp_ge

def ZRef : Array Value := (List.replicate 136 (Value.int .i64 0) ++ ([.int .i64 0, .bool false, .bool false, .bool false, .bool false] : List Value)).toArray
theorem zeroRef : ∀ w : World, (zeroValue 70).run Try.prog w = .ok (.agg ZRef) w := fun _ => by kernel_rfl
theorem ZRef_word {i : Nat} (h : i < 136) : ZRef[i]? = some (.int .i64 0) := by
  unfold ZRef
  rw [List.getElem?_toArray, List.getElem?_append_left (by simpa using h), List.getElem?_replicate, if_pos h]
theorem SR_zero : ∀ n, SR (fun _ => 0) n = 0 := by
  intro n
  induction n with
  | zero => rfl
  | succ n ih => simp only [SR]; rw [ih]; simp
set_option maxRecDepth 100000 in
theorem rnew_is (w : World) : RefIs (w.alloc (.cells ZRef 70)) w.heap.size newG :=
  ⟨fun _ => 0, SR_zero _, fun _ _ => ⟨by show -(0 * 34359738368) ≤ (0 : Int); decide, by show (0 : Int) ≤ 0 * 34359738368; decide⟩, fun _ hi => alloc_cell (ZRef_word hi), alloc_cell (by kernel_rfl), alloc_cell (by kernel_rfl), alloc_cell (by kernel_rfl), alloc_cell (by kernel_rfl), alloc_cell (by kernel_rfl)⟩
theorem rnew_any (w : World) :
    Calls Try.prog 19 #[] w fun e w' => e = .returned (.pointer (some ⟨w.heap.size, 0, none⟩)) ∧ w' = w.alloc (.cells ZRef 70) := by
  have z := zeroRef
  go_enter Try.func19, Try.ntmps19
  go_wp2_with fail
  go_ret
  exact ⟨rfl, rfl⟩
theorem rcount_any (b : Nat) (g : AccG) (w : World) (h : RefIs w b g) :
    Calls Try.prog 24 #[.pointer (some ⟨b, 0, none⟩)] w fun e w' => e = .returned (.int .i64 g.cnt) ∧ w = w' := by
  obtain ⟨d, hX, hL, h⟩ := h
  obtain ⟨c, f⟩ := h.cnt
  clear hX h hL
  go_enter Try.func24, Try.ntmps24
  go_wp2_with fail
  go_ret
  exact ⟨rfl, rfl⟩
theorem rcount_nil (w : World) :
    Calls Try.prog 24 #[.pointer none] w fun e w' => e = .returned (.int .i64 0) ∧ w = w' := by
  go_enter Try.func24, Try.ntmps24
  go_wp2_with fail
  go_ret
  exact ⟨rfl, rfl⟩
def RAddP (w : World) (b : Nat) (g : AccG) (r : Int) (e : Ending) (w' : World) : Prop := e = .returned (.int .i64 r) ∧ RefIs w' b g ∧ Chg b w w'
theorem radd_full (b : Nat) (g : AccG) (w : World) (h : RefIs w b g) (x : Nat) (hc : g.cnt = 1048576) :
    Calls Try.prog 20 #[.pointer (some ⟨b, 0, none⟩), .float .f64 x] w fun e w' => e = .returned (.int .i64 3) ∧ w = w' := by
  obtain ⟨d, hX, hL, h⟩ := h
  obtain ⟨c, f⟩ := h.cnt
  rw [show (⟨d, g.cnt, g.up, g.dn, g.nn, decide (g.nz ≠ g.cnt)⟩ : RefS).cnt = 1048576 from hc] at c
  clear hX h hL hc
  go_enter Try.func20, Try.ntmps20
  go_wp2_with fail
  go_ret
  exact ⟨rfl, rfl⟩
theorem radd_nil (x : Nat) (w : World) :
    Calls Try.prog 20 #[.pointer none, .float .f64 x] w fun e w' => e = .returned (.int .i64 2) ∧ w = w' := by
  go_enter Try.func20, Try.ntmps20
  go_wp2_with fail
  go_ret
  exact ⟨rfl, rfl⟩
theorem lim_room {l : Nat → Int} {c : Int} (h : Lim l c) (h9 : c ≤ 1048576) (k : Int) (hk : k ≤ 1048576) : ∀ i, i < 136 → -1152921500311879680 + k * 34359738368 ≤ l i ∧ l i ≤ 1152921500311879680 - k * 34359738368 := by
  intro i hi
  have := h.small h9 hi
  omega
theorem pM_zero {x : Nat} (h : mg x < INF) : pM x = 0 ↔ mg x = 0 := by
  unfold pM; rw [if_pos h]
  unfold M
  split <;> omega
theorem pM_range (x : Nat) : 0 ≤ pM x ∧ pM x < 9007199254740992 := by
  unfold pM; split
  · have := M_lt (mg x); omega
  · omega
theorem pE_range (x : Nat) : -1074 ≤ pE x ∧ pE x ≤ 971 := by
  unfold pE; split
  · have hI := INF_eq
    have : E (mg x) ≤ 2045 := by unfold E; omega
    omega
  · omega
theorem pE_is {x : Nat} (h : mg x < INF) : pE x = (E (mg x) : Int) - 1074 := if_pos h
theorem pM_is {x : Nat} (h : mg x < INF) : pM x = M (mg x) := if_pos h
/-- what a float adds. -/
theorem sgn_add {x : Nat} (h : mg x < INF) : sgn (ng x) (pM x) * 2 ^ (E (mg x) + TA) = iv x * KA := by
  have hp := put_val (x := x)
  have hT : TA = 1102 := rfl
  rw [Int.zero_mul, Int.zero_add, show ((E (mg x) : Int) - 1074 + 2176).toNat = E (mg x) + TA by omega] at hp
  unfold sgn iv
  rw [pM_is h]
  split
  · rw [Int.neg_mul, Int.neg_mul, hp]
  · exact hp
def otF (t : Bool) (m : Int) (s : Bool) : Bool := t || (decide (m ≠ 0) || !s)
theorem rot_close {nz cnt dz m : Int} {s t v : Bool} (h : (m = 0 ∧ s = true → dz = 1) ∧ (¬ (m = 0 ∧ s = true) → dz = 0)) (ht : t = decide (nz ≠ cnt)) (hl : nz ≤ cnt) (hv : v = (t || (decide (m ≠ 0) || !s))) : v = decide (nz + dz ≠ cnt + 1) := by
  rw [hv, ht]
  by_cases hm : m = 0
  · cases s
    · have := h.2 (by simp)
      rw [this, decide_eq_true (show nz + 0 ≠ cnt + 1 by omega)]; simp
    · have := h.1 ⟨hm, rfl⟩
      rw [this, decide_eq_false (show ¬ m ≠ 0 from fun k => k hm)]
      simp only [Bool.not_true, Bool.or_false]
      by_cases hn : nz = cnt
      · rw [hn]; simp
      · rw [decide_eq_true hn, decide_eq_true (show nz + 1 ≠ cnt + 1 by omega)]
  · have := h.2 (fun k => hm k.1)
    rw [this, decide_eq_true (show nz + 0 ≠ cnt + 1 by omega), decide_eq_true (show m ≠ 0 from hm)]; simp
set_option maxRecDepth 100000 in
theorem radd_some (b : Nat) (g : AccG) (w : World) (h : RefIs w b g) (ok : GOk g) (x : Nat) (hx : W64 x) (hc : g.cnt < 1048576) :
    Calls Try.prog 20 #[.pointer (some ⟨b, 0, none⟩), .float .f64 x] w (RAddP w b (addG g x) 0) := by
  obtain ⟨l, hX, hL, h⟩ := h
  obtain ⟨c, f⟩ := h.cnt
  have c0 := ok.c0
  have z0 := ok.z0
  have z9 := ok.z9
  have KP := Lib.hid fun w => rparts_any x hx w
  obtain ⟨C, hC⟩ : ∃ C, C = g.cnt := ⟨_, rfl⟩
  have HC := Lib.hid hC
  have KH := Lib.hid h
  have HL := Lib.hid (⟨hX, hL⟩ : _ ∧ _)
  by_cases hf : mg x < INF
  · obtain ⟨dz, hdz⟩ : ∃ z : Int, z = if mg x = 0 ∧ ng x = true then 1 else 0 := ⟨_, rfl⟩
    have eg := addG_fin g hf
    rw [← hdz] at eg
    rw [eg]
    obtain ⟨c6, f6⟩ := h.ot
    have hk : pK x = 0 := if_pos hf
    obtain ⟨m1, m2⟩ := pM_range x
    obtain ⟨e1, e2⟩ := pE_range x
    have hz := pM_zero hf
    have hadd := sgn_add hf
    have hE := pE_is hf
    obtain ⟨q, hq⟩ : ∃ q : Nat, q = (E (mg x) + TA) / 32 := ⟨_, rfl⟩
    obtain ⟨r, hr⟩ : ∃ q : Nat, q = (E (mg x) + TA) % 32 := ⟨_, rfl⟩
    have hT : TA = 1102 := rfl
    have hat : E (mg x) + TA = 32 * q + r := by omega
    rw [hat] at hadd
    obtain ⟨m, hm⟩ : ∃ m, m = pM x := ⟨_, rfl⟩
    obtain ⟨e, he⟩ : ∃ m, m = pE x := ⟨_, rfl⟩
    obtain ⟨s, hs⟩ : ∃ m, m = ng x := ⟨_, rfl⟩
    obtain ⟨t, ht⟩ : ∃ t, t = decide (g.nz ≠ g.cnt) := ⟨_, rfl⟩
    rw [hk, ← hm, ← he, ← hs] at KP
    rw [← hm, ← hs] at hadd
    rw [← hm] at m1 m2 hz
    rw [← ht] at c6
    dsimp only at c c6
    rw [← hC] at c c0 z9 hc
    have PUT := Lib.hid fun (t : Bool) w' (hw : RefAt w' b ⟨l, g.cnt + 1, g.up, g.dn, g.nn, t⟩) => rput_any b _ w' hw (fun i hi => by have := lim_room hL ok.c9 0 (by omega) i hi; dsimp only; omega) s m e q r (by omega) (by omega) (by omega) m1 (by omega)
    have HH := Lib.hid fun t : Bool => (h.setCnt (g.cnt + 1)).setOt t
    have HG := Lib.hid fun t : Bool => ((Chg.refl b w).set 136 (.int .i64 (g.cnt + 1))).set 140 (.bool t)
    rw [← hC] at PUT HH HG
    have ADD := Lib.hid (⟨hadd, addP_near l s q m1 (show m < 18446744073709551616 by omega) (show r < 32 by omega)⟩ : _ ∧ _)
    have CLOSE : Hid (∀ v : Bool, v = decide (g.nz + dz ≠ g.cnt + 1) → ∀ x' w', PutR ((w.setCell ⟨b, 136, none⟩ (.int .i64 (C + 1))).setCell ⟨b, 140, none⟩ (.bool v)) b ⟨l, C + 1, g.up, g.dn, g.nn, v⟩ s m q r x' w' →
        RefIs w' b { g with cnt := g.cnt + 1, X := g.X + iv x * KA, nz := g.nz + dz } ∧ Chg b w w') := Lib.hid fun v hv x' w' hp => by
      obtain ⟨-, p2, p3⟩ := hp
      refine ⟨⟨addP l s m q r, ?_, ?_, ?_⟩, (HG.out v).trans p3⟩
      · rw [SR_addP _ _ _ _ _ _ (by omega), ADD.out.1, hX]
      · intro i hi
        have a1 := ADD.out.2 i
        have a2 := hL i hi
        show -((g.cnt + 1) * 34359738368) ≤ _ ∧ _ ≤ (g.cnt + 1) * 34359738368
        omega
      · rw [← hv]
        rw [HC.out] at p2
        exact p2
    have ZC : Hid ((m = 0 ∧ s = true → dz = 1) ∧ (¬ (m = 0 ∧ s = true) → dz = 0)) :=
      Lib.hid ⟨fun hh => by rw [hdz]; exact if_pos ⟨hz.1 hh.1, by rw [← hs]; exact hh.2⟩, fun hh => by rw [hdz]; exact if_neg (fun k => hh ⟨hz.2 k.1, by rw [hs]; exact k.2⟩)⟩
    have HT := Lib.hid ht
    have CL : Hid (otF t m s = decide (g.nz + dz ≠ g.cnt + 1)) := Lib.hid (rot_close ZC.out ht (by rw [← hC]; exact z9) rfl)
    clear ZC
    clear hdz hX hL h hf eg hk e1 e2 hz hadd hE hq hr hT hat hm he hs ht hC ok z0 z9
    by_cases hm0 : m = 0
    · subst hm0
      cases s
      all_goals
        cases t
        all_goals
          go_enter Try.func20, Try.ntmps20
          go_wp2_with (first | (go_at_call 40; ((with_reducible refine (KP.out _).mono ?_)); rintro e w' ⟨rfl, rfl⟩))
          refine (PUT.out _ _ (HH.out _)).mono ?_
          rintro x' w' hp
          have hp1 := hp.1
          subst hp1
          have HP := Lib.hid hp
          clear hp
          go_wp2_with fail
          go_ret
          refine ⟨rfl, CLOSE.out _ ?_ _ _ HP.out⟩
          exact (show _ = otF _ _ _ from rfl).trans CL.out
    · cases t
      all_goals
        go_enter Try.func20, Try.ntmps20
        go_wp2_with (first | (go_at_call 40; ((with_reducible refine (KP.out _).mono ?_)); rintro e w' ⟨rfl, rfl⟩))
        refine (PUT.out _ _ (HH.out _)).mono ?_
        rintro x' w' hp
        have hp1 := hp.1
        subst hp1
        have HP := Lib.hid hp
        clear hp
        go_wp2_with fail
        go_ret
        refine ⟨rfl, CLOSE.out _ ?_ _ _ HP.out⟩
        exact (show _ = otF _ _ _ by unfold otF; rw [decide_eq_true hm0]; rfl).trans CL.out
  · have hI := INF_eq
    have hk : pK x = if mg x = INF then 1 else 2 := if_neg hf
    have hm : pM x = 0 := if_neg hf
    have he : pE x = 0 := if_neg hf
    obtain ⟨s, hs⟩ : ∃ m, m = ng x := ⟨_, rfl⟩
    rw [hm, he, ← hs] at KP
    dsimp only at c
    rw [← hC] at c c0 z9 hc
    have HH := Lib.hid (h.setCnt (g.cnt + 1))
    have HG := Lib.hid ((Chg.refl b w).set 136 (.int .i64 (g.cnt + 1)))
    rw [← hC] at HH HG
    have hot : decide (g.nz ≠ g.cnt + 1) = true := decide_eq_true (by omega)
    have HO := Lib.hid hot
    have LIM : Hid (Lim l (g.cnt + 1)) := Lib.hid (fun i hi => by have := hL i hi; omega)
    by_cases h1 : mg x = INF
    · have en : isN x = false := isN_false.2 (by omega)
      have eg : addG g x = if s then { g with cnt := g.cnt + 1, dn := true } else { g with cnt := g.cnt + 1, up := true } := by rw [hs]; unfold addG; rw [if_neg (by rw [en]; simp), if_pos h1]
      rw [eg]
      rw [hk, if_pos h1] at KP
      clear hX hL h hf hk hm he hs hC ok z0 z9 hot hI h1 en eg
      cases s
      all_goals
        go_enter Try.func20, Try.ntmps20
        go_wp2_with (first | (go_at_call 40; ((with_reducible refine (KP.out _).mono ?_)); rintro e w' ⟨rfl, rfl⟩))
        refine (rodd_any b _ _ HH.out _ _).mono ?_
        rintro x' w' ⟨rfl, a1, a2⟩
        have HP := Lib.hid (⟨a1, a2⟩ : _ ∧ _)
        clear a1 a2
        go_wp2_with fail
        go_ret
        refine ⟨rfl, ⟨l, HL.out.1, LIM.out, HP.out.1.ext (fun _ _ => rfl) (by show C + 1 = g.cnt + 1; rw [HC.out]) ?_ ?_ ?_ HO.out.symm⟩, HG.out.trans HP.out.2⟩
        all_goals simp
    · have en : isN x = true := isN_true.2 (by omega)
      have eg : addG g x = { g with cnt := g.cnt + 1, nn := true } := if_pos en
      rw [eg]
      rw [hk, if_neg h1] at KP
      clear hX hL h hf hk hm he hs hC ok z0 z9 hot hI h1 en eg
      go_enter Try.func20, Try.ntmps20
      go_wp2_with (first | (go_at_call 40; ((with_reducible refine (KP.out _).mono ?_)); rintro e w' ⟨rfl, rfl⟩))
      refine (rodd_any b _ _ HH.out _ _).mono ?_
      rintro x' w' ⟨rfl, a1, a2⟩
      have HP := Lib.hid (⟨a1, a2⟩ : _ ∧ _)
      clear a1 a2
      go_wp2_with fail
      go_ret
      refine ⟨rfl, ⟨l, HL.out.1, LIM.out, HP.out.1.ext (fun _ _ => rfl) (by show C + 1 = g.cnt + 1; rw [HC.out]) ?_ ?_ ?_ HO.out.symm⟩, HG.out.trans HP.out.2⟩
      all_goals simp
end Go.Proofs.Ytneedadoafcfcaa
