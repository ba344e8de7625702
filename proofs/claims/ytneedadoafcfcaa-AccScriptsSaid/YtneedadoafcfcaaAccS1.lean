/- Value, whole. -/
import Derived.Test.YtneedadoafcfcaaAccY
namespace Go.Proofs.Ytneedadoafcfcaa
open Go Go.RowKit TF

theorem value_any (b : Nat) (g : AccG) (w : World) (h : AccIs w b g) (ok : GOk g) :
    Calls Try.prog 13 #[.pointer (some ⟨b, 0, none⟩)] w fun e w' => e = .returned (.float .f64 (valG g)) ∧ Below w.heap.size w w' := by
  have low : ∀ {n : Nat} {w' : World}, w' = w.drewN n → Below w.heap.size w w' := fun h => by rw [h]; exact below_drewN (Below.refl _ _) _
  obtain ⟨d, hX, ha⟩ := h
  by_cases h0 : g.cnt = 0
  · refine (value_odd b _ w ha 0 (.inl ⟨h0, rfl⟩)).mono ?_
    rintro e w' ⟨rfl, n, hn⟩
    exact ⟨ret_f64 (by unfold valG; rw [if_pos h0]), low hn⟩
  by_cases h1 : g.nn = true
  · refine (value_odd b _ w ha 9221120237041090561 (.inr ⟨h0, .inl ⟨h1, rfl⟩⟩)).mono ?_
    rintro e w' ⟨rfl, n, hn⟩
    exact ⟨ret_f64 (by unfold valG; rw [if_neg h0, h1, Bool.true_or, if_pos rfl]), low hn⟩
  rw [Bool.not_eq_true] at h1
  by_cases h2 : g.up = true
  · by_cases h3 : g.dn = true
    · refine (value_odd b _ w ha 9221120237041090561 (.inr ⟨h0, .inr ⟨h1, .inl ⟨h2, h3, rfl⟩⟩⟩)).mono ?_
      rintro e w' ⟨rfl, n, hn⟩
      exact ⟨ret_f64 (by unfold valG; rw [if_neg h0, h1, h2, h3]; rfl), low hn⟩
    · rw [Bool.not_eq_true] at h3
      refine (value_odd b _ w ha 9218868437227405312 (.inr ⟨h0, .inr ⟨h1, .inr (.inl ⟨h2, h3, rfl⟩)⟩⟩)).mono ?_
      rintro e w' ⟨rfl, n, hn⟩
      exact ⟨ret_f64 (by unfold valG; rw [if_neg h0, h1, h2, h3]; rfl), low hn⟩
  rw [Bool.not_eq_true] at h2
  by_cases h3 : g.dn = true
  · refine (value_odd b _ w ha 18442240474082181120 (.inr ⟨h0, .inr ⟨h1, .inr (.inr ⟨h2, h3, rfl⟩)⟩⟩)).mono ?_
    rintro e w' ⟨rfl, n, hn⟩
    exact ⟨ret_f64 (by unfold valG; rw [if_neg h0, h1, h2, h3]; rfl), low hn⟩
  rw [Bool.not_eq_true] at h3
  by_cases h4 : g.nz = g.cnt
  · refine (value_nought b _ w ha h0 h1 h2 h3 h4).mono ?_
    rintro e w' ⟨rfl, n, hn⟩
    exact ⟨ret_f64 (by unfold valG; rw [if_neg h0, h1, h2, h3, if_neg (by decide), if_neg (by decide), if_neg (by decide), if_pos h4]), low hn⟩
  · refine (value_main b g w ⟨d, hX, ha⟩ ok h0 h1 h2 h3 h4 (valG g) ?_)
    unfold valG; rw [if_neg h0, h1, h2, h3, if_neg (by decide), if_neg (by decide), if_neg (by decide), if_neg h4]
end Go.Proofs.Ytneedadoafcfcaa
