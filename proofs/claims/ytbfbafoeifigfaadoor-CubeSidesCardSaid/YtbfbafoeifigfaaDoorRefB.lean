/- The reference's leaves: points in whole numbers. -/
import Derived.Test.YtbfbafoeifigfaaDoorRefA
import Derived.Test.YtbfbafoeifigfaaDoorCubeT
namespace Go.Proofs.YtbfbafoeifigfaaDoor
open Go.RowKit TF

set_option maxRecDepth 100000 in
theorem rplus_any (x y z k a b c : Int) (hu : I3 4000 x y z) (hk : In 4000 k) (hv : U3 a b c) (w : World) :
    Calls Tryd.prog 36 #[.agg #[.int .i64 x, .int .i64 y, .int .i64 z], .int .i64 k, .agg #[.int .i64 a, .int .i64 b, .int .i64 c]] w fun e w' => e = .returned (.agg #[.int .i64 (x + k * a), .int .i64 (y + k * b), .int .i64 (z + k * c)]) ∧ Below w.heap.size w w' := by
  obtain ⟨⟨h1, h2⟩, ⟨h3, h4⟩, ⟨h5, h6⟩⟩ := hu
  obtain ⟨g1, g2⟩ := hk.mul hv.x (by omega)
  obtain ⟨g3, g4⟩ := hk.mul hv.y (by omega)
  obtain ⟨g5, g6⟩ := hk.mul hv.z (by omega)
  clear hk hv
  go_enter Tryd.func36, Tryd.ntmps36
  go_wp2_with fail
  exact bodyPost_ret (v := .agg #[.int .i64 (x + k * a), .int .i64 (y + k * b), .int .i64 (z + k * c)]) (by simp [results, Tryd.results36, go_sem]) rfl ⟨rfl, bel3 _ _ _ _⟩
theorem rdot_any (x y z a b c : Int) (hu : I3 20000 x y z) (hv : U3 a b c) (w : World) :
    Calls Tryd.prog 40 #[.agg #[.int .i64 x, .int .i64 y, .int .i64 z], .agg #[.int .i64 a, .int .i64 b, .int .i64 c]] w fun e w' => e = .returned (.int .i64 (x * a + y * b + z * c)) ∧ Below w.heap.size w w' := by
  obtain ⟨h1, h2⟩ := hu.x.mul hv.x (by omega)
  obtain ⟨h3, h4⟩ := hu.y.mul hv.y (by omega)
  obtain ⟨h5, h6⟩ := hu.z.mul hv.z (by omega)
  clear hu hv
  go_enter Tryd.func40, Tryd.ntmps40
  go_wp2_with fail
  go_ret
  exact ⟨rfl, bel2 _ _ _⟩
end Go.Proofs.YtbfbafoeifigfaaDoor
