/- geom.point. (Printed by gen_point.py.) -/
import Derived.Test.YtkjjecghbhppgaaGreatDoorK10
import Derived.Test.YtkjjecghbhppgaaGreatDoorK05
namespace Go.Proofs.YtkjjecghbhppgaaGreatDoor
open Go.RowKit TF

attribute [local go_sem] cmp_eq cmp_ne cmp_lt cmp_gt cmp_le cmp_ge run_store_float

/-- geom's frames, as they lie. -/
def FrG (w : World) : Prop := ∀ f < 6, ∀ k < 9, w.cell? ⟨2, f * 9 + k, none⟩ = some (.int .i64 (FR f k))
theorem FrG.size {w : World} (h : FrG w) : 2 < w.heap.size := lt_of_cell (h 0 (by omega) 0 (by omega))
theorem FrG.below {w w' : World} (h : FrG w) (hb : Below w.heap.size w w') : FrG w' := fun f hf k hk => by
  rw [hb.cell (p := ⟨2, f * 9 + k, none⟩) h.size]; exact h f hf k hk
theorem Row3.put0 {w : World} {b x y z : Nat} (h : Row3 w b x y z) (v : Nat) : Row3 (w.setCell ⟨b, 0, none⟩ (.float .f64 v)) b v y z := by
  obtain ⟨p0, p1, p2, q0, q1, q2⟩ := h
  exact ⟨by simp [go_sem, p0], by simp [go_sem, p1], by simp [go_sem, p2], by simp [go_sem, q0], by simp [go_sem, q1], by simp [go_sem, q2]⟩
theorem Row3.put1 {w : World} {b x y z : Nat} (h : Row3 w b x y z) (v : Nat) : Row3 (w.setCell ⟨b, 1, none⟩ (.float .f64 v)) b x v z := by
  obtain ⟨p0, p1, p2, q0, q1, q2⟩ := h
  exact ⟨by simp [go_sem, p0], by simp [go_sem, p1], by simp [go_sem, p2], by simp [go_sem, q0], by simp [go_sem, q1], by simp [go_sem, q2]⟩
theorem Row3.put2 {w : World} {b x y z : Nat} (h : Row3 w b x y z) (v : Nat) : Row3 (w.setCell ⟨b, 2, none⟩ (.float .f64 v)) b x y v := by
  obtain ⟨p0, p1, p2, q0, q1, q2⟩ := h
  exact ⟨by simp [go_sem, p0], by simp [go_sem, p1], by simp [go_sem, p2], by simp [go_sem, q0], by simp [go_sem, q1], by simp [go_sem, q2]⟩
theorem Row3.far {w : World} {b x y z c k : Nat} (h : Row3 w b x y z) (hc : c ≠ b) (v : Value) : Row3 (w.setCell ⟨c, k, none⟩ v) b x y z := by
  have e : ∀ j, (w.setCell ⟨c, k, none⟩ v).cell? ⟨b, j, none⟩ = w.cell? ⟨b, j, none⟩ := fun j => World.cell?_setCell_far _ _ _ _ hc
  obtain ⟨p0, p1, p2, q0, q1, q2⟩ := h
  exact ⟨(e 0).trans p0, (e 1).trans p1, (e 2).trans p2, by simp [go_sem, q0], by simp [go_sem, q1], by simp [go_sem, q2]⟩

theorem run_index_3 (a b c : Value) (k : Nat) (v : Value) (hk : k < 3) (hv : [a, b, c][k]? = some v) (w : World) : (Instr.index 139 (.agg #[a, b, c]) (.int .i64 k)).run Tryz.prog w = .ok v w := by
  have hn : (0 : Int) ≤ k ∧ (k : Int) < 3 := by omega
  have hs : ∀ w, (sizeOf 35).run Tryz.prog w = .ok 1 w := fun w => by kernel_rfl
  have ha : ∀ w, (isAgg 35).run Tryz.prog w = .ok false w := fun w => by kernel_rfl
  match k, hk, hv with
  | 0, _, hv => obtain rfl : a = v := by simpa using hv
                simp [Instr.index, run_underlying Tryz.underlying139, asIntOf, hs, ha, part, go_sem]
  | 1, _, hv => obtain rfl : b = v := by simpa using hv
                simp [Instr.index, run_underlying Tryz.underlying139, asIntOf, hs, ha, part, go_sem]
  | 2, _, hv => obtain rfl : c = v := by simpa using hv
                simp [Instr.index, run_underlying Tryz.underlying139, asIntOf, hs, ha, part, go_sem]

/-- Between the rounds: the result's cells, the numbers so far. -/
structure PtS (w : World) (f x y z : Nat) (wr : World) : Prop where
  bel : Below w.heap.size w wr
  res : Row3 wr w.heap.size 0 0 0
  row : Row3 wr (w.heap.size + 1) x y z
  frm : FrG wr
theorem PtS.put0 {w wr : World} {f x y z : Nat} (h : PtS w f x y z wr) (v : Nat) (hG : FrG w) : PtS w f v y z (wr.setCell ⟨w.heap.size + 1, 0, none⟩ (.float .f64 v)) := by
  have hb := h.bel.setCell (p := ⟨w.heap.size + 1, 0, none⟩) (by simp) (.float .f64 v)
  exact ⟨hb, h.res.far (by omega) _, h.row.put0 v, hG.below hb⟩
theorem PtS.put1 {w wr : World} {f x y z : Nat} (h : PtS w f x y z wr) (v : Nat) (hG : FrG w) : PtS w f x v z (wr.setCell ⟨w.heap.size + 1, 1, none⟩ (.float .f64 v)) := by
  have hb := h.bel.setCell (p := ⟨w.heap.size + 1, 1, none⟩) (by simp) (.float .f64 v)
  exact ⟨hb, h.res.far (by omega) _, h.row.put1 v, hG.below hb⟩
theorem PtS.put2 {w wr : World} {f x y z : Nat} (h : PtS w f x y z wr) (v : Nat) (hG : FrG w) : PtS w f x y v (wr.setCell ⟨w.heap.size + 1, 2, none⟩ (.float .f64 v)) := by
  have hb := h.bel.setCell (p := ⟨w.heap.size + 1, 2, none⟩) (by simp) (.float .f64 v)
  exact ⟨hb, h.res.far (by omega) _, h.row.put2 v, hG.below hb⟩

set_option maxRecDepth 100000 in
set_option maxHeartbeats 8000000 in
theorem point_any (f : Nat) (hf : f < 6) (p q l : Nat) (hp : Fw p) (hq : Fw q) (hl : vlen (xv f p q 0) (xv f p q 1) (xv f p q 2) = l) (h0 : 0 < l) (h9 : l < 9218868437227405312) (w : World) (hG : FrG w) :
    Calls Tryz.prog 49 #[.int .i64 f, .float .f64 p, .float .f64 q] w fun e w' => e = .returned (.agg #[.float .f64 (cq (xv f p q 0) l), .float .f64 (cq (xv f p q 1) l), .float .f64 (cq (xv f p q 2) l)]) ∧ Below w.heap.size w w' := by
  have KU := Lib.hid (unit_any _ _ _ l (xv_fw hp hq 0) (xv_fw hp hq 1) (xv_fw hp hq 2) hl h0 h9)
  have hn1 := fun w => run_neg Tryz.prog (b := p) hp.lt w
  have hn2 := fun w => run_neg Tryz.prog (b := q) hq.lt w
  have hn0 := fun w => run_neg Tryz.prog (b := 4607182418800017408) (by omega) w
  have HG := Lib.hid hG
  have hf0 : (0 : Int) ≤ (f : Int) := by omega
  have hf6 : (f : Int) < 6 := by omega
  clear hp hq hl h0 h9
  obtain ⟨x0, hx0⟩ : ∃ x, x = xv f p q 0 := ⟨_, rfl⟩
  obtain ⟨x1, hx1⟩ : ∃ x, x = xv f p q 1 := ⟨_, rfl⟩
  obtain ⟨x2, hx2⟩ : ∃ x, x = xv f p q 2 := ⟨_, rfl⟩
  rw [← hx0, ← hx1, ← hx2] at KU ⊢
  have E0 := Lib.hid hx0
  clear hx0
  have E1 := Lib.hid hx1
  clear hx1
  have E2 := Lib.hid hx2
  clear hx2
  have hS : PtS w f 0 0 0 ((w.alloc (.cells #[.float .f64 0, .float .f64 0, .float .f64 0] 69)).alloc (.cells #[.float .f64 0, .float .f64 0, .float .f64 0] 139)) := by
    have hb := ((Below.refl w.heap.size w).alloc (Nat.le_refl _) (.cells #[.float .f64 0, .float .f64 0, .float .f64 0] 69)).alloc (by simp) (.cells #[.float .f64 0, .float .f64 0, .float .f64 0] 139)
    exact ⟨hb, ⟨by simp [go_sem], by simp [go_sem], by simp [go_sem], by simp [go_sem], by simp [go_sem], by simp [go_sem]⟩, ⟨by simp [go_sem], by simp [go_sem], by simp [go_sem], by simp [go_sem], by simp [go_sem], by simp [go_sem]⟩, hG.below hb⟩
  clear hG
  go_enter Tryz.func49, Tryz.ntmps49
  go_wp2_with fail
  go_loopw [11] (fun i wr => (i = .int .i64 0 ∧ PtS w f 0 0 0 wr) ∨ (i = .int .i64 1 ∧ PtS w f x0 0 0 wr) ∨ (i = .int .i64 2 ∧ PtS w f x0 x1 0 wr) ∨ (i = .int .i64 3 ∧ PtS w f x0 x1 x2 wr)) (fun i _ => 3 - (intOf i).toNat)
  case atStart => exact .inl ⟨rfl, hS⟩
  case round =>
    clear hS
    obtain ⟨rfl, hS⟩ | ⟨rfl, hS⟩ | ⟨rfl, hS⟩ | ⟨rfl, hS⟩ := hrel
    · go_wp2
      obtain ⟨wo, rfl⟩ : ∃ wo : World, wo = wr := ⟨_, rfl⟩
      go_loopw [17] (fun i wr => (i = .int .i64 0 ∧ PtS w f 0 0 0 wr) ∨ (i = .int .i64 1 ∧ PtS w f (u1 f 0) 0 0 wr) ∨ (i = .int .i64 2 ∧ PtS w f (u2 f p 0) 0 0 wr) ∨ (i = .int .i64 3 ∧ PtS w f x0 0 0 wr)) (fun i _ => 3 - (intOf i).toNat)
      case atStart => exact .inl ⟨rfl, hS⟩
      case round =>
        clear hS
        obtain ⟨rfl, hS⟩ | ⟨rfl, hS⟩ | ⟨rfl, hS⟩ | ⟨rfl, hS⟩ := hrel
        · have hcell : wr.cell? ⟨2, f * 9, none⟩ = some (.int .i64 (FR f 0)) := hS.frm f hf 0 (by omega)
          obtain ⟨c0, c1, c2, f0, f1, f2⟩ := hS.row
          have HS := Lib.hid hS
          clear hS
          rcases FR_three hf (show 0 < 9 by omega) with he | he | he
          · have hv : u1 f 0 = (canonW 4607182418800017408) := by show stF (FR f 0) 4607182418800017408 0 = _; rw [show FR f (0) = 1 from he]; rfl
            have HV := Lib.hid hv
            clear hv
            rw [he] at hcell
            clear he
            have ki : ∀ w : World, (Instr.index 139 (.agg #[.float .f64 4607182418800017408, .float .f64 p, .float .f64 q]) (.int .i64 0)).run Tryz.prog w = .ok (.float .f64 4607182418800017408) w := fun w => run_index_3 _ _ _ 0 _ (by omega) rfl w
            go_wp2_with (first | (go_at_call 51; ((with_reducible refine (canon_any _ _).mono ?_)); rintro e w3 ⟨rfl, rfl⟩))
            go_roundw
            case rel => exact .inr (.inl ⟨rfl, (by rw [HV.out]; exact HS.out.put0 _ HG.out)⟩)
            case measure => simp [intOf]
          · have hv : u1 f 0 = (canonW (op 4607182418800017408)) := by show stF (FR f 0) 4607182418800017408 0 = _; rw [show FR f (0) = -1 from he]; rfl
            have HV := Lib.hid hv
            clear hv
            rw [he] at hcell
            clear he
            have ki : ∀ w : World, (Instr.index 139 (.agg #[.float .f64 4607182418800017408, .float .f64 p, .float .f64 q]) (.int .i64 0)).run Tryz.prog w = .ok (.float .f64 4607182418800017408) w := fun w => run_index_3 _ _ _ 0 _ (by omega) rfl w
            go_wp2_with (first | (go_at_call 51; ((with_reducible refine (canon_any _ _).mono ?_)); rintro e w3 ⟨rfl, rfl⟩))
            go_roundw
            case rel => exact .inr (.inl ⟨rfl, (by rw [HV.out]; exact HS.out.put0 _ HG.out)⟩)
            case measure => simp [intOf]
          · have hv : u1 f 0 = 0 := by show stF (FR f 0) 4607182418800017408 0 = _; rw [show FR f (0) = 0 from he]; rfl
            have HV := Lib.hid hv
            clear hv
            rw [he] at hcell
            clear he
            have ki : ∀ w : World, (Instr.index 139 (.agg #[.float .f64 4607182418800017408, .float .f64 p, .float .f64 q]) (.int .i64 0)).run Tryz.prog w = .ok (.float .f64 4607182418800017408) w := fun w => run_index_3 _ _ _ 0 _ (by omega) rfl w
            go_wp2_with (first | (go_at_call 51; ((with_reducible refine (canon_any _ _).mono ?_)); rintro e w3 ⟨rfl, rfl⟩))
            go_roundw
            case rel => exact .inr (.inl ⟨rfl, (by rw [HV.out]; exact HS.out)⟩)
            case measure => simp [intOf]
        · have hcell := hS.frm f hf 3 (by omega)
          obtain ⟨c0, c1, c2, f0, f1, f2⟩ := hS.row
          have HS := Lib.hid hS
          clear hS
          rcases FR_three hf (show 3 < 9 by omega) with he | he | he
          · have hv : u2 f p 0 = (canonW p) := by show stF (FR f (3 + 0)) p (u1 f 0) = _; rw [show FR f (3 + 0) = 1 from he]; rfl
            have HV := Lib.hid hv
            clear hv
            rw [he] at hcell
            clear he
            have ki : ∀ w : World, (Instr.index 139 (.agg #[.float .f64 4607182418800017408, .float .f64 p, .float .f64 q]) (.int .i64 1)).run Tryz.prog w = .ok (.float .f64 p) w := fun w => run_index_3 _ _ _ 1 _ (by omega) rfl w
            go_wp2_with (first | (go_at_call 51; ((with_reducible refine (canon_any _ _).mono ?_)); rintro e w3 ⟨rfl, rfl⟩))
            go_roundw
            case rel => exact .inr (.inr (.inl ⟨rfl, (by rw [HV.out]; exact HS.out.put0 _ HG.out)⟩))
            case measure => simp [intOf]
          · have hv : u2 f p 0 = (canonW (op p)) := by show stF (FR f (3 + 0)) p (u1 f 0) = _; rw [show FR f (3 + 0) = -1 from he]; rfl
            have HV := Lib.hid hv
            clear hv
            rw [he] at hcell
            clear he
            have ki : ∀ w : World, (Instr.index 139 (.agg #[.float .f64 4607182418800017408, .float .f64 p, .float .f64 q]) (.int .i64 1)).run Tryz.prog w = .ok (.float .f64 p) w := fun w => run_index_3 _ _ _ 1 _ (by omega) rfl w
            go_wp2_with (first | (go_at_call 51; ((with_reducible refine (canon_any _ _).mono ?_)); rintro e w3 ⟨rfl, rfl⟩))
            go_roundw
            case rel => exact .inr (.inr (.inl ⟨rfl, (by rw [HV.out]; exact HS.out.put0 _ HG.out)⟩))
            case measure => simp [intOf]
          · have hv : u2 f p 0 = (u1 f 0) := by show stF (FR f (3 + 0)) p (u1 f 0) = _; rw [show FR f (3 + 0) = 0 from he]; rfl
            have HV := Lib.hid hv
            clear hv
            rw [he] at hcell
            clear he
            have ki : ∀ w : World, (Instr.index 139 (.agg #[.float .f64 4607182418800017408, .float .f64 p, .float .f64 q]) (.int .i64 1)).run Tryz.prog w = .ok (.float .f64 p) w := fun w => run_index_3 _ _ _ 1 _ (by omega) rfl w
            go_wp2_with (first | (go_at_call 51; ((with_reducible refine (canon_any _ _).mono ?_)); rintro e w3 ⟨rfl, rfl⟩))
            go_roundw
            case rel => exact .inr (.inr (.inl ⟨rfl, (by rw [HV.out]; exact HS.out)⟩))
            case measure => simp [intOf]
        · have hcell := hS.frm f hf 6 (by omega)
          obtain ⟨c0, c1, c2, f0, f1, f2⟩ := hS.row
          have HS := Lib.hid hS
          clear hS
          rcases FR_three hf (show 6 < 9 by omega) with he | he | he
          · have hv : x0 = (canonW q) := by rw [E0.out]; show stF (FR f (6 + 0)) q (u2 f p 0) = _; rw [show FR f (6 + 0) = 1 from he]; rfl
            have HV := Lib.hid hv
            clear hv
            rw [he] at hcell
            clear he
            have ki : ∀ w : World, (Instr.index 139 (.agg #[.float .f64 4607182418800017408, .float .f64 p, .float .f64 q]) (.int .i64 2)).run Tryz.prog w = .ok (.float .f64 q) w := fun w => run_index_3 _ _ _ 2 _ (by omega) rfl w
            go_wp2_with (first | (go_at_call 51; ((with_reducible refine (canon_any _ _).mono ?_)); rintro e w3 ⟨rfl, rfl⟩))
            go_roundw
            case rel => exact .inr (.inr (.inr ⟨rfl, (by rw [HV.out]; exact HS.out.put0 _ HG.out)⟩))
            case measure => simp [intOf]
          · have hv : x0 = (canonW (op q)) := by rw [E0.out]; show stF (FR f (6 + 0)) q (u2 f p 0) = _; rw [show FR f (6 + 0) = -1 from he]; rfl
            have HV := Lib.hid hv
            clear hv
            rw [he] at hcell
            clear he
            have ki : ∀ w : World, (Instr.index 139 (.agg #[.float .f64 4607182418800017408, .float .f64 p, .float .f64 q]) (.int .i64 2)).run Tryz.prog w = .ok (.float .f64 q) w := fun w => run_index_3 _ _ _ 2 _ (by omega) rfl w
            go_wp2_with (first | (go_at_call 51; ((with_reducible refine (canon_any _ _).mono ?_)); rintro e w3 ⟨rfl, rfl⟩))
            go_roundw
            case rel => exact .inr (.inr (.inr ⟨rfl, (by rw [HV.out]; exact HS.out.put0 _ HG.out)⟩))
            case measure => simp [intOf]
          · have hv : x0 = (u2 f p 0) := by rw [E0.out]; show stF (FR f (6 + 0)) q (u2 f p 0) = _; rw [show FR f (6 + 0) = 0 from he]; rfl
            have HV := Lib.hid hv
            clear hv
            rw [he] at hcell
            clear he
            have ki : ∀ w : World, (Instr.index 139 (.agg #[.float .f64 4607182418800017408, .float .f64 p, .float .f64 q]) (.int .i64 2)).run Tryz.prog w = .ok (.float .f64 q) w := fun w => run_index_3 _ _ _ 2 _ (by omega) rfl w
            go_wp2_with (first | (go_at_call 51; ((with_reducible refine (canon_any _ _).mono ?_)); rintro e w3 ⟨rfl, rfl⟩))
            go_roundw
            case rel => exact .inr (.inr (.inr ⟨rfl, (by rw [HV.out]; exact HS.out)⟩))
            case measure => simp [intOf]
        · go_wp2
          go_roundw
          case rel => exact .inr (.inl ⟨rfl, hS⟩)
          case measure => simp [intOf]
    · go_wp2
      obtain ⟨wo, rfl⟩ : ∃ wo : World, wo = wr := ⟨_, rfl⟩
      go_loopw [17] (fun i wr => (i = .int .i64 0 ∧ PtS w f x0 0 0 wr) ∨ (i = .int .i64 1 ∧ PtS w f x0 (u1 f 1) 0 wr) ∨ (i = .int .i64 2 ∧ PtS w f x0 (u2 f p 1) 0 wr) ∨ (i = .int .i64 3 ∧ PtS w f x0 x1 0 wr)) (fun i _ => 3 - (intOf i).toNat)
      case atStart => exact .inl ⟨rfl, hS⟩
      case round =>
        clear hS
        obtain ⟨rfl, hS⟩ | ⟨rfl, hS⟩ | ⟨rfl, hS⟩ | ⟨rfl, hS⟩ := hrel
        · have hcell := hS.frm f hf 1 (by omega)
          obtain ⟨c0, c1, c2, f0, f1, f2⟩ := hS.row
          have HS := Lib.hid hS
          clear hS
          rcases FR_three hf (show 1 < 9 by omega) with he | he | he
          · have hv : u1 f 1 = (canonW 4607182418800017408) := by show stF (FR f 1) 4607182418800017408 0 = _; rw [show FR f (1) = 1 from he]; rfl
            have HV := Lib.hid hv
            clear hv
            rw [he] at hcell
            clear he
            have ki : ∀ w : World, (Instr.index 139 (.agg #[.float .f64 4607182418800017408, .float .f64 p, .float .f64 q]) (.int .i64 0)).run Tryz.prog w = .ok (.float .f64 4607182418800017408) w := fun w => run_index_3 _ _ _ 0 _ (by omega) rfl w
            go_wp2_with (first | (go_at_call 51; ((with_reducible refine (canon_any _ _).mono ?_)); rintro e w3 ⟨rfl, rfl⟩))
            go_roundw
            case rel => exact .inr (.inl ⟨rfl, (by rw [HV.out]; exact HS.out.put1 _ HG.out)⟩)
            case measure => simp [intOf]
          · have hv : u1 f 1 = (canonW (op 4607182418800017408)) := by show stF (FR f 1) 4607182418800017408 0 = _; rw [show FR f (1) = -1 from he]; rfl
            have HV := Lib.hid hv
            clear hv
            rw [he] at hcell
            clear he
            have ki : ∀ w : World, (Instr.index 139 (.agg #[.float .f64 4607182418800017408, .float .f64 p, .float .f64 q]) (.int .i64 0)).run Tryz.prog w = .ok (.float .f64 4607182418800017408) w := fun w => run_index_3 _ _ _ 0 _ (by omega) rfl w
            go_wp2_with (first | (go_at_call 51; ((with_reducible refine (canon_any _ _).mono ?_)); rintro e w3 ⟨rfl, rfl⟩))
            go_roundw
            case rel => exact .inr (.inl ⟨rfl, (by rw [HV.out]; exact HS.out.put1 _ HG.out)⟩)
            case measure => simp [intOf]
          · have hv : u1 f 1 = 0 := by show stF (FR f 1) 4607182418800017408 0 = _; rw [show FR f (1) = 0 from he]; rfl
            have HV := Lib.hid hv
            clear hv
            rw [he] at hcell
            clear he
            have ki : ∀ w : World, (Instr.index 139 (.agg #[.float .f64 4607182418800017408, .float .f64 p, .float .f64 q]) (.int .i64 0)).run Tryz.prog w = .ok (.float .f64 4607182418800017408) w := fun w => run_index_3 _ _ _ 0 _ (by omega) rfl w
            go_wp2_with (first | (go_at_call 51; ((with_reducible refine (canon_any _ _).mono ?_)); rintro e w3 ⟨rfl, rfl⟩))
            go_roundw
            case rel => exact .inr (.inl ⟨rfl, (by rw [HV.out]; exact HS.out)⟩)
            case measure => simp [intOf]
        · have hcell := hS.frm f hf 4 (by omega)
          obtain ⟨c0, c1, c2, f0, f1, f2⟩ := hS.row
          have HS := Lib.hid hS
          clear hS
          rcases FR_three hf (show 4 < 9 by omega) with he | he | he
          · have hv : u2 f p 1 = (canonW p) := by show stF (FR f (3 + 1)) p (u1 f 1) = _; rw [show FR f (3 + 1) = 1 from he]; rfl
            have HV := Lib.hid hv
            clear hv
            rw [he] at hcell
            clear he
            have ki : ∀ w : World, (Instr.index 139 (.agg #[.float .f64 4607182418800017408, .float .f64 p, .float .f64 q]) (.int .i64 1)).run Tryz.prog w = .ok (.float .f64 p) w := fun w => run_index_3 _ _ _ 1 _ (by omega) rfl w
            go_wp2_with (first | (go_at_call 51; ((with_reducible refine (canon_any _ _).mono ?_)); rintro e w3 ⟨rfl, rfl⟩))
            go_roundw
            case rel => exact .inr (.inr (.inl ⟨rfl, (by rw [HV.out]; exact HS.out.put1 _ HG.out)⟩))
            case measure => simp [intOf]
          · have hv : u2 f p 1 = (canonW (op p)) := by show stF (FR f (3 + 1)) p (u1 f 1) = _; rw [show FR f (3 + 1) = -1 from he]; rfl
            have HV := Lib.hid hv
            clear hv
            rw [he] at hcell
            clear he
            have ki : ∀ w : World, (Instr.index 139 (.agg #[.float .f64 4607182418800017408, .float .f64 p, .float .f64 q]) (.int .i64 1)).run Tryz.prog w = .ok (.float .f64 p) w := fun w => run_index_3 _ _ _ 1 _ (by omega) rfl w
            go_wp2_with (first | (go_at_call 51; ((with_reducible refine (canon_any _ _).mono ?_)); rintro e w3 ⟨rfl, rfl⟩))
            go_roundw
            case rel => exact .inr (.inr (.inl ⟨rfl, (by rw [HV.out]; exact HS.out.put1 _ HG.out)⟩))
            case measure => simp [intOf]
          · have hv : u2 f p 1 = (u1 f 1) := by show stF (FR f (3 + 1)) p (u1 f 1) = _; rw [show FR f (3 + 1) = 0 from he]; rfl
            have HV := Lib.hid hv
            clear hv
            rw [he] at hcell
            clear he
            have ki : ∀ w : World, (Instr.index 139 (.agg #[.float .f64 4607182418800017408, .float .f64 p, .float .f64 q]) (.int .i64 1)).run Tryz.prog w = .ok (.float .f64 p) w := fun w => run_index_3 _ _ _ 1 _ (by omega) rfl w
            go_wp2_with (first | (go_at_call 51; ((with_reducible refine (canon_any _ _).mono ?_)); rintro e w3 ⟨rfl, rfl⟩))
            go_roundw
            case rel => exact .inr (.inr (.inl ⟨rfl, (by rw [HV.out]; exact HS.out)⟩))
            case measure => simp [intOf]
        · have hcell := hS.frm f hf 7 (by omega)
          obtain ⟨c0, c1, c2, f0, f1, f2⟩ := hS.row
          have HS := Lib.hid hS
          clear hS
          rcases FR_three hf (show 7 < 9 by omega) with he | he | he
          · have hv : x1 = (canonW q) := by rw [E1.out]; show stF (FR f (6 + 1)) q (u2 f p 1) = _; rw [show FR f (6 + 1) = 1 from he]; rfl
            have HV := Lib.hid hv
            clear hv
            rw [he] at hcell
            clear he
            have ki : ∀ w : World, (Instr.index 139 (.agg #[.float .f64 4607182418800017408, .float .f64 p, .float .f64 q]) (.int .i64 2)).run Tryz.prog w = .ok (.float .f64 q) w := fun w => run_index_3 _ _ _ 2 _ (by omega) rfl w
            go_wp2_with (first | (go_at_call 51; ((with_reducible refine (canon_any _ _).mono ?_)); rintro e w3 ⟨rfl, rfl⟩))
            go_roundw
            case rel => exact .inr (.inr (.inr ⟨rfl, (by rw [HV.out]; exact HS.out.put1 _ HG.out)⟩))
            case measure => simp [intOf]
          · have hv : x1 = (canonW (op q)) := by rw [E1.out]; show stF (FR f (6 + 1)) q (u2 f p 1) = _; rw [show FR f (6 + 1) = -1 from he]; rfl
            have HV := Lib.hid hv
            clear hv
            rw [he] at hcell
            clear he
            have ki : ∀ w : World, (Instr.index 139 (.agg #[.float .f64 4607182418800017408, .float .f64 p, .float .f64 q]) (.int .i64 2)).run Tryz.prog w = .ok (.float .f64 q) w := fun w => run_index_3 _ _ _ 2 _ (by omega) rfl w
            go_wp2_with (first | (go_at_call 51; ((with_reducible refine (canon_any _ _).mono ?_)); rintro e w3 ⟨rfl, rfl⟩))
            go_roundw
            case rel => exact .inr (.inr (.inr ⟨rfl, (by rw [HV.out]; exact HS.out.put1 _ HG.out)⟩))
            case measure => simp [intOf]
          · have hv : x1 = (u2 f p 1) := by rw [E1.out]; show stF (FR f (6 + 1)) q (u2 f p 1) = _; rw [show FR f (6 + 1) = 0 from he]; rfl
            have HV := Lib.hid hv
            clear hv
            rw [he] at hcell
            clear he
            have ki : ∀ w : World, (Instr.index 139 (.agg #[.float .f64 4607182418800017408, .float .f64 p, .float .f64 q]) (.int .i64 2)).run Tryz.prog w = .ok (.float .f64 q) w := fun w => run_index_3 _ _ _ 2 _ (by omega) rfl w
            go_wp2_with (first | (go_at_call 51; ((with_reducible refine (canon_any _ _).mono ?_)); rintro e w3 ⟨rfl, rfl⟩))
            go_roundw
            case rel => exact .inr (.inr (.inr ⟨rfl, (by rw [HV.out]; exact HS.out)⟩))
            case measure => simp [intOf]
        · go_wp2
          go_roundw
          case rel => exact .inr (.inr (.inl ⟨rfl, hS⟩))
          case measure => simp [intOf]
    · go_wp2
      obtain ⟨wo, rfl⟩ : ∃ wo : World, wo = wr := ⟨_, rfl⟩
      go_loopw [17] (fun i wr => (i = .int .i64 0 ∧ PtS w f x0 x1 0 wr) ∨ (i = .int .i64 1 ∧ PtS w f x0 x1 (u1 f 2) wr) ∨ (i = .int .i64 2 ∧ PtS w f x0 x1 (u2 f p 2) wr) ∨ (i = .int .i64 3 ∧ PtS w f x0 x1 x2 wr)) (fun i _ => 3 - (intOf i).toNat)
      case atStart => exact .inl ⟨rfl, hS⟩
      case round =>
        clear hS
        obtain ⟨rfl, hS⟩ | ⟨rfl, hS⟩ | ⟨rfl, hS⟩ | ⟨rfl, hS⟩ := hrel
        · have hcell := hS.frm f hf 2 (by omega)
          obtain ⟨c0, c1, c2, f0, f1, f2⟩ := hS.row
          have HS := Lib.hid hS
          clear hS
          rcases FR_three hf (show 2 < 9 by omega) with he | he | he
          · have hv : u1 f 2 = (canonW 4607182418800017408) := by show stF (FR f 2) 4607182418800017408 0 = _; rw [show FR f (2) = 1 from he]; rfl
            have HV := Lib.hid hv
            clear hv
            rw [he] at hcell
            clear he
            have ki : ∀ w : World, (Instr.index 139 (.agg #[.float .f64 4607182418800017408, .float .f64 p, .float .f64 q]) (.int .i64 0)).run Tryz.prog w = .ok (.float .f64 4607182418800017408) w := fun w => run_index_3 _ _ _ 0 _ (by omega) rfl w
            go_wp2_with (first | (go_at_call 51; ((with_reducible refine (canon_any _ _).mono ?_)); rintro e w3 ⟨rfl, rfl⟩))
            go_roundw
            case rel => exact .inr (.inl ⟨rfl, (by rw [HV.out]; exact HS.out.put2 _ HG.out)⟩)
            case measure => simp [intOf]
          · have hv : u1 f 2 = (canonW (op 4607182418800017408)) := by show stF (FR f 2) 4607182418800017408 0 = _; rw [show FR f (2) = -1 from he]; rfl
            have HV := Lib.hid hv
            clear hv
            rw [he] at hcell
            clear he
            have ki : ∀ w : World, (Instr.index 139 (.agg #[.float .f64 4607182418800017408, .float .f64 p, .float .f64 q]) (.int .i64 0)).run Tryz.prog w = .ok (.float .f64 4607182418800017408) w := fun w => run_index_3 _ _ _ 0 _ (by omega) rfl w
            go_wp2_with (first | (go_at_call 51; ((with_reducible refine (canon_any _ _).mono ?_)); rintro e w3 ⟨rfl, rfl⟩))
            go_roundw
            case rel => exact .inr (.inl ⟨rfl, (by rw [HV.out]; exact HS.out.put2 _ HG.out)⟩)
            case measure => simp [intOf]
          · have hv : u1 f 2 = 0 := by show stF (FR f 2) 4607182418800017408 0 = _; rw [show FR f (2) = 0 from he]; rfl
            have HV := Lib.hid hv
            clear hv
            rw [he] at hcell
            clear he
            have ki : ∀ w : World, (Instr.index 139 (.agg #[.float .f64 4607182418800017408, .float .f64 p, .float .f64 q]) (.int .i64 0)).run Tryz.prog w = .ok (.float .f64 4607182418800017408) w := fun w => run_index_3 _ _ _ 0 _ (by omega) rfl w
            go_wp2_with (first | (go_at_call 51; ((with_reducible refine (canon_any _ _).mono ?_)); rintro e w3 ⟨rfl, rfl⟩))
            go_roundw
            case rel => exact .inr (.inl ⟨rfl, (by rw [HV.out]; exact HS.out)⟩)
            case measure => simp [intOf]
        · have hcell := hS.frm f hf 5 (by omega)
          obtain ⟨c0, c1, c2, f0, f1, f2⟩ := hS.row
          have HS := Lib.hid hS
          clear hS
          rcases FR_three hf (show 5 < 9 by omega) with he | he | he
          · have hv : u2 f p 2 = (canonW p) := by show stF (FR f (3 + 2)) p (u1 f 2) = _; rw [show FR f (3 + 2) = 1 from he]; rfl
            have HV := Lib.hid hv
            clear hv
            rw [he] at hcell
            clear he
            have ki : ∀ w : World, (Instr.index 139 (.agg #[.float .f64 4607182418800017408, .float .f64 p, .float .f64 q]) (.int .i64 1)).run Tryz.prog w = .ok (.float .f64 p) w := fun w => run_index_3 _ _ _ 1 _ (by omega) rfl w
            go_wp2_with (first | (go_at_call 51; ((with_reducible refine (canon_any _ _).mono ?_)); rintro e w3 ⟨rfl, rfl⟩))
            go_roundw
            case rel => exact .inr (.inr (.inl ⟨rfl, (by rw [HV.out]; exact HS.out.put2 _ HG.out)⟩))
            case measure => simp [intOf]
          · have hv : u2 f p 2 = (canonW (op p)) := by show stF (FR f (3 + 2)) p (u1 f 2) = _; rw [show FR f (3 + 2) = -1 from he]; rfl
            have HV := Lib.hid hv
            clear hv
            rw [he] at hcell
            clear he
            have ki : ∀ w : World, (Instr.index 139 (.agg #[.float .f64 4607182418800017408, .float .f64 p, .float .f64 q]) (.int .i64 1)).run Tryz.prog w = .ok (.float .f64 p) w := fun w => run_index_3 _ _ _ 1 _ (by omega) rfl w
            go_wp2_with (first | (go_at_call 51; ((with_reducible refine (canon_any _ _).mono ?_)); rintro e w3 ⟨rfl, rfl⟩))
            go_roundw
            case rel => exact .inr (.inr (.inl ⟨rfl, (by rw [HV.out]; exact HS.out.put2 _ HG.out)⟩))
            case measure => simp [intOf]
          · have hv : u2 f p 2 = (u1 f 2) := by show stF (FR f (3 + 2)) p (u1 f 2) = _; rw [show FR f (3 + 2) = 0 from he]; rfl
            have HV := Lib.hid hv
            clear hv
            rw [he] at hcell
            clear he
            have ki : ∀ w : World, (Instr.index 139 (.agg #[.float .f64 4607182418800017408, .float .f64 p, .float .f64 q]) (.int .i64 1)).run Tryz.prog w = .ok (.float .f64 p) w := fun w => run_index_3 _ _ _ 1 _ (by omega) rfl w
            go_wp2_with (first | (go_at_call 51; ((with_reducible refine (canon_any _ _).mono ?_)); rintro e w3 ⟨rfl, rfl⟩))
            go_roundw
            case rel => exact .inr (.inr (.inl ⟨rfl, (by rw [HV.out]; exact HS.out)⟩))
            case measure => simp [intOf]
        · have hcell := hS.frm f hf 8 (by omega)
          obtain ⟨c0, c1, c2, f0, f1, f2⟩ := hS.row
          have HS := Lib.hid hS
          clear hS
          rcases FR_three hf (show 8 < 9 by omega) with he | he | he
          · have hv : x2 = (canonW q) := by rw [E2.out]; show stF (FR f (6 + 2)) q (u2 f p 2) = _; rw [show FR f (6 + 2) = 1 from he]; rfl
            have HV := Lib.hid hv
            clear hv
            rw [he] at hcell
            clear he
            have ki : ∀ w : World, (Instr.index 139 (.agg #[.float .f64 4607182418800017408, .float .f64 p, .float .f64 q]) (.int .i64 2)).run Tryz.prog w = .ok (.float .f64 q) w := fun w => run_index_3 _ _ _ 2 _ (by omega) rfl w
            go_wp2_with (first | (go_at_call 51; ((with_reducible refine (canon_any _ _).mono ?_)); rintro e w3 ⟨rfl, rfl⟩))
            go_roundw
            case rel => exact .inr (.inr (.inr ⟨rfl, (by rw [HV.out]; exact HS.out.put2 _ HG.out)⟩))
            case measure => simp [intOf]
          · have hv : x2 = (canonW (op q)) := by rw [E2.out]; show stF (FR f (6 + 2)) q (u2 f p 2) = _; rw [show FR f (6 + 2) = -1 from he]; rfl
            have HV := Lib.hid hv
            clear hv
            rw [he] at hcell
            clear he
            have ki : ∀ w : World, (Instr.index 139 (.agg #[.float .f64 4607182418800017408, .float .f64 p, .float .f64 q]) (.int .i64 2)).run Tryz.prog w = .ok (.float .f64 q) w := fun w => run_index_3 _ _ _ 2 _ (by omega) rfl w
            go_wp2_with (first | (go_at_call 51; ((with_reducible refine (canon_any _ _).mono ?_)); rintro e w3 ⟨rfl, rfl⟩))
            go_roundw
            case rel => exact .inr (.inr (.inr ⟨rfl, (by rw [HV.out]; exact HS.out.put2 _ HG.out)⟩))
            case measure => simp [intOf]
          · have hv : x2 = (u2 f p 2) := by rw [E2.out]; show stF (FR f (6 + 2)) q (u2 f p 2) = _; rw [show FR f (6 + 2) = 0 from he]; rfl
            have HV := Lib.hid hv
            clear hv
            rw [he] at hcell
            clear he
            have ki : ∀ w : World, (Instr.index 139 (.agg #[.float .f64 4607182418800017408, .float .f64 p, .float .f64 q]) (.int .i64 2)).run Tryz.prog w = .ok (.float .f64 q) w := fun w => run_index_3 _ _ _ 2 _ (by omega) rfl w
            go_wp2_with (first | (go_at_call 51; ((with_reducible refine (canon_any _ _).mono ?_)); rintro e w3 ⟨rfl, rfl⟩))
            go_roundw
            case rel => exact .inr (.inr (.inr ⟨rfl, (by rw [HV.out]; exact HS.out)⟩))
            case measure => simp [intOf]
        · go_wp2
          go_roundw
          case rel => exact .inr (.inr (.inr ⟨rfl, hS⟩))
          case measure => simp [intOf]
    · obtain ⟨c0, c1, c2, f0, f1, f2⟩ := hS.row
      obtain ⟨d0, d1, d2, g0, g1, g2⟩ := hS.res
      have hsz := lt_of_cell d0
      have HS := Lib.hid hS
      clear hS
      go_wp2_with (first | (go_at_call 80; ((with_reducible refine (KU.out _).mono ?_)); rintro e w3 ⟨rfl, hB3⟩; obtain ⟨hd, hg⟩ := bcell hB3))
      exact bodyPost_ret (v := .agg #[.float .f64 (cq x0 l), .float .f64 (cq x1 l), .float .f64 (cq x2 l)]) (by simp [results, Tryz.results49, go_sem, hd, hsz, d0, d1, d2]) rfl ⟨rfl, (((HS.out.bel.trans (hB3.mono HS.out.bel.size)).setCell (by simp) _).setCell (by simp) _).setCell (by simp) _⟩
end Go.Proofs.YtkjjecghbhppgaaGreatDoor
