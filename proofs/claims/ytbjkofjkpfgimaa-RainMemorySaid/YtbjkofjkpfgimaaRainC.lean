/- slices.Clone of integers; the two closures that move water. -/
import Derived.Test.YtbjkofjkpfgimaaRainB
namespace Go.Proofs.Ytbjkofjkpfgimaa
open Go Go.RowKit TF

theorem info_i64 : (Try.prog.info? 2).map (fun i => (i.zero, i.size, i.bytes)) = some (some (.int .i64 0), 1, 8) := by kernel_rfl

set_option maxHeartbeats 1000000 in
theorem clone_any (A : Option Addr) (n cap : Nat) (Z : Nat → Int) (w : World) (hn : n * 8 ≤ 140737488351232) (hz : IntsAt w A n Z) (hnil : A = none → n = 0) :
    Calls Try.prog 19 #[.slice A n cap] w fun e w' => CloneP w n Z e w' := by
  obtain ⟨i0, hi, hz0, hz1, hz2⟩ := info_parts info_i64
  cases A with
  | none =>
    obtain rfl := hnil rfl
    have he : ∀ w : World, (binOp .eql 22 (.slice none 0 cap) (.slice none 0 0)).run Try.prog w = .ok (.bool true) w := fun _ => rfl
    go_enter Try.func19, Try.ntmps19
    go_wp2
    go_ret
    exact ⟨none, 0, rfl, Nat.le_refl _, fun i hi => absurd hi (Nat.not_lt_zero _), Below.refl _ _⟩
  | some a =>
    have hcells : ∀ (j : Nat) (u : Value), ((List.range n).map fun i => Value.int .i64 (Z i))[j]? = some u → (w.alloc (.cells #[] 2)).cell? (a.add j) = some u := by
      intro j u hj
      have hjn : j < n := by
        have := List.getElem?_eq_some_iff.1 hj
        simpa using this.1
      obtain ⟨b, off, e, hb, hc⟩ := hz j hjn
      injection e with e; subst e
      rw [List.getElem?_map, List.getElem?_range hjn] at hj
      simp only [Option.map_some, Option.some.injEq] at hj
      subst hj
      have e2 : (⟨b, off, none⟩ : Addr).add j = ⟨b, off + j, none⟩ := by
        unfold Addr.add; split
        · rename_i h; subst h; rfl
        · rfl
      rw [e2, World.cell?_alloc_lt _ _ _ hb]
      exact hc
    clear hz hnil
    have he : ∀ w : World, (binOp .eql 22 (.slice (some a) n cap) (.slice none 0 0)).run Try.prog w = .ok (.bool false) w := fun _ => rfl
    go_enter Try.func19, Try.ntmps19
    go_wp2_with (at_builtin; refine wpList_append_own _ rfl _ _ 22 rfl w.heap.size 2 i0 (.int .i64 0) 1 8 Try.underlying22 hi hz0 hz1 hz2 rfl (by decide) _ 0 [] rfl (World.ownsRow_lit w #[] 0 (Nat.le_refl _) (Nat.zero_le _) rfl) a n cap ((List.range n).map fun i => Value.int .i64 (Z i)) rfl (by simp) hcells (by intro u hu; simp at hu; obtain ⟨i, -, rfl⟩ := hu; rfl) (by unfold maxLen; omega) (by omega) (by simp) ?_; intro v' w1 hown hgrow _)
    go_ret
    have hlo := hown
    rw [List.nil_append, Nat.zero_add] at hlo
    obtain ⟨A', cap', rfl, h1, h2⟩ := own_of_row hlo
    exact ⟨A', cap', rfl, h1, h2, ((Below.refl _ _).alloc (Nat.le_refl _) _).grown hgrow (by simp) (by intro k hk; simp [Act.eval, Value.ownBlock] at hk; omega)⟩

set_option maxHeartbeats 1000000 in
theorem falls_any (w0 : World) (P Q lo hi : Nat) (A : Option Addr) (n cap : Nat) (Z : Nat → Int) (s : Int) (c : Nat) (a : Int) (w : World) (hS : RainS w0 w P Q lo hi A n cap Z s) (hc : c < n)
    (ha : 0 ≤ a) (ha' : a ≤ 4503599627370496) (hs : 0 ≤ s) (hs' : s ≤ 4616189618054758400) (hz : 0 ≤ Z c) (hz' : Z c ≤ 4616189618054758400) :
    Calls Try.prog 20 #[.int .i64 (c : Nat), .int .i64 a, .pointer (some ⟨P, 0, none⟩), .pointer (some ⟨Q, 0, none⟩)] w fun e w' => e = .returned (.tuple #[]) ∧ RainS w0 w' P Q lo hi A n cap (upd Z c (Z c + min a s)) (s - min a s) := by
  obtain ⟨b, off, rfl, h1, h2, h3, h4, h5⟩ := hS.own c hc
  have h6 := hS.sky
  have h7 := hS.skyf
  have h8 := hS.box
  have o1 := hS.o1
  have o2 := hS.o2
  have o3 := hS.o3
  have g1 : ∀ v, (w.setCell ⟨P, 0, none⟩ v).cell? ⟨Q, 0, none⟩ = some (.slice (some ⟨b, off, none⟩) n cap) := fun v => by
    rw [World.cell?_setCell_other _ _ _ _ (by intro e1; injection e1; omega)]; exact h8
  have g2 : ∀ v, (w.setCell ⟨P, 0, none⟩ v).cell? ⟨b, off + c, none⟩ = some (.int .i64 (Z c)) := fun v => by
    rw [World.cell?_setCell_other _ _ _ _ (by intro e1; injection e1; omega)]; exact h4
  have hl : (c : Int) < (n : Int) := by omega
  have F := fun s' v => hS.fell rfl hc s' v
  have HF := Lib.hid F
  clear F hS
  go_enter Try.func20, Try.ntmps20
  go_wp2
  · go_end0
    have e1 : min a s = s := by omega
    rw [e1, Int.sub_self]
    exact ⟨rfl, HF.out _ _⟩
  · go_end0
    have e1 : min a s = a := by omega
    rw [e1]
    exact ⟨rfl, HF.out _ _⟩

set_option maxHeartbeats 1000000 in
theorem rises_any (w0 : World) (P Q lo hi : Nat) (A : Option Addr) (n cap : Nat) (Z : Nat → Int) (s : Int) (c : Nat) (a : Int) (w : World) (hS : RainS w0 w P Q lo hi A n cap Z s) (hc : c < n)
    (ha : 0 ≤ a) (ha' : a ≤ 4503599627370496) (hs : 0 ≤ s) (hs' : s ≤ 4616189618054758400) (hz : 0 ≤ Z c) (hz' : Z c ≤ 4616189618054758400) :
    Calls Try.prog 21 #[.int .i64 (c : Nat), .int .i64 a, .pointer (some ⟨Q, 0, none⟩), .pointer (some ⟨P, 0, none⟩)] w fun e w' => e = .returned (.tuple #[]) ∧ RainS w0 w' P Q lo hi A n cap (upd Z c (Z c - min a (Z c))) (s + min a (Z c)) := by
  obtain ⟨b, off, rfl, h1, h2, h3, h4, h5⟩ := hS.own c hc
  have h6 := hS.sky
  have h7 := hS.skyf
  have h8 := hS.box
  have o1 := hS.o1
  have o2 := hS.o2
  have o3 := hS.o3
  have g1 : ∀ v, (w.setCell ⟨b, off + c, none⟩ v).cell? ⟨Q, 0, none⟩ = some (.slice (some ⟨b, off, none⟩) n cap) := fun v => by
    rw [World.cell?_setCell_other _ _ _ _ (by intro e1; injection e1; omega)]; exact h8
  have g2 : ∀ v, (w.setCell ⟨b, off + c, none⟩ v).cell? ⟨P, 0, none⟩ = some (.int .i64 s) := fun v => by
    rw [World.cell?_setCell_other _ _ _ _ (by intro e1; injection e1; omega)]; exact h6
  have hl : (c : Int) < (n : Int) := by omega
  have F := fun s' v => hS.rose rfl hc s' v
  have HF := Lib.hid F
  clear F hS
  obtain ⟨z, hz0⟩ : ∃ z, z = Z c := ⟨_, rfl⟩
  rw [← hz0] at hz hz' h4 ⊢
  clear hz0
  by_cases hm : z < a
  · have e1 : min a z = z := by omega
    rw [e1, Int.sub_self]
    have HF0 := Lib.hid (HF.out (s + z) 0)
    clear HF e1
    go_enter Try.func21, Try.ntmps21
    go_wp2
    go_end0
    exact ⟨rfl, HF0.out⟩
  · have e1 : min a z = a := by omega
    rw [e1]
    have HF0 := Lib.hid (HF.out (s + a) (z - a))
    clear HF e1
    go_enter Try.func21, Try.ntmps21
    go_wp2
    go_end0
    exact ⟨rfl, HF0.out⟩
end Go.Proofs.Ytbjkofjkpfgimaa
