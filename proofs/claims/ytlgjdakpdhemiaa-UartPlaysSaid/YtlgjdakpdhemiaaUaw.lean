/- The UART laws' 'awake': true, and nothing that lay in memory is another. No conditions. -/
import Derived.Test.YtlgjdakpdhemiaaUart
namespace Go.Proofs.Ytlgjdakpdhemiaa
open Go.RowKit
/-- A new UART. -/
theorem ua_new (w : World) : Ua w.heap.size w.heap.size (fun k => k = w.heap.size) (w.alloc (.cells #[.slice none 0 0, .slice none 0 0, .bool false, .bool false] 38)) [] [] false false :=
  ⟨_, _, Bk.new _ _ _, World.ownsRow_nil _ _ _ _, World.ownsRow_nil _ _ _ _, fun k hk => by simp [Value.ownBlock] at hk, rfl, fun k hk => by simp [Value.ownBlock] at hk, fun k hk => by simp [Value.ownBlock] at hk, fun k hk => by subst hk; simp⟩
theorem ua_new_at (B : Nat) (w : World) (hB : B ≤ w.heap.size) : Ua B w.heap.size (fun k => k = w.heap.size) (w.alloc (.cells #[.slice none 0 0, .slice none 0 0, .bool false, .bool false] 38)) [] [] false false :=
  ⟨_, _, Bk.new _ _ _, World.ownsRow_nil _ _ _ _, World.ownsRow_nil _ _ _ _, fun k hk => by simp [Value.ownBlock] at hk, rfl, fun k hk => by simp [Value.ownBlock] at hk, fun k hk => by simp [Value.ownBlock] at hk, fun k hk => by subst hk; simp; exact hB⟩
/-- Behind it, below the base, all is as it was. -/
theorem UaTo.below {B g : Nat} {S : Nat → Prop} {w w' v : World} {i0 s0 ins sent : List Int} {l0 m0 lost may : Bool} (h : UaTo B g S w ins sent lost may w') (h0 : Ua B g S w i0 s0 l0 m0) (hb : Below v.heap.size v w) (hB : v.heap.size ≤ B) :
    Below v.heap.size v w' := by
  obtain ⟨S', _, hc, _⟩ := h
  obtain ⟨_, _, _, _, _, _, _, _, _, hS⟩ := h0
  exact Chg.below hb hc hb.size (fun k hk => by have := (hS k hk).1; omega)
set_option maxHeartbeats 800000 in
theorem ua_read (w : World) : Calls Try.prog 28 #[] w fun e w' => e = .returned (.int .u64 7) ∧ Below w.heap.size w w' := by
  go_enter Try.func28, Try.ntmps28
  go_wp2_with fail
  have u0 := ua_new w
  refine (ua_come_room _ _ _ _ _ _ _ _ _ u0 (by simp)).mono ?_
  rintro e w1 ⟨rfl, u1⟩
  have b1 := UaTo.below u1 u0 (bw_alloc (Below.refl w.heap.size w) _) (Nat.le_refl _)
  obtain ⟨S1, u1, _, _⟩ := u1
  have U1 := Lib.hid u1
  have B1 := Lib.hid b1
  clear u0 u1 b1
  go_wp2_with fail
  refine (ua_load0_some _ _ _ _ 7 [] _ _ _ U1.out (by decide) (by decide)).mono ?_
  rintro e w2 ⟨rfl, u2⟩
  have b2 := UaTo.below u2 U1.out B1.out (Nat.le_refl _)
  have B2 := Lib.hid b2
  clear u2 b2
  go_wp2_with fail
  go_ret
  exact ⟨rfl, B2.out⟩
set_option maxHeartbeats 800000 in
theorem ua_awake (w : World) : Calls Try.prog 12 #[] w fun e w' => e = .returned (.bool true) ∧ Below w.heap.size w w' := by
  go_enter Try.func12, Try.ntmps12
  go_wp2_with fail
  have u0 := ua_new w
  refine (ua_come_room _ _ _ _ _ _ _ _ _ u0 (by simp)).mono ?_
  rintro e w1 ⟨rfl, u1⟩
  have b1 := UaTo.below u1 u0 (bw_alloc (Below.refl w.heap.size w) _) (Nat.le_refl _)
  have B1 := Lib.hid b1
  clear u0 u1 b1
  go_wp2_with fail
  refine (ua_read _).mono ?_
  rintro e w2 ⟨rfl, b2⟩
  have B2 := Lib.hid (bw_trans B1.out b2)
  clear b2
  go_wp2_with fail
  go_ret
  exact ⟨rfl, B2.out⟩
end Go.Proofs.Ytlgjdakpdhemiaa
