/- Contracts of the GPIO methods: each answers, and leaves, what plain functions of its seven numbers tell. Conditions: the numbers are of their kinds. -/
import Derived.Test.YtlgjdakpdhemiaaBase
import Derived.Test.YtlgjdakpdhemiaaBitp
import Derived.StillTailTactics
import Derived.Deep.RegionWith
namespace Go.Proofs.Ytlgjdakpdhemiaa
open Go.RowKit
/-- A GPIO's seven cells. -/
def gc (x o h e l n m : Int) : Array Value := #[.int .u32 x, .int .u32 o, .int .u32 h, .int .u32 e, .int .u32 l, .int .u32 n, .int .u32 m]
def gpSame (g : Nat) (cs : Array Value) (w w' : World) : Prop := Bk w' g 27 cs ∧ On g w w'
set_option maxHeartbeats 400000 in
theorem gp_pins (g : Nat) (x o h e l n m : Int) (w : World) (hb : Bk w g 27 (gc x o h e l n m)) :
    Calls Try.prog 26 #[.pointer (some ⟨g, 0, none⟩)] w fun e w' => e = .returned (.int .u32 (pinsV x o h)) ∧ ∃ k, w' = w.drewN k := by
  have c0 := hb.cell 0
  have c1 := hb.cell 1
  have c2 := hb.cell 2
  simp [gc] at c0 c1 c2
  clear hb
  go_enter Try.func26, Try.ntmps26
  go_wp2
  go_quiet (fail)
  go_wp2
  go_ret
  exact ⟨rfl, _, rfl⟩
set_option maxHeartbeats 800000 in
theorem gp_changed (g : Nat) (x o h e l n m was : Int) (w : World) (hb : Bk w g 27 (gc x o h e l n m)) :
    Calls Try.prog 27 #[.pointer (some ⟨g, 0, none⟩), .int .u32 was] w fun r w' => r = .returned (.tuple #[]) ∧ Bk w' g 27 (gc x o h e l (Go.bits .or .u32 n (Go.bits .and .u32 (Go.bits .andNot .u32 (pinsV x o h) was) e)) m) ∧ On g w w' := by
  have c3 := hb.cell 3
  have c5 := hb.cell 5
  have f5 := hb.free 5
  simp [gc] at c3 c5
  have HB := Lib.hid hb
  clear hb
  go_enter Try.func27, Try.ntmps27
  go_wp2
  go_region_with (go_at_call 26; refine (gp_pins _ _ _ _ _ _ _ _ _ (by first | exact HB.out | exact HB.out.drewN _)).mono ?_; rintro r w1 ⟨rfl, k, rfl⟩)
  all_goals
    go_wp2
    go_end0
    exact ⟨rfl, HB.out.set 5 _, ⟨rfl, rfl, rfl, (On.set (On.refl g w) 5 _).size, ((On.refl g w).set 5 _).block⟩⟩
theorem on_draws {g : Nat} {w : World} {k : Nat} {u : Value} (j : Nat) (h : On g w (w.setCell ⟨g, k, none⟩ u)) : On g w ((w.drewN j).setCell ⟨g, k, none⟩ u) := ⟨rfl, rfl, rfl, h.size, h.block⟩
set_option maxHeartbeats 800000 in
theorem gp_pin_high (g : Nat) (x o h e l n m line : Int) (w : World) (hb : Bk w g 27 (gc x o h e l n m)) (h0 : 0 ≤ line) (h1 : line < 32) :
    Calls Try.prog 10 #[.pointer (some ⟨g, 0, none⟩), .int .i64 line, .bool true] w fun r w' => r = .returned (.int .i64 0) ∧
      Bk w' g 27 (gc (Go.bits .or .u32 (Go.bits .andNot .u32 x (2 ^ line.toNat % 4294967296)) (2 ^ line.toNat % 4294967296)) o h e l
        (notedV n (pinsV x o h) (pinsV (Go.bits .or .u32 (Go.bits .andNot .u32 x (2 ^ line.toNat % 4294967296)) (2 ^ line.toNat % 4294967296)) o h) e) m) ∧ On g w w' := by
  have c0 := hb.cell 0
  have f0 := hb.free 0
  simp [gc] at c0
  have HB := Lib.hid hb
  clear hb
  go_enter Try.func10, Try.ntmps10
  go_wp2_with fail
  refine (gp_pins _ _ _ _ _ _ _ _ _ HB.out).mono ?_
  rintro r w1 ⟨rfl, k, rfl⟩
  go_wp2_with fail
  go_region
  go_wp2_with fail
  go_region
  go_wp2_with fail
  refine (gp_changed g (Go.bits .or .u32 (Go.bits .andNot .u32 x (2 ^ line.toNat % 4294967296)) (2 ^ line.toNat % 4294967296)) o h e l n m _ _ (by exact (((HB.out.drewN _).set 0 _).set 0 _).drew)).mono ?_
  rintro r w1 ⟨rfl, b1, o1⟩
  have B1 := Lib.hid b1
  have O1 : Hid (On g w w1) := Lib.hid (by refine On.trans ?_ o1; repeat (first | exact On.refl _ _ | apply On.drew | apply On.drewN | apply On.set))
  clear b1 o1
  go_wp2_with fail
  go_ret
  exact ⟨rfl, B1.out, O1.out⟩
set_option maxHeartbeats 800000 in
theorem gp_pin_low (g : Nat) (x o h e l n m line : Int) (w : World) (hb : Bk w g 27 (gc x o h e l n m)) (h0 : 0 ≤ line) (h1 : line < 32) :
    Calls Try.prog 10 #[.pointer (some ⟨g, 0, none⟩), .int .i64 line, .bool false] w fun r w' => r = .returned (.int .i64 0) ∧
      Bk w' g 27 (gc (Go.bits .andNot .u32 x (2 ^ line.toNat % 4294967296)) o h e l
        (notedV n (pinsV x o h) (pinsV (Go.bits .andNot .u32 x (2 ^ line.toNat % 4294967296)) o h) e) m) ∧ On g w w' := by
  have c0 := hb.cell 0
  have f0 := hb.free 0
  simp [gc] at c0
  have HB := Lib.hid hb
  clear hb
  go_enter Try.func10, Try.ntmps10
  go_wp2_with fail
  refine (gp_pins _ _ _ _ _ _ _ _ _ HB.out).mono ?_
  rintro r w1 ⟨rfl, k, rfl⟩
  go_wp2_with fail
  go_region
  go_wp2_with fail
  refine (gp_changed g (Go.bits .andNot .u32 x (2 ^ line.toNat % 4294967296)) o h e l n m _ _ (by exact ((HB.out.drewN _).set 0 _).drew)).mono ?_
  rintro r w1 ⟨rfl, b1, o1⟩
  have B1 := Lib.hid b1
  have O1 : Hid (On g w w1) := Lib.hid (by refine On.trans ?_ o1; repeat (first | exact On.refl _ _ | apply On.drew | apply On.drewN | apply On.set))
  clear b1 o1
  go_wp2_with fail
  go_ret
  exact ⟨rfl, B1.out, O1.out⟩
set_option maxHeartbeats 800000 in
theorem gp_load20 (g : Nat) (x o h e l n m : Int) (w : World) (hb : Bk w g 27 (gc x o h e l n m)) (h0 : 0 ≤ n) (h1 : n < 4294967296) :
    Calls Try.prog 11 #[.pointer (some ⟨g, 0, none⟩), .int .u64 20, .int .i64 4] w fun r w' => r = .returned (.tuple #[.int .u64 n, .int .i64 0]) ∧ w = w' := by
  have c5 := hb.cell 5
  simp [gc] at c5
  clear hb
  go_enter Try.func11, Try.ntmps11
  go_wp2_with fail
  refine (ask_any _ _ _ _ (by decide)).mono ?_
  rintro e w1 ⟨rfl, rfl⟩
  go_wp2_with fail
  go_ret2
  exact ⟨rfl, rfl⟩
set_option maxHeartbeats 800000 in
theorem gp_load0 (g : Nat) (x o h e l n m : Int) (w : World) (hb : Bk w g 27 (gc x o h e l n m)) (h0 : 0 ≤ pinsV x o h) (h1 : pinsV x o h < 4294967296) :
    Calls Try.prog 11 #[.pointer (some ⟨g, 0, none⟩), .int .u64 0, .int .i64 4] w fun r w' => r = .returned (.tuple #[.int .u64 (pinsV x o h), .int .i64 0]) ∧ Bk w' g 27 (gc x o h e l n m) ∧ On g w w' := by
  have HP := Lib.hid (gp_pins g x o h e l n m w hb)
  have HB := Lib.hid hb
  clear hb
  generalize pinsV x o h = P at *
  go_enter Try.func11, Try.ntmps11
  go_wp2_with fail
  refine (ask_any _ _ _ _ (by decide)).mono ?_
  rintro e w1 ⟨rfl, rfl⟩
  go_wp2_with fail
  refine HP.out.mono ?_
  rintro e w1 ⟨rfl, k, rfl⟩
  go_wp2_with fail
  go_ret2
  exact ⟨rfl, HB.out.drewN _, (On.refl g w).drewN _⟩
set_option maxHeartbeats 800000 in
theorem gp_store12 (g : Nat) (x o h e l n m v : Int) (w : World) (hb : Bk w g 27 (gc x o h e l n m)) :
    Calls Try.prog 9 #[.pointer (some ⟨g, 0, none⟩), .int .u64 12, .int .i64 4, .int .u64 v] w fun r w' => r = .returned (.int .i64 0) ∧
      Bk w' g 27 (gc x o h (v % 4294967296) l (notedV n (pinsV x o h) (pinsV x o h) (v % 4294967296)) m) ∧ On g w w' := by
  have c3 := hb.cell 3
  have f3 := hb.free 3
  simp [gc] at c3
  have HB := Lib.hid hb
  clear hb
  go_enter Try.func9, Try.ntmps9
  go_wp2_with fail
  refine (ask_any _ _ _ _ (by decide)).mono ?_
  rintro e w1 ⟨rfl, rfl⟩
  go_wp2_with fail
  refine (gp_pins _ _ _ _ _ _ _ _ _ HB.out).mono ?_
  rintro r w1 ⟨rfl, k, rfl⟩
  go_wp2_with fail
  refine (gp_changed g x o h (v % 4294967296) l n m _ _ (by exact (HB.out.drewN _).set 3 _)).mono ?_
  rintro r w1 ⟨rfl, b1, o1⟩
  have B1 := Lib.hid b1
  have O1 : Hid (On g w w1) := Lib.hid (by refine On.trans ?_ o1; repeat (first | exact On.refl _ _ | apply On.drew | apply On.drewN | apply On.set))
  clear b1 o1
  go_wp2_with fail
  go_ret
  exact ⟨rfl, B1.out, O1.out⟩
set_option maxHeartbeats 800000 in
theorem gp_store20 (g : Nat) (x o h e l n m v : Int) (w : World) (hb : Bk w g 27 (gc x o h e l n m)) (h0 : 0 ≤ v) (h1 : v < 4294967296) :
    Calls Try.prog 9 #[.pointer (some ⟨g, 0, none⟩), .int .u64 20, .int .i64 4, .int .u64 v] w fun r w' => r = .returned (.int .i64 0) ∧
      Bk w' g 27 (gc x o h e l (notedV (Go.bits .andNot .u32 n v) (pinsV x o h) (pinsV x o h) e) m) ∧ On g w w' := by
  have c5 := hb.cell 5
  have f5 := hb.free 5
  simp [gc] at c5
  have HB := Lib.hid hb
  clear hb
  go_enter Try.func9, Try.ntmps9
  go_wp2_with fail
  refine (ask_any _ _ _ _ (by decide)).mono ?_
  rintro e w1 ⟨rfl, rfl⟩
  go_wp2_with fail
  refine (gp_pins _ _ _ _ _ _ _ _ _ HB.out).mono ?_
  rintro r w1 ⟨rfl, k, rfl⟩
  go_wp2_with fail
  refine (gp_changed g x o h e l (Go.bits .andNot .u32 n v) m _ _ (by exact (HB.out.drewN _).set 5 _)).mono ?_
  rintro r w1 ⟨rfl, b1, o1⟩
  have B1 := Lib.hid b1
  have O1 : Hid (On g w w1) := Lib.hid (by refine On.trans ?_ o1; repeat (first | exact On.refl _ _ | apply On.drew | apply On.drewN | apply On.set))
  clear b1 o1
  go_wp2_with fail
  go_ret
  exact ⟨rfl, B1.out, O1.out⟩
end Go.Proofs.Ytlgjdakpdhemiaa
