/- The walk of the law ClockTicks: called with any three numbers of its kinds it returns true, and nothing that lay in memory is another. No conditions beyond the numbers' kinds. -/
import Derived.Test.YtdljlhjjonkfeaaBase
namespace Go.Proofs.Ytdljlhjjonkfeaa
open Go.RowKit
theorem b1 : (Go.bits .and .u32 3 1 == 0) = false := by decide +kernel
theorem b2 : (Go.bits .and .u32 3 2 != 0) = true := by decide +kernel
section
variable (g : Nat) (c a d v : Int) (w : World) 
set_option maxHeartbeats 400000 in
theorem ck_store0 (m : Int) (h0 : 0 ≤ v) (h1 : v ≤ 4294967295) (hb : Bk w g 27 (ck c a m d)) :
    Calls Try.prog 9 #[.pointer (some ⟨g, 0, none⟩), .int .u64 0, .int .i64 4, .int .u64 v] w fun e w' => e = .returned (.int .i64 0) ∧ Bk w' g 27 (ck v a m d) ∧ On g w w' := by
  have hf := hb.free 0
  have hc := hb.cell 0
  simp [ck] at hc
  have H := Lib.hid hb
  clear hb
  go_enter Try.func9, Try.ntmps9
  go_wp2
  go_ret
  exact ⟨rfl, H.out.set 0 _, (On.refl g w).set 0 _⟩
set_option maxHeartbeats 400000 in
theorem ck_store12 (m : Int) (h0 : 0 ≤ v) (h1 : v ≤ 4294967295) (hb : Bk w g 27 (ck c a m d)) :
    Calls Try.prog 9 #[.pointer (some ⟨g, 0, none⟩), .int .u64 12, .int .i64 4, .int .u64 v] w fun e w' => e = .returned (.int .i64 0) ∧ Bk w' g 27 (ck c v m d) ∧ On g w w' := by
  have hf := hb.free 1
  have hc := hb.cell 1
  simp [ck] at hc
  have H := Lib.hid hb
  clear hb
  go_enter Try.func9, Try.ntmps9
  go_wp2
  go_ret
  exact ⟨rfl, H.out.set 1 _, (On.refl g w).set 1 _⟩
set_option maxHeartbeats 400000 in
theorem ck_store4 (m : Int) (hb : Bk w g 27 (ck c a m d)) :
    Calls Try.prog 9 #[.pointer (some ⟨g, 0, none⟩), .int .u64 4, .int .i64 4, .int .u64 3] w fun e w' => e = .returned (.int .i64 0) ∧ Bk w' g 27 (ck c a 3 d) ∧ On g w w' := by
  have hf := hb.free 2
  have hc := hb.cell 2
  simp [ck] at hc
  have H := Lib.hid hb
  clear hb
  go_enter Try.func9, Try.ntmps9
  go_wp2
  go_ret
  exact ⟨rfl, H.out.set 2 _, (On.refl g w).set 2 _⟩
set_option maxHeartbeats 400000 in
theorem ck_store8 (m : Int) (hd : d = 0 ∨ d = 1) (hb : Bk w g 27 (ck c a m d)) :
    Calls Try.prog 9 #[.pointer (some ⟨g, 0, none⟩), .int .u64 8, .int .i64 4, .int .u64 1] w fun e w' => e = .returned (.int .i64 0) ∧ Bk w' g 27 (ck c a m 0) ∧ On g w w' := by
  have hf := hb.free 3
  have hc := hb.cell 3
  simp [ck] at hc
  have H := Lib.hid hb
  clear hb
  rcases hd with rfl | rfl
  all_goals
    go_enter Try.func9, Try.ntmps9
    go_wp2
    go_ret
    exact ⟨rfl, H.out.set 3 _, (On.refl g w).set 3 _⟩
set_option maxHeartbeats 400000 in
theorem ck_load0 (m : Int) (h0 : 0 ≤ c) (h1 : c ≤ 4294967295) (hb : Bk w g 27 (ck c a m d)) :
    Calls Try.prog 11 #[.pointer (some ⟨g, 0, none⟩), .int .u64 0, .int .i64 4] w fun e w' => e = .returned (.tuple #[.int .u64 c, .int .i64 0]) ∧ w = w' := by
  have hc := hb.cell 0
  simp [ck] at hc
  clear hb
  go_enter Try.func11, Try.ntmps11
  go_wp2
  go_ret2
  exact ⟨rfl, rfl⟩
set_option maxHeartbeats 400000 in
theorem ck_load8 (m : Int) (h0 : 0 ≤ d) (h1 : d ≤ 4294967295) (hb : Bk w g 27 (ck c a m d)) :
    Calls Try.prog 11 #[.pointer (some ⟨g, 0, none⟩), .int .u64 8, .int .i64 4] w fun e w' => e = .returned (.tuple #[.int .u64 d, .int .i64 0]) ∧ w = w' := by
  have hc := hb.cell 3
  simp [ck] at hc
  clear hb
  go_enter Try.func11, Try.ntmps11
  go_wp2
  go_ret2
  exact ⟨rfl, rfl⟩
set_option maxHeartbeats 400000 in
theorem ck_tick0 (hb : Bk w g 27 (ck 0 a 3 d)) :
    Calls Try.prog 10 #[.pointer (some ⟨g, 0, none⟩)] w fun e w' => e = .returned (.tuple #[]) ∧ Bk w' g 27 (ck 0 a 3 d) ∧ On g w w' := by
  have h0 := hb.cell 0
  have h2 := hb.cell 2
  have b1 := b1
  simp [ck] at h0 h2
  have H := Lib.hid hb
  clear hb
  go_enter Try.func10, Try.ntmps10
  go_wp2
  refine bodyPost_ret (results_none rfl _ _ _) rfl ?_
  exact ⟨rfl, H.out, On.refl g w⟩
set_option maxHeartbeats 400000 in
theorem ck_tick1 (hb : Bk w g 27 (ck 1 a 3 d)) :
    Calls Try.prog 10 #[.pointer (some ⟨g, 0, none⟩)] w fun e w' => e = .returned (.tuple #[]) ∧ Bk w' g 27 (ck a a 3 1) ∧ On g w w' := by
  have h0 := hb.cell 0
  have h1 := hb.cell 1
  have h2 := hb.cell 2
  have h3 := hb.cell 3
  have f0 := hb.free 0
  have f1 := hb.free 1
  have f3 := hb.free 3
  have b1 := b1
  simp [ck] at h0 h1 h2 h3
  have H := Lib.hid hb
  clear hb
  go_enter Try.func10, Try.ntmps10
  go_wp2
  go_end0
  exact ⟨rfl, ((H.out.set 0 _).set 3 _).set 0 _, (((On.refl g w).set 0 _).set 3 _).set 0 _⟩
set_option maxHeartbeats 400000 in
theorem ck_tick2 (hc : 2 ≤ c) (hc2 : c ≤ 4294967295) (hb : Bk w g 27 (ck c a 3 d)) :
    Calls Try.prog 10 #[.pointer (some ⟨g, 0, none⟩)] w fun e w' => e = .returned (.tuple #[]) ∧ Bk w' g 27 (ck (c - 1) a 3 d) ∧ On g w w' := by
  have h0 := hb.cell 0
  have h2 := hb.cell 2
  have f0 := hb.free 0
  have b1 := b1
  simp [ck] at h0 h2
  have H := Lib.hid hb
  clear hb
  have n0 : (c == 0) = false := by simp; omega
  have n1 : (c - 1 == 0) = false := by simp; omega
  go_enter Try.func10, Try.ntmps10
  go_wp2
  go_end0
  exact ⟨rfl, H.out.set 0 _, (On.refl g w).set 0 _⟩
set_option maxHeartbeats 400000 in
theorem ck_high (hb : Bk w g 27 (ck c a 3 d)) :
    Calls Try.prog 12 #[.pointer (some ⟨g, 0, none⟩)] w fun e w' => e = .returned (.bool (d == 1)) ∧ w = w' := by
  have h0 := hb.cell 3
  have h2 := hb.cell 2
  have b2 := b2
  simp [ck] at h0 h2
  clear hb
  go_enter Try.func12, Try.ntmps12
  go_wp2
  go_ret
  exact ⟨rfl, rfl⟩
end
set_option maxHeartbeats 400000 in
theorem awake_any (w : World) : Calls Try.prog 8 #[] w fun e w' => e = .returned (.bool true) ∧ Below w.heap.size w w' := by
  go_enter Try.func8, Try.ntmps8
  go_wp2
  go_ret
  exact ⟨rfl, by repeat (first | exact Below.refl _ _ | apply Below.drew | apply bw_alloc)⟩
set_option maxHeartbeats 800000 in
theorem ticks_any (count anew ticks : Int) (w0 : (Lit.int .u8 count).wf = true) (w1 : (Lit.int .u8 anew).wf = true) (w2 : (Lit.int .u16 ticks).wf = true) (w : World) :
    Calls Try.prog 3 #[.int .u8 count, .int .u8 anew, .int .u16 ticks] w fun e w' => e = .returned (.bool true) ∧ Below w.heap.size w w' := by
  obtain ⟨h0, h1⟩ := bounds_u8 w0
  obtain ⟨h2, h3⟩ := bounds_u8 w1
  obtain ⟨h4, h5⟩ := bounds_u16 w2
  clear w0 w1 w2
  go_enter Try.func3, Try.ntmps3
  go_wp2_with (go_at_call 8; refine (awake_any _).mono ?_; rintro e w1 ⟨rfl, hb1⟩)
  have k0 : Bk (w1.alloc (.cells #[.int .u32 0, .int .u32 0, .int .u32 0, .int .u32 0] 27)) w1.heap.size 27 (ck 0 0 0 0) := Bk.new _ _ _
  refine (ck_store0 _ _ _ _ _ _ _ h0 (by omega) k0).mono ?_
  rintro e w2 ⟨rfl, k2, o2⟩
  go_wp2_with fail
  refine (ck_store12 _ _ _ _ _ _ _ h2 (by omega) k2).mono ?_
  rintro e w3 ⟨rfl, k3, o3⟩
  go_wp2_with fail
  refine (ck_store4 _ _ _ _ _ _ k3).mono ?_
  rintro e w4 ⟨rfl, k4, o4⟩
  have B4 := Lib.hid ((bw_alloc hb1 _).grown ((o2.trans o3).trans o4) (by have := hb1.size; simp; omega) (by rintro k ⟨⟩; exact hb1.size))
  have K4 := Lib.hid k4
  have G4 := hb1.size
  clear k0 k2 o2 k3 o3 k4 o4
  generalize hgg : w1.heap.size = g at *
  clear hgg hb1
  go_wp2_with fail
  go_loopw [8, 9, 33] (fun n came i wr => ∃ (c d k : Int), n = .int .u64 c ∧ came = .bool (d == 1) ∧ i = .int .i64 k ∧ 0 ≤ c ∧ c ≤ 255 ∧ (d = 0 ∨ d = 1) ∧ 0 ≤ k ∧ k ≤ 600 ∧ Hid (Bk wr g 27 (ck c anew 3 d)) ∧ Hid (Below w.heap.size w wr) ∧ w.heap.size ≤ g ∧ Hid (Below w.heap.size w wr)) (fun _ _ i _ => 600 - (intOf i).toNat)
  case atStart => exact ⟨count, 0, 0, rfl, rfl, rfl, h0, h1, .inl rfl, by omega, by omega, K4, B4, G4, B4⟩
  case round =>
    obtain ⟨c, d, k, rfl, rfl, rfl, hc0, hc1, hd, hk0, hk1, HK, HB, hg, HB'⟩ := hrel
    clear B4 K4 G4 HB'
    by_cases hlt : k < ticks % 600
    · rcases (by omega : c = 0 ∨ c = 1 ∨ 2 ≤ c) with rfl | rfl | h2c
      · rcases hd with rfl | rfl
        all_goals
          go_wp2_with fail
          refine (ck_tick0 _ _ _ _ HK.out).mono ?_
          rintro e w5 ⟨rfl, k5, o5⟩
          have K5 := Lib.hid k5
          have B5 := Lib.hid (On.below HB.out o5 HB.out.size hg)
          clear o5 k5 HB HK
          go_wp2_with fail
          refine (ck_load0 _ _ _ _ _ _ (by omega) (by omega) K5.out).mono ?_
          rintro e w6 ⟨rfl, rfl⟩
          go_wp2_with fail
          refine (ck_load8 _ _ _ _ _ _ (by omega) (by omega) K5.out).mono ?_
          rintro e w6 ⟨rfl, rfl⟩
          go_wp2_with fail
          refine (ck_high _ _ _ _ _ K5.out).mono ?_
          rintro e w6 ⟨rfl, rfl⟩
          go_wp2_with fail
          go_roundw
          case rel => exact ⟨0, _, k + 1, rfl, rfl, rfl, by omega, by omega, by omega, by omega, by omega, K5, B5, hg, B5⟩
          case measure => simp [intOf]; omega
      · rcases hd with rfl | rfl
        all_goals
          go_wp2_with fail
          refine (ck_tick1 _ _ _ _ HK.out).mono ?_
          rintro e w5 ⟨rfl, k5, o5⟩
          have K5 := Lib.hid k5
          have B5 := Lib.hid (On.below HB.out o5 HB.out.size hg)
          clear o5 k5 HB HK
          go_wp2_with fail
          refine (ck_load0 _ _ _ _ _ _ (by omega) (by omega) K5.out).mono ?_
          rintro e w6 ⟨rfl, rfl⟩
          go_wp2_with fail
          refine (ck_load8 _ _ _ _ _ _ (by omega) (by omega) K5.out).mono ?_
          rintro e w6 ⟨rfl, rfl⟩
          go_wp2_with fail
          refine (ck_high _ _ _ _ _ K5.out).mono ?_
          rintro e w6 ⟨rfl, rfl⟩
          go_wp2_with fail
          go_roundw
          case rel => exact ⟨anew, 1, k + 1, rfl, rfl, rfl, by omega, by omega, by omega, by omega, by omega, K5, B5, hg, B5⟩
          case measure => simp [intOf]; omega
      · have n1 : (c - 1 == 0) = false := by simp; omega
        rcases hd with rfl | rfl
        all_goals
          go_wp2_with fail
          refine (ck_tick2 _ _ _ _ _ (by omega) (by omega) HK.out).mono ?_
          rintro e w5 ⟨rfl, k5, o5⟩
          have K5 := Lib.hid k5
          have B5 := Lib.hid (On.below HB.out o5 HB.out.size hg)
          clear o5 k5 HB HK
          go_wp2_with fail
          refine (ck_load0 _ _ _ _ _ _ (by omega) (by omega) K5.out).mono ?_
          rintro e w6 ⟨rfl, rfl⟩
          go_wp2_with fail
          refine (ck_load8 _ _ _ _ _ _ (by omega) (by omega) K5.out).mono ?_
          rintro e w6 ⟨rfl, rfl⟩
          go_wp2_with fail
          refine (ck_high _ _ _ _ _ K5.out).mono ?_
          rintro e w6 ⟨rfl, rfl⟩
          go_wp2_with fail
          go_roundw
          case rel => exact ⟨c - 1, _, k + 1, rfl, rfl, rfl, by omega, by omega, by omega, by omega, by omega, K5, B5, hg, B5⟩
          case measure => simp [intOf]; omega
    · go_wp2_with fail
      refine (ck_store8 _ _ _ _ _ _ hd HK.out).mono ?_
      rintro e w5 ⟨rfl, k5, o5⟩
      have K5 := Lib.hid k5
      have B5 := Lib.hid (On.below HB.out o5 HB.out.size hg)
      clear o5 k5 HB HK
      go_wp2_with fail
      refine (ck_high _ _ _ _ _ K5.out).mono ?_
      rintro e w6 ⟨rfl, rfl⟩
      go_wp2_with fail
      go_ret
      exact ⟨rfl, B5.out⟩
end Go.Proofs.Ytdljlhjjonkfeaa
