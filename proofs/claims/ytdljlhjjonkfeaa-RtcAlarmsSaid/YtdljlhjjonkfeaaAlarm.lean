/- The walk of the law RtcAlarms: called with any time, alarm and number of ticks it returns true, and nothing that lay in memory is another. No conditions beyond the numbers' kinds. -/
import Derived.Test.YtdljlhjjonkfeaaRtc
namespace Go.Proofs.Ytdljlhjjonkfeaa
open Go.RowKit
theorem rtc_awake_any (w : World) : Calls Try.prog 13 #[] w fun e w' => e = .returned (.bool true) ∧ Below w.heap.size w w' := by
  go_enter Try.func13, Try.ntmps13
  go_wp2
  go_ret
  exact ⟨rfl, by repeat (first | exact Below.refl _ _ | apply Below.drew | apply bw_alloc)⟩
theorem ask0 : askV 0 4 16 = 0 := by decide
theorem ask4 : askV 4 4 16 = 0 := by decide
theorem ask12 : askV 12 4 16 = 0 := by decide
set_option maxHeartbeats 800000 in
theorem alarms_any (time alarm ticks : Int) (w0 : (Lit.int .u32 time).wf = true) (w1 : (Lit.int .u32 alarm).wf = true) (w2 : (Lit.int .u16 ticks).wf = true) (w : World) :
    Calls Try.prog 6 #[.int .u32 time, .int .u32 alarm, .int .u16 ticks] w fun e w' => e = .returned (.bool true) ∧ Below w.heap.size w w' := by
  obtain ⟨h0, h1⟩ := bounds_u32 w0
  obtain ⟨h2, h3⟩ := bounds_u32 w1
  obtain ⟨h4, h5⟩ := bounds_u16 w2
  clear w0 w1 w2
  go_enter Try.func6, Try.ntmps6
  go_wp2_with (go_at_call 13; refine (rtc_awake_any _).mono ?_; rintro e w1 ⟨rfl, hb1⟩)
  have k0 : Bk (w1.alloc (.cells #[.int .u32 0, .int .u32 0, .int .u32 0, .int .u32 0] 40)) w1.heap.size 40 (rk 0 0 0 0) := Bk.new _ _ _
  refine (rtc_store_ok _ _ _ _ _ _ _ _ _ (by decide) ask0 k0 (.inl rfl) h0).mono ?_
  rintro e w2 ⟨rfl, k2, o2⟩
  have k2 : Bk w2 w1.heap.size 40 (rk time 0 0 0) := by
    have := k2
    unfold rtcPut at this
    rwa [if_pos rfl, Int.emod_eq_of_lt h0 (by omega)] at this
  go_wp2_with fail
  refine (rtc_store_ok _ _ _ _ _ _ _ _ _ (by decide) ask4 k2 (.inl rfl) h2).mono ?_
  rintro e w3 ⟨rfl, k3, o3⟩
  have k3 : Bk w3 w1.heap.size 40 (rk time alarm 0 0) := by
    have := k3
    unfold rtcPut at this
    rwa [if_neg (by decide), if_pos rfl, Int.emod_eq_of_lt h2 (by omega)] at this
  go_wp2_with fail
  refine (rtc_store_ok _ _ _ _ _ _ _ _ _ (by decide) ask12 k3 (.inl rfl) (by decide)).mono ?_
  rintro e w4 ⟨rfl, k4, o4⟩
  have k4 : Bk w4 w1.heap.size 40 (rk time alarm 0 1) := k4
  have B4 := Lib.hid ((bw_alloc hb1 _).grown ((o2.trans o3).trans o4) (by have := hb1.size; simp; omega) (by rintro k ⟨⟩; exact hb1.size))
  have K4 := Lib.hid k4
  have G4 := hb1.size
  clear k0 k2 o2 k3 o3 k4 o4
  generalize hgg : w1.heap.size = g at *
  clear hgg hb1
  go_wp2_with fail
  go_loopw [0, 8, 28] (fun tm went i wr => ∃ (t q k : Int), tm = .int .u32 t ∧ went = .bool (q == 1) ∧ i = .int .i64 k ∧ 0 ≤ t ∧ t < 4294967296 ∧ (q = 0 ∨ q = 1) ∧ 0 ≤ k ∧ k ≤ 500 ∧ Hid (Bk wr g 40 (rk t alarm q 1)) ∧ Hid (Below w.heap.size w wr) ∧ w.heap.size ≤ g) (fun _ _ i _ => 500 - (intOf i).toNat)
  case atStart => exact ⟨time, 0, 0, rfl, rfl, rfl, h0, by omega, .inl rfl, by omega, by omega, K4, B4, G4⟩
  case round =>
    obtain ⟨t, q, k, rfl, rfl, rfl, ht0, ht1, hq, hk0, hk1, HK, HB, hg⟩ := hrel
    clear B4 K4 G4
    by_cases hlt : k < ticks % 500
    · by_cases he : (t + 1) % 4294967296 = alarm
      · have he' : ((t + 1) % 4294967296 == alarm) = true := by simpa using he
        have HE := Lib.hid he
        clear he
        rcases hq with rfl | rfl
        all_goals
          go_wp2_with fail
          refine (rtc_tick _ _ _ _ _ _ HK.out ⟨ht0, ht1⟩).mono ?_
          rintro e w5 ⟨rfl, k5, o5⟩
          have K5 : Hid (Bk w5 g 40 (rk ((t + 1) % 4294967296) alarm 1 1)) := Lib.hid (by
            have := k5
            unfold rtcTicked at this
            rwa [if_pos HE.out] at this)
          have B5 := Lib.hid (On.below HB.out o5 HB.out.size hg)
          clear o5 k5 HB HK
          go_wp2_with fail
          refine (rtc_load_ok _ _ _ _ _ _ _ _ (by decide) ask0 K5.out (by omega) (by omega) (by omega) (by omega)).mono ?_
          rintro e w6 ⟨rfl, rfl⟩
          go_wp2_with fail
          refine (rtc_high _ _ _ _ _ _ K5.out).mono ?_
          rintro e w6 ⟨rfl, rfl⟩
          go_wp2_with fail
          go_roundw
          case rel => exact ⟨(t + 1) % 4294967296, 1, k + 1, rfl, rfl, rfl, by omega, by omega, .inr rfl, by omega, by omega, K5, B5, hg⟩
          case measure => simp [intOf]; omega
      · have he' : ((t + 1) % 4294967296 == alarm) = false := by simpa using he
        have HE := Lib.hid he
        clear he
        rcases hq with rfl | rfl
        all_goals
          go_wp2_with fail
          refine (rtc_tick _ _ _ _ _ _ HK.out ⟨ht0, ht1⟩).mono ?_
          rintro e w5 ⟨rfl, k5, o5⟩
          have K5 := Lib.hid k5
          unfold rtcTicked at K5
          rw [if_neg HE.out] at K5
          have B5 := Lib.hid (On.below HB.out o5 HB.out.size hg)
          clear o5 k5 HB HK
          go_wp2_with fail
          refine (rtc_load_ok _ _ _ _ _ _ _ _ (by decide) ask0 K5.out (by omega) (by omega) (by omega) (by omega)).mono ?_
          rintro e w6 ⟨rfl, rfl⟩
          go_wp2_with fail
          refine (rtc_high _ _ _ _ _ _ K5.out).mono ?_
          rintro e w6 ⟨rfl, rfl⟩
          go_wp2_with fail
          go_roundw
          case rel => exact ⟨(t + 1) % 4294967296, _, k + 1, rfl, rfl, rfl, by omega, by omega, by omega, by omega, by omega, K5, B5, hg⟩
          case measure => simp [intOf]; omega
    · go_wp2_with fail
      go_ret
      exact ⟨rfl, HB.out⟩
end Go.Proofs.Ytdljlhjjonkfeaa
