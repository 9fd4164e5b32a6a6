/- The walk of the law GpioEdges: called with any edges and any list of pins it returns true, and nothing that lay in memory is another. No conditions beyond the kinds. -/
import Derived.Test.YtlgjdakpdhemiaaGpio
namespace Go.Proofs.Ytlgjdakpdhemiaa
open Go.RowKit
theorem gp_awake (w : World) : Calls Try.prog 8 #[] w fun e w' => e = .returned (.bool true) ∧ Below w.heap.size w w' := by
  go_enter Try.func8, Try.ntmps8
  go_wp2
  go_ret
  exact ⟨rfl, by repeat (first | exact Below.refl _ _ | apply Below.drew | apply bw_alloc)⟩
set_option maxRecDepth 100000 in
set_option maxHeartbeats 1600000 in
theorem edges_any (ed : Int) (a : Option Addr) (len cap : Nat) (z : List Int) (we : (Lit.int .u32 ed).wf = true) (w : World) (hz : IsRow .u8 w a len cap z) :
    Calls Try.prog 3 #[.int .u32 ed, .slice a len cap] w fun e w' => e = .returned (.bool true) ∧ Below w.heap.size w w' := by
  obtain ⟨hb1, hb2, hb3⟩ := hz.bound
  unfold maxLen at hb2
  have HZ := Lib.hid hz
  clear hz
  obtain ⟨he0, he1⟩ := bounds_u32 we
  clear we
  obtain ⟨E, rfl⟩ := Int.eq_ofNat_of_zero_le he0
  have hE : E < 4294967296 := by omega
  have hEm : (E : Int) % 4294967296 = E := by omega
  by_cases hl : 200 < len
  · have hl' : decide (200 < (len : Int)) = true := decide_eq_true (by omega)
    go_enter Try.func3, Try.ntmps3
    go_wp2_with (go_at_call 8; refine (gp_awake _).mono ?_; rintro e w1 ⟨rfl, hb1⟩)
    go_ret
    exact ⟨rfl, bw_trans (by assumption) hb1⟩
  · have hl' : decide (200 < (len : Int)) = false := decide_eq_false (by omega)
    have HEM := Lib.hid hEm
    clear hEm
    go_enter Try.func3, Try.ntmps3
    go_wp2_with fail
    refine (gp_awake _).mono ?_
    rintro e w1 ⟨rfl, bb1⟩
    go_wp2_with fail
    have k0 := Bk.new w1 27 (gc 0 0 0 0 0 0 0)
    refine (gp_store12 _ _ _ _ _ _ _ _ _ _ k0).mono ?_
    rintro e w2 ⟨rfl, k2, o2⟩
    have k3 : Bk w2 w1.heap.size 27 (gc ((0 : Nat) : Int) 0 0 E 0 ((0 : Nat) : Int) 0) := by
      have h2 := k2
      rw [HEM.out, show pinsV 0 0 0 = 0 from pins_plain (x := 0) (by decide), show notedV 0 0 0 (E : Int) = 0 from noted_same (x := 0) (n := 0) (by decide) (by decide) hE] at h2
      exact h2
    have K2 := Lib.hid k3
    have B2 := Lib.hid (On.below (bw_alloc bb1 _) o2 (by have := bb1.size; simp; omega) bb1.size)
    have g0 := bb1.size
    clear k0 k2 k3 o2 bb1
    generalize w1.heap.size = g at *
    go_wp2_with fail
    go_loopw [6, 7, 33] (fun nw nt i wr => ∃ (k x n : Nat), nw = .int .u32 x ∧ nt = .int .u32 n ∧ i = .int .i64 k ∧ k ≤ len ∧ x < 4294967296 ∧ n < 4294967296 ∧ Hid (Bk wr g 27 (gc x 0 0 E 0 n 0)) ∧ Hid (Below w.heap.size w wr)) (fun _ _ i _ => len - (intOf i).toNat)
    case atStart => exact ⟨0, 0, 0, rfl, rfl, rfl, by omega, by decide, by decide, K2, B2⟩
    case round =>
      obtain ⟨k, x, n, rfl, rfl, rfl, hk, hx, hn, HK, HB⟩ := hrel
      clear K2 B2
      by_cases hlt : k < len
      · obtain ⟨ad, rfl, hc, hwf⟩ := (HZ.out.stays HB.out).at_ hlt
        have hbd := bounds_u8 hwf
        clear hwf
        obtain ⟨b, hbv⟩ : ∃ b, z.getD k 0 = b := ⟨_, rfl⟩
        rw [hbv] at hc hbd
        have HV := Lib.hid hbv
        clear hbv
        obtain ⟨hbd0, hbd1⟩ := hbd
        obtain ⟨hq1, hq2⟩ := line_bit (b % 32) (by omega) (by omega)
        have hpow := hq1
        obtain ⟨K, hKv⟩ : ∃ K : Nat, 2 ^ (b % 32).toNat = K := ⟨_, rfl⟩
        rw [hKv] at hq1 hq2
        have HQ := Lib.hid hq1
        have HKV := Lib.hid hKv
        clear hpow hKv
        have eand := Lib.hid (and_law hx hq2)
        have eor := Lib.hid (or_now hx hq2)
        have ehi := Lib.hid (high_now hx hq2)
        have elo := Lib.hid (low_now hx hq2)
        have ell := Lib.hid (low_law hx hq2)
        have eke := Lib.hid (and_law hq2 hE)
        have ene := Lib.hid (or_now hn (and32 (b := E) hq2))
        clear hq1
        by_cases h128 : 128 ≤ b
        · have d128 : decide (128 ≤ b) = true := decide_eq_true h128
          by_cases hxk : x &&& K = 0
          · have f1 := HQ.out
            have tb : (Go.bits .and .u32 (x : Int) (K : Int) == 0) = true := by rw [eand.out, hxk]; rfl
            have e1 := eor.out
            have e2 := eke.out
            have e3 := ene.out
            go_wp2_with fail
            refine (gp_pin_high _ (x : Int) 0 0 E 0 (n : Int) 0 (b % 32) _ HK.out (by omega) (by omega)).mono ?_
            rintro r w5 ⟨rfl, k5, o5⟩
            have k6 : Bk w5 g 27 (gc ((x ||| K : Nat) : Int) 0 0 E 0 ((n ||| (K &&& E) : Nat) : Int) 0) := by
              have h5 := k5
              rw [HQ.out, ehi.out, pins_plain hx, pins_plain (or32 hx hq2), noted_new hx hn hE hq2 hxk] at h5
              exact h5
            have K6 := Lib.hid k6
            have B6 := Lib.hid (On.below HB.out o5 HB.out.size g0)
            clear k5 k6 o5 HK HB
            have hX : x ||| K < 4294967296 := or32 hx hq2
            have hN : n ||| (K &&& E) < 4294967296 := or32 hn (and32 hq2)
            generalize x ||| K = X at *
            generalize n ||| (K &&& E) = Y at *
            go_wp2_with fail
            refine (gp_load20 _ _ _ _ _ _ _ _ _ K6.out (by omega) (by omega)).mono ?_
            rintro r w6 ⟨rfl, rfl⟩
            go_wp2_with fail
            refine (gp_load0 _ _ _ _ _ _ _ _ _ K6.out (by rw [pins_plain hX]; omega) (by rw [pins_plain hX]; omega)).mono ?_
            rw [pins_plain hX]
            rintro r w7 ⟨rfl, k7, o7⟩
            have K7 := Lib.hid k7
            have B7 := Lib.hid (On.below B6.out o7 B6.out.size g0)
            clear k7 o7 K6 B6
            go_wp2_with fail
            go_roundw
            case rel => exact ⟨k + 1, X, Y, rfl, rfl, by go_num, by omega, hX, hN, K7, B7⟩
            case measure => simp [intOf]; omega
          · have f1 := HQ.out
            have tb : (Go.bits .and .u32 (x : Int) (K : Int) == 0) = false := by rw [eand.out]; simpa using fun h => hxk (by omega)
            have e1 := eor.out
            go_wp2_with fail
            refine (gp_pin_high _ (x : Int) 0 0 E 0 (n : Int) 0 (b % 32) _ HK.out (by omega) (by omega)).mono ?_
            rintro r w5 ⟨rfl, k5, o5⟩
            have k6 : Bk w5 g 27 (gc ((x ||| K : Nat) : Int) 0 0 E 0 ((n : Nat) : Int) 0) := by
              have h5 := k5
              rw [HQ.out, ehi.out, pins_plain hx, pins_plain (or32 hx hq2), noted_old hx hn hE hq2 _ HKV.out.symm hxk] at h5
              exact h5
            have K6 := Lib.hid k6
            have B6 := Lib.hid (On.below HB.out o5 HB.out.size g0)
            clear k5 k6 o5 HK HB
            have hX : x ||| K < 4294967296 := or32 hx hq2
            have hN : n < 4294967296 := hn
            generalize x ||| K = X at *
            generalize n = Y at *
            go_wp2_with fail
            refine (gp_load20 _ _ _ _ _ _ _ _ _ K6.out (by omega) (by omega)).mono ?_
            rintro r w6 ⟨rfl, rfl⟩
            go_wp2_with fail
            refine (gp_load0 _ _ _ _ _ _ _ _ _ K6.out (by rw [pins_plain hX]; omega) (by rw [pins_plain hX]; omega)).mono ?_
            rw [pins_plain hX]
            rintro r w7 ⟨rfl, k7, o7⟩
            have K7 := Lib.hid k7
            have B7 := Lib.hid (On.below B6.out o7 B6.out.size g0)
            clear k7 o7 K6 B6
            go_wp2_with fail
            go_roundw
            case rel => exact ⟨k + 1, X, Y, rfl, rfl, by go_num, by omega, hX, hN, K7, B7⟩
            case measure => simp [intOf]; omega
        · have d128 : decide (128 ≤ b) = false := decide_eq_false h128
          have f1 := HQ.out
          have e1 := ell.out
          go_wp2_with fail
          refine (gp_pin_low _ (x : Int) 0 0 E 0 (n : Int) 0 (b % 32) _ HK.out (by omega) (by omega)).mono ?_
          rintro r w5 ⟨rfl, k5, o5⟩
          have k6 : Bk w5 g 27 (gc ((x &&& (4294967295 - K) : Nat) : Int) 0 0 E 0 ((n : Nat) : Int) 0) := by
            have h5 := k5
            rw [HQ.out, elo.out, pins_plain hx, pins_plain (and32 hx), noted_low hx hn hE hq2] at h5
            exact h5
          have K6 := Lib.hid k6
          have B6 := Lib.hid (On.below HB.out o5 HB.out.size g0)
          clear k5 k6 o5 HK HB
          have hX : x &&& (4294967295 - K) < 4294967296 := and32 hx
          have hN : n < 4294967296 := hn
          generalize x &&& (4294967295 - K) = X at *
          generalize n = Y at *
          go_wp2_with fail
          refine (gp_load20 _ _ _ _ _ _ _ _ _ K6.out (by omega) (by omega)).mono ?_
          rintro r w6 ⟨rfl, rfl⟩
          go_wp2_with fail
          refine (gp_load0 _ _ _ _ _ _ _ _ _ K6.out (by rw [pins_plain hX]; omega) (by rw [pins_plain hX]; omega)).mono ?_
          rw [pins_plain hX]
          rintro r w7 ⟨rfl, k7, o7⟩
          have K7 := Lib.hid k7
          have B7 := Lib.hid (On.below B6.out o7 B6.out.size g0)
          clear k7 o7 K6 B6
          go_wp2_with fail
          go_roundw
          case rel => exact ⟨k + 1, X, Y, rfl, rfl, by go_num, by omega, hX, hN, K7, B7⟩
          case measure => simp [intOf]; omega
      · go_wp2_with fail
        refine (gp_store20 _ _ _ _ _ _ _ _ _ _ HK.out (by omega) (by omega)).mono ?_
        rintro r w5 ⟨rfl, k5, o5⟩
        have k6 : Bk w5 g 27 (gc (x : Int) 0 0 E 0 ((0 : Nat) : Int) 0) := by
          have h5 := k5
          rw [strike_self hn, pins_plain hx, noted_same hx (by decide) hE] at h5
          exact h5
        have K6 := Lib.hid k6
        have B6 := Lib.hid (On.below HB.out o5 HB.out.size g0)
        clear k5 k6 o5 HK HB
        go_wp2_with fail
        refine (gp_load20 _ _ _ _ _ _ _ _ _ K6.out (by decide) (by decide)).mono ?_
        rintro r w6 ⟨rfl, rfl⟩
        go_wp2_with fail
        go_ret
        exact ⟨rfl, B6.out⟩
end Go.Proofs.Ytlgjdakpdhemiaa
