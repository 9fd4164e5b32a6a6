/- The walk of the law RtcPlays: called with any script it returns true, and nothing that lay in memory is another. No conditions beyond the kinds. -/
import Derived.Test.YtdljlhjjonkfeaaRtc
namespace Go.Proofs.Ytdljlhjjonkfeaa
open Go.RowKit
theorem rtc_awake_any (w : World) : Calls Try.prog 13 #[] w fun e w' => e = .returned (.bool true) ∧ Below w.heap.size w w' := by
  go_enter Try.func13, Try.ntmps13
  go_wp2
  go_ret
  exact ⟨rfl, by repeat (first | exact Below.refl _ _ | apply Below.drew | apply bw_alloc)⟩
set_option maxHeartbeats 400000 in
theorem wrong_any (k o wd x n : Int) (y : Bool) (w : World) (h0 : 0 ≤ o) :
    Calls Try.prog 15 #[.agg #[.int .u8 k, .int .u64 o, .int .i64 wd, .int .u64 x, .int .i64 n, .bool y]] w fun e w' => e = .returned (.int .i64 (askV o wd 16)) ∧ Below w.heap.size w w' := by
  unfold askV
  by_cases h1 : 16 ≤ o
  · rw [if_pos h1]
    go_enter Try.func15, Try.ntmps15
    go_wp2
    go_ret
    exact ⟨rfl, by repeat (first | exact Below.refl _ _ | apply Below.drew | apply bw_alloc)⟩
  · rw [if_neg h1]
    have h1' : decide (16 ≤ o) = false := decide_eq_false h1
    by_cases h2 : wd = 4
    · have h2' : (wd != 4) = false := by simp [h2]
      by_cases h3 : o % 4 = 0
      · rw [if_neg (by simp [h2, h3])]
        have h3' : (o % 4 != 0) = false := by simp [h3]
        clear h2 h3
        go_enter Try.func15, Try.ntmps15
        go_wp2
        go_ret
        exact ⟨rfl, by repeat (first | exact Below.refl _ _ | apply Below.drew | apply bw_alloc)⟩
      · rw [if_pos (by simp [h3])]
        have h3' : (o % 4 != 0) = true := by simp [h3]
        clear h2 h3
        go_enter Try.func15, Try.ntmps15
        go_wp2
        go_ret
        exact ⟨rfl, by repeat (first | exact Below.refl _ _ | apply Below.drew | apply bw_alloc)⟩
    · rw [if_pos (by simp [h2])]
      have h2' : (wd != 4) = true := by simp [h2]
      go_enter Try.func15, Try.ntmps15
      go_wp2
      go_ret
      exact ⟨rfl, by repeat (first | exact Below.refl _ _ | apply Below.drew | apply bw_alloc)⟩
theorem b2i_eq (b : Bool) : (b2i b == 1) = b := by cases b <;> rfl
theorem b2i_bd (b : Bool) : 0 ≤ b2i b ∧ b2i b < 4294967296 := by cases b <;> decide
theorem mask_low (x : Int) (h0 : 0 ≤ x) (h1 : x ≤ 18446744073709551615) : Go.bits .and .u64 x 4294967295 = x % 4294967296 := by
  obtain ⟨n, rfl⟩ := Int.eq_ofNat_of_zero_le h0
  have := bits_and_u64_nat n 4294967295 (by omega) (by decide)
  rw [show ((4294967295 : Nat) : Int) = 4294967295 from rfl] at this
  rw [this, show (4294967295 : Nat) = 2 ^ 32 - 1 from rfl, Nat.and_two_pow_sub_one_eq_mod]
  omega
theorem put_both (t a q o X : Int) (may : Bool) (ho : o = 0 ∨ o = 4 ∨ o = 8 ∨ o = 12) (ht : 0 ≤ t ∧ t < 4294967296) (ha : 0 ≤ a ∧ a < 4294967296) (hq : q = 0 ∨ q = 1) (hX : 0 ≤ X ∧ X < 4294967296) :
    ∃ t' a' q' may', rtcPut t a q (b2i may) o X = rk t' a' q' (b2i may') ∧ dvPut t a q may o X = dv t' a' q' may' ∧ (0 ≤ t' ∧ t' < 4294967296) ∧ (0 ≤ a' ∧ a' < 4294967296) ∧ (q' = 0 ∨ q' = 1) := by
  rcases ho with rfl | rfl | rfl | rfl
  · exact ⟨X, a, q, may, rfl, rfl, hX, ha, hq⟩
  · exact ⟨t, X, q, may, rfl, rfl, ht, hX, hq⟩
  · exact ⟨t, a, if X % 2 = 1 then 0 else q, may, rfl, rfl, ht, ha, by split <;> simp_all⟩
  · refine ⟨t, a, q, X % 2 == 1, ?_, rfl, ht, ha, hq⟩
    have e : b2i (X % 2 == 1) = X % 2 := by
      rcases (by omega : X % 2 = 0 ∨ X % 2 = 1) with e | e <;> rw [e] <;> rfl
    rw [e]
    rfl
set_option maxRecDepth 100000 in
set_option maxHeartbeats 1600000 in
theorem plays_any (A : Option Addr) (n c : Nat) (hm : n ≤ maxLen) (w : World) (hs : Script w A n) :
    Calls Try.prog 5 #[.slice A n c] w fun e w' => e = .returned (.bool true) ∧ Below w.heap.size w w' := by
  have HS := Lib.hid hs
  clear hs
  unfold maxLen at hm
  by_cases hl : 200 < n
  · have hl' : decide (200 < (n : Int)) = true := decide_eq_true (by omega)
    go_enter Try.func5, Try.ntmps5
    go_wp2_with (go_at_call 13; refine (rtc_awake_any _).mono ?_; rintro e w1 ⟨rfl, hb1⟩)
    go_ret
    exact ⟨rfl, bw_trans (by assumption) hb1⟩
  · have hl' : decide (200 < (n : Int)) = false := decide_eq_false (by omega)
    go_enter Try.func5, Try.ntmps5
    go_wp2_with (go_at_call 13; refine (rtc_awake_any _).mono ?_; rintro e w1 ⟨rfl, hb1⟩)
    have k1 : Hid (Bk ((w1.alloc (.cells #[.int .u32 0, .int .u32 0, .int .u32 0, .int .u32 0] 40)).alloc (.cells #[.int .i64 6, .slice none 0 0, .slice none 0 0, .slice none 0 0, .bool false, .bool false, .int .u32 0, .int .u32 0, .int .u32 0, .int .u32 0, .int .u32 0, .int .u32 0, .int .u32 0, .int .u32 0] 45)) w1.heap.size 40 (rk 0 0 0 0)) := Lib.hid ((Bk.new _ _ _).alloc _)
    have k2 : Hid (Bk ((w1.alloc (.cells #[.int .u32 0, .int .u32 0, .int .u32 0, .int .u32 0] 40)).alloc (.cells #[.int .i64 6, .slice none 0 0, .slice none 0 0, .slice none 0 0, .bool false, .bool false, .int .u32 0, .int .u32 0, .int .u32 0, .int .u32 0, .int .u32 0, .int .u32 0, .int .u32 0, .int .u32 0] 45)) (w1.heap.size + 1) 45 (dv 0 0 0 false)) := Lib.hid (by have := Bk.new (w1.alloc (.cells #[.int .u32 0, .int .u32 0, .int .u32 0, .int .u32 0] 40)) 45 (dv 0 0 0 false); rw [World.size_alloc] at this; exact this)
    have k3 := Lib.hid (bw_alloc (bw_alloc hb1 (.cells #[.int .u32 0, .int .u32 0, .int .u32 0, .int .u32 0] 40)) (.cells #[.int .i64 6, .slice none 0 0, .slice none 0 0, .slice none 0 0, .bool false, .bool false, .int .u32 0, .int .u32 0, .int .u32 0, .int .u32 0, .int .u32 0, .int .u32 0, .int .u32 0, .int .u32 0] 45))
    have k4 := hb1.size
    clear hb1
    generalize (w1.alloc (.cells #[.int .u32 0, .int .u32 0, .int .u32 0, .int .u32 0] 40)).alloc (.cells #[.int .i64 6, .slice none 0 0, .slice none 0 0, .slice none 0 0, .bool false, .bool false, .int .u32 0, .int .u32 0, .int .u32 0, .int .u32 0, .int .u32 0, .int .u32 0, .int .u32 0, .int .u32 0] 45) = w2 at *
    generalize w1.heap.size = g at *
    go_loopw [25] (fun i wr => ∃ (k : Nat) (t a q : Int) (may : Bool), i = .int .i64 k ∧ k ≤ n ∧ 0 ≤ t ∧ t < 4294967296 ∧ 0 ≤ a ∧ a < 4294967296 ∧ (q = 0 ∨ q = 1) ∧ Hid (Bk wr g 40 (rk t a q (b2i may))) ∧ Hid (Bk wr (g + 1) 45 (dv t a q may)) ∧ Hid (Below w.heap.size w wr) ∧ w.heap.size ≤ g) (fun i _ => n - (intOf i).toNat)
    case atStart => exact ⟨0, 0, 0, 0, false, rfl, by omega, by omega, by omega, by omega, by omega, .inl rfl, k1, k2, k3, k4⟩
    case round =>
      obtain ⟨k, t, a, q, may, rfl, hk, ht0, ht1, ha0, ha1, hq, HK, HD, HB, hg⟩ := hrel
      clear k1 k2 k3 k4
      by_cases hlt : k < n
      · obtain ⟨ad, kd, o, wd, x, m, y, rfl, hop, c0, c1, c2, c3, c4, c5⟩ := (HS.out.stays ((HB.out))) k hlt
        obtain ⟨_, bk, bo, bwd, bx, bm⟩ := hop
        have hne : g ≠ g + 1 := by omega
        have hgw : g + 1 < wr.heap.size := HD.out.lt
        have KO := Bk.new wr 46 #[.int .u8 kd, .int .u64 o, .int .i64 wd, .int .u64 x, .int .i64 m, .bool y]
        have K0 := Lib.hid (HK.out.alloc (.cells #[.int .u8 kd, .int .u64 o, .int .i64 wd, .int .u64 x, .int .i64 m, .bool y] 46))
        have D0 := Lib.hid (HD.out.alloc (.cells #[.int .u8 kd, .int .u64 o, .int .i64 wd, .int .u64 x, .int .i64 m, .bool y] 46))
        have B0 := Lib.hid (bw_alloc HB.out (.cells #[.int .u8 kd, .int .u64 o, .int .i64 wd, .int .u64 x, .int .i64 m, .bool y] 46))
        have KO' := Lib.hid KO
        clear KO
        have hml := mask_low x bx.1 bx.2
        have HML := Lib.hid hml
        clear hml
        by_cases hE : askV o wd 16 = 0
        · have HE := Lib.hid hE
          have hO := (ask_four bo.1 hE).2
          have HO := Lib.hid hO
          clear hE hO
          by_cases hk4 : kd < 4
          · go_wp2_with fail
            refine (rtc_load_ok _ _ _ _ _ _ _ _ bo.1 HE.out K0.out ⟨ht0, ht1⟩ ⟨ha0, ha1⟩ (by omega) (b2i_bd may)).mono ?_
            rintro e w3 ⟨rfl, rfl⟩
            go_wp2_with fail
            refine (wrong_any _ _ _ _ _ _ _ bo.1).mono ?_
            rw [HE.out]
            rintro e w3 ⟨rfl, b3⟩
            have K3 := Lib.hid (K0.out.below b3)
            have D3 := Lib.hid (D0.out.below b3)
            have B3 := Lib.hid (bw_trans B0.out b3)
            have O3 := KO'.out.below b3
            have o1 := O3.cell 1
            simp at o1
            clear O3 b3 K0 D0 B0
            go_wp2_with fail
            refine (dev_load _ _ _ _ _ _ _ HO.out D3.out ⟨ht0, ht1⟩ ⟨ha0, ha1⟩ (by omega)).mono ?_
            rintro e w4 ⟨rfl, d4, on4⟩
            have K5 := Lib.hid (K3.out.on on4 hne)
            have D5 := Lib.hid d4
            have B5 := Lib.hid (On.below B3.out on4 B3.out.size (by omega))
            have hq5 := hq
            clear d4 on4 o1 K3 D3 B3 HK HD HB
            go_wp2_with fail
            refine (rtc_high _ _ _ _ _ _ K5.out).mono ?_
            rw [b2i_eq]
            rintro e w8 ⟨rfl, rfl⟩
            go_wp2_with fail
            refine (dev_high _ _ _ _ _ _ D5.out).mono ?_
            rintro e w8 ⟨rfl, rfl⟩
            go_wp2_with fail
            go_roundw
            case rel => exact ⟨k + 1, t, a, q, may, by go_num, by omega, by omega, by omega, by omega, by omega, hq5, K5, D5, B5, hg⟩
            case measure => simp [intOf]; omega
          · by_cases hk8 : kd < 8
            · go_wp2_with fail
              refine (wrong_any _ _ _ _ _ _ _ bo.1).mono ?_
              rw [HE.out]
              rintro e w3 ⟨rfl, b3⟩
              have K3 := Lib.hid (K0.out.below b3)
              have D3 := Lib.hid (D0.out.below b3)
              have B3 := Lib.hid (bw_trans B0.out b3)
              have O3 := KO'.out.below b3
              have o1 := O3.cell 1
              have o2 := O3.cell 2
              have o3 := O3.cell 3
              simp at o1 o2 o3
              have OO := Lib.hid O3
              clear O3 b3 K0 D0 B0
              go_wp2_with fail
              refine (rtc_store_ok _ _ _ _ _ _ _ _ _ bo.1 HE.out K3.out hq bx.1).mono ?_
              rintro e w4 ⟨rfl, k4, on4⟩
              have hgo : wr.heap.size ≠ g := by omega
              have O4 := OO.out.on on4 hgo
              have p1 := O4.cell 1
              have p3 := O4.cell 3
              simp at p1 p3
              have D4 := Lib.hid (D3.out.on on4 (fun h => hne h.symm))
              have B4 := Lib.hid (On.below B3.out on4 B3.out.size hg)
              have K4 := Lib.hid k4
              clear O4 on4 k4 o1 o2 o3 K3 D3 B3 HK HD HB OO
              have hml := HML.out
              go_wp2_with fail
              clear hml
              refine (dev_store _ _ _ _ _ _ _ _ HO.out D4.out (by omega)).mono ?_
              rintro e w5 ⟨rfl, d5, on5⟩
              obtain ⟨t', a', q', may', e1, e2, ht', ha', hq5⟩ := put_both t a q o (x % 4294967296) may HO.out ⟨ht0, ht1⟩ ⟨ha0, ha1⟩ hq (by omega)
              have K5 := Lib.hid (K4.out.on on5 hne)
              rw [e1] at K5
              have D5 := Lib.hid d5
              rw [e2] at D5
              have B5 := Lib.hid (On.below B4.out on5 B4.out.size (by omega))
              clear e1 e2 d5 on5 K4 D4 B4 p1 p3
              go_wp2_with fail
              refine (rtc_high _ _ _ _ _ _ K5.out).mono ?_
              rw [b2i_eq]
              rintro e w8 ⟨rfl, rfl⟩
              go_wp2_with fail
              refine (dev_high _ _ _ _ _ _ D5.out).mono ?_
              rintro e w8 ⟨rfl, rfl⟩
              go_wp2_with fail
              go_roundw
              case rel => exact ⟨k + 1, t', a', q', may', by go_num, by omega, by omega, by omega, by omega, by omega, hq5, K5, D5, B5, hg⟩
              case measure => simp [intOf]; omega
            · go_wp2_with fail
              refine (rtc_tick _ _ _ _ _ _ K0.out ⟨ht0, ht1⟩).mono ?_
              rintro e w4 ⟨rfl, k4, on4⟩
              have D4 := Lib.hid (D0.out.on on4 (fun h => hne h.symm))
              have B4 := Lib.hid (On.below B0.out on4 B0.out.size hg)
              have K4 := Lib.hid k4
              clear on4 k4 K0 D0 B0 HK HD HB
              go_wp2_with fail
              refine (dev_tick _ _ _ _ _ _ D4.out ⟨ht0, ht1⟩).mono ?_
              rintro e w5 ⟨rfl, d5, on5⟩
              have K5 := Lib.hid (K4.out.on on5 hne)
              have D5 := Lib.hid d5
              unfold rtcTicked at K5
              unfold dvTicked at D5
              have B5 := Lib.hid (On.below B4.out on5 B4.out.size (by omega))
              have hq5 : (if (t + 1) % 4294967296 = a then 1 else q) = 0 ∨ (if (t + 1) % 4294967296 = a then 1 else q) = 1 := by split <;> simp_all
              obtain ⟨q', hq'⟩ : ∃ q', (if (t + 1) % 4294967296 = a then 1 else q) = q' := ⟨_, rfl⟩
              rw [hq'] at K5 D5 hq5
              clear d5 on5 K4 D4 B4 hq'
              have HQ5 := Lib.hid hq5
              clear hq5
              go_wp2_with fail
              refine (rtc_high _ _ _ _ _ _ K5.out).mono ?_
              rw [b2i_eq]
              rintro e w8 ⟨rfl, rfl⟩
              go_wp2_with fail
              refine (dev_high _ _ _ _ _ _ D5.out).mono ?_
              rintro e w8 ⟨rfl, rfl⟩
              go_wp2_with fail
              go_roundw
              case rel => exact ⟨k + 1, (t + 1) % 4294967296, a, q', may, by go_num, by omega, by omega, by omega, by omega, by omega, HQ5.out, K5, D5, B5, hg⟩
              case measure => simp [intOf]; omega
        · have hp := ask_wrong hE
          have hn : (askV o wd 16 != 0) = true := by simpa using hE
          have hz : (askV o wd 16 == 0) = false := by simpa using hE
          have HLB := fun W => Lib.hid (rtc_load_bad g o wd W bo.1 hE)
          have HSB := fun W => Lib.hid (rtc_store_bad g o wd x W bo.1 hE)
          have HWR := fun W => Lib.hid (wrong_any kd o wd x m y W bo.1)
          clear hE
          generalize askV o wd 16 = E at *
          by_cases hk4 : kd < 4
          · go_wp2_with fail
            refine (HLB _).out.mono ?_
            rintro e w3 ⟨rfl, rfl⟩
            go_wp2_with fail
            refine (HWR _).out.mono ?_
            rintro e w3 ⟨rfl, b3⟩
            have K5 := Lib.hid (K0.out.below b3)
            have D5 := Lib.hid (D0.out.below b3)
            have B5 := Lib.hid (bw_trans B0.out b3)
            have hq5 := hq
            clear b3 K0 D0 B0 HK HD HB
            go_wp2_with fail
            refine (rtc_high _ _ _ _ _ _ K5.out).mono ?_
            rw [b2i_eq]
            rintro e w8 ⟨rfl, rfl⟩
            go_wp2_with fail
            refine (dev_high _ _ _ _ _ _ D5.out).mono ?_
            rintro e w8 ⟨rfl, rfl⟩
            go_wp2_with fail
            go_roundw
            case rel => exact ⟨k + 1, t, a, q, may, by go_num, by omega, by omega, by omega, by omega, by omega, hq5, K5, D5, B5, hg⟩
            case measure => simp [intOf]; omega
          · by_cases hk8 : kd < 8
            · go_wp2_with fail
              refine (HWR _).out.mono ?_
              rintro e w3 ⟨rfl, b3⟩
              have K5 := Lib.hid (K0.out.below b3)
              have D5 := Lib.hid (D0.out.below b3)
              have B5 := Lib.hid (bw_trans B0.out b3)
              have O3 := KO'.out.below b3
              have o1 := O3.cell 1
              have o2 := O3.cell 2
              have o3 := O3.cell 3
              simp at o1 o2 o3
              have hq5 := hq
              clear O3 b3 K0 D0 B0 HK HD HB
              go_wp2_with fail
              refine (HSB _).out.mono ?_
              rintro e w4 ⟨rfl, rfl⟩
              go_wp2_with fail
              refine (rtc_high _ _ _ _ _ _ K5.out).mono ?_
              rw [b2i_eq]
              rintro e w8 ⟨rfl, rfl⟩
              go_wp2_with fail
              refine (dev_high _ _ _ _ _ _ D5.out).mono ?_
              rintro e w8 ⟨rfl, rfl⟩
              go_wp2_with fail
              go_roundw
              case rel => exact ⟨k + 1, t, a, q, may, by go_num, by omega, by omega, by omega, by omega, by omega, hq5, K5, D5, B5, hg⟩
              case measure => simp [intOf]; omega
            · go_wp2_with fail
              refine (rtc_tick _ _ _ _ _ _ K0.out ⟨ht0, ht1⟩).mono ?_
              rintro e w4 ⟨rfl, k4, on4⟩
              have D4 := Lib.hid (D0.out.on on4 (fun h => hne h.symm))
              have B4 := Lib.hid (On.below B0.out on4 B0.out.size hg)
              have K4 := Lib.hid k4
              clear on4 k4 K0 D0 B0 HK HD HB
              go_wp2_with fail
              refine (dev_tick _ _ _ _ _ _ D4.out ⟨ht0, ht1⟩).mono ?_
              rintro e w5 ⟨rfl, d5, on5⟩
              have K5 := Lib.hid (K4.out.on on5 hne)
              have D5 := Lib.hid d5
              unfold rtcTicked at K5
              unfold dvTicked at D5
              have B5 := Lib.hid (On.below B4.out on5 B4.out.size (by omega))
              have hq5 : (if (t + 1) % 4294967296 = a then 1 else q) = 0 ∨ (if (t + 1) % 4294967296 = a then 1 else q) = 1 := by split <;> simp_all
              obtain ⟨q', hq'⟩ : ∃ q', (if (t + 1) % 4294967296 = a then 1 else q) = q' := ⟨_, rfl⟩
              rw [hq'] at K5 D5 hq5
              clear d5 on5 K4 D4 B4 hq'
              have HQ5 := Lib.hid hq5
              clear hq5
              go_wp2_with fail
              refine (rtc_high _ _ _ _ _ _ K5.out).mono ?_
              rw [b2i_eq]
              rintro e w8 ⟨rfl, rfl⟩
              go_wp2_with fail
              refine (dev_high _ _ _ _ _ _ D5.out).mono ?_
              rintro e w8 ⟨rfl, rfl⟩
              go_wp2_with fail
              go_roundw
              case rel => exact ⟨k + 1, (t + 1) % 4294967296, a, q', may, by go_num, by omega, by omega, by omega, by omega, by omega, HQ5.out, K5, D5, B5, hg⟩
              case measure => simp [intOf]; omega
      · go_wp2_with fail
        go_ret
        exact ⟨rfl, HB.out⟩
open Go.Deep Go.ChangeShapes Go.WideShapes Go.Joins
theorem open_script37 {H : Type} {enc : TypeId × Value → H} {w : World} {base b0 : Nat} {spare : Nat → Bool} {held : Bool} {r : Reach} {v : Value} {d : DataW H} {p : List MemPlace}
    (hv : Value.okWide Try.prog w r b0 37 v) (h : DataW.Trod enc Try.prog w base spare held 37 v d p) :
    ∃ A n c, v = .slice A n c ∧ n ≤ maxLen ∧ Script w A n :=
  open_script Try.underlying37 (by kernel_rfl) (fun _ _ _ ht => op_cells (u8 := 5) (u64 := 30) (i64 := 3) (bo := 4) Try.underlying46 (by kernel_rfl) (by kernel_rfl) rfl rfl rfl rfl rfl rfl Try.underlying5 Try.underlying30 Try.underlying3 Try.underlying4 ht) hv h
end Go.Proofs.Ytdljlhjjonkfeaa
