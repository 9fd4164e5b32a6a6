/- The walk of the law UartQueue: called with any bytes it returns true, and nothing that lay in memory is another. No conditions beyond the kinds. -/
import Derived.Test.YtlgjdakpdhemiaaUaw
namespace Go.Proofs.Ytlgjdakpdhemiaa
open Go.RowKit
/-- What the queue holds behind k bytes. -/
def qin (z : List Int) (k : Nat) : List Int := (z.take k).take 16
theorem qin_len (z : List Int) (k : Nat) (hk : k ≤ z.length) : (qin z k).length = min 16 k := by simp [qin]; omega
theorem qin_room (z : List Int) (k : Nat) (hk : k < z.length) (h : k < 16) : qin z k ++ [z.getD k 0] = qin z (k + 1) := by
  have e1 : qin z k = z.take k := by unfold qin; rw [List.take_take]; congr 1; omega
  have e2 : qin z (k + 1) = z.take (k + 1) := by unfold qin; rw [List.take_take]; congr 1; omega
  rw [e1, e2, List.take_add_one, List.getD_eq_getElem?_getD, List.getElem?_eq_getElem hk]
  rfl
theorem qin_full (z : List Int) (k : Nat) (h : 16 ≤ k) : qin z k = qin z (k + 1) := by
  unfold qin
  rw [List.take_take, List.take_take, Nat.min_eq_left h, Nat.min_eq_left (by omega)]
theorem qin_drop (z : List Int) (n k : Nat) (hn : n ≤ z.length) (hk : k < min 16 n) : (qin z n).drop k = z.getD k 0 :: (qin z n).drop (k + 1) := by
  have hl := qin_len z n hn
  rw [List.drop_eq_getElem_cons (by omega)]
  congr 1
  simp only [qin, List.getElem_take]
  rw [List.getD_eq_getElem?_getD, List.getElem?_eq_getElem (by omega)]
  rfl
set_option maxRecDepth 100000 in
set_option maxHeartbeats 1600000 in
theorem queue_any (a : Option Addr) (len cap : Nat) (z : List Int) (w : World) (hz : IsRow .u8 w a len cap z) :
    Calls Try.prog 4 #[.slice a len cap] w fun e w' => e = .returned (.bool true) ∧ Below w.heap.size w w' := by
  obtain ⟨hb1, hb2, hb3⟩ := hz.bound
  unfold maxLen at hb2
  have HZ := Lib.hid hz
  clear hz
  by_cases hl : 100 < len
  · have hl' : decide (100 < (len : Int)) = true := decide_eq_true (by omega)
    go_enter Try.func4, Try.ntmps4
    go_wp2_with (go_at_call 12; refine (ua_awake _).mono ?_; rintro e w1 ⟨rfl, hb1⟩)
    go_ret
    exact ⟨rfl, bw_trans (by assumption) hb1⟩
  · have hl' : decide (100 < (len : Int)) = false := decide_eq_false (by omega)
    go_enter Try.func4, Try.ntmps4
    go_wp2_with (go_at_call 12; refine (ua_awake _).mono ?_; rintro e w1 ⟨rfl, bb1⟩)
    have u0 := Lib.hid (ua_new_at w.heap.size w1 bb1.size)
    have b0 := Lib.hid (bw_alloc bb1 (.cells #[.slice none 0 0, .slice none 0 0, .bool false, .bool false] 38))
    have g0 := bb1.size
    clear bb1
    generalize w1.alloc (.cells #[.slice none 0 0, .slice none 0 0, .bool false, .bool false] 38) = w2 at *
    generalize w1.heap.size = g at *
    obtain ⟨S0, hS0⟩ : ∃ S0 : Nat → Prop, S0 = (fun k => k = g) := ⟨_, rfl⟩
    rw [← hS0] at u0
    clear hS0
    go_loopw [26] (fun i wr => ∃ (k : Nat) (S : Nat → Prop), i = .int .i64 k ∧ k ≤ len ∧ Hid (Ua w.heap.size g S wr (qin z k) [] (decide (16 < k)) false) ∧ Hid (Below w.heap.size w wr)) (fun i _ => len - (intOf i).toNat)
    case atStart => exact ⟨0, S0, rfl, by omega, u0, b0⟩
    case round =>
      obtain ⟨k, S, rfl, hk, HU, HB⟩ := hrel
      clear u0 b0
      by_cases hlt : k < len
      · obtain ⟨ad, rfl, hc, hwf⟩ := (HZ.out.stays HB.out).at_ hlt
        have hbd := bounds_u8 hwf
        clear hwf
        obtain ⟨b, hbv⟩ : ∃ b, z.getD k 0 = b := ⟨_, rfl⟩
        rw [hbv] at hc hbd
        have HV := Lib.hid hbv
        clear hbv
        obtain ⟨hbd0, hbd1⟩ := hbd
        by_cases h16 : k < 16
        · have h16' : decide ((k : Int) < 16) = true := decide_eq_true (by omega)
          have hd : decide (16 < k) = false := decide_eq_false (by omega)
          have hd' : decide (16 < k + 1) = false := decide_eq_false (by omega)
          rw [hd] at HU
          have HD := Lib.hid hd'
          clear hd hd'
          go_wp2_with fail
          refine (ua_come_room _ _ _ _ _ _ _ _ _ HU.out (by rw [qin_len z k (by omega)]; omega)).mono ?_
          rintro e w3 ⟨rfl, u3⟩
          have B3 := Lib.hid (UaTo.below u3 HU.out HB.out (Nat.le_refl _))
          obtain ⟨S3, u3, _, _⟩ := u3
          rw [← HV.out, qin_room z k (by omega) h16] at u3
          have U3 := Lib.hid u3
          clear u3 HU HB
          go_wp2_with fail
          go_roundw
          case rel => exact ⟨k + 1, S3, by go_num, by omega, by rw [HD.out]; exact U3, B3⟩
          case measure => simp [intOf]; omega
        · have h16' : decide ((k : Int) < 16) = false := decide_eq_false (by omega)
          have hd' : decide (16 < k + 1) = true := decide_eq_true (by omega)
          have HD := Lib.hid hd'
          clear hd'
          go_wp2_with fail
          refine (ua_come_full _ _ _ _ _ _ _ _ _ HU.out (by rw [qin_len z k (by omega)]; omega)).mono ?_
          rintro e w3 ⟨rfl, u3⟩
          have B3 := Lib.hid (UaTo.below u3 HU.out HB.out (Nat.le_refl _))
          obtain ⟨S3, u3, _, _⟩ := u3
          rw [qin_full z k (by omega)] at u3
          have U3 := Lib.hid u3
          clear u3 HU HB
          go_wp2_with fail
          go_roundw
          case rel => exact ⟨k + 1, S3, by go_num, by omega, by rw [HD.out]; exact U3, B3⟩
          case measure => simp [intOf]; omega
      · obtain rfl : k = len := by omega
        rcases (by omega : k = 0 ∨ (1 ≤ k ∧ k ≤ 16) ∨ 17 ≤ k) with rfl | ⟨hk1, hk16⟩ | hk17
        · have HQ : Hid ((qin z 0).length = 0) := Lib.hid (by rw [qin_len z 0 (by omega)]; omega)
          have HL : Hid (decide (16 < 0) = false) := Lib.hid (by decide)
          have HE : Hid (b2n (decide (0 < 0)) + 2 * b2n false = 0) := Lib.hid (by
            first
            | rfl
            | (rw [show decide (0 < 0) = true from decide_eq_true (by omega)]; rfl))
          rw [HL.out] at HU
          go_wp2_with fail
          refine (ua_load12 _ _ _ _ _ _ _ _ HU.out (by rw [HQ.out]; omega)).mono ?_
          rw [HQ.out]
          rintro e w3 ⟨rfl, u3⟩
          have B3 := Lib.hid (UaTo.below u3 HU.out HB.out (Nat.le_refl _))
          obtain ⟨S3, u3, _, _⟩ := u3
          have U3 := Lib.hid u3
          clear u3 HU HB
          go_wp2_with fail
          refine (ua_load4 _ _ _ _ _ _ _ _ U3.out).mono ?_
          rw [HQ.out, HE.out]
          rintro e w4 ⟨rfl, u4⟩
          have B4 := Lib.hid (UaTo.below u4 U3.out B3.out (Nat.le_refl _))
          obtain ⟨S4, u4, _, _⟩ := u4
          have U4 := Lib.hid u4
          clear u4 U3 B3
          go_wp2_with fail
          go_loopw [77] (fun i wr => ∃ (j : Nat) (S : Nat → Prop), i = .int .i64 j ∧ j ≤ 0 ∧ Hid (Ua w.heap.size g S wr ((qin z 0).drop j) [] false false) ∧ Hid (Below w.heap.size w wr)) (fun i _ => 0 - (intOf i).toNat)
          case atStart => exact ⟨0, S4, rfl, by omega, U4, B4⟩
          case round =>
            obtain ⟨j, S, rfl, hj, HU, HB⟩ := hrel
            clear U4 B4
            obtain rfl : j = 0 := by omega
            have hnil : (qin z 0).drop 0 = [] := List.eq_nil_of_length_eq_zero (by rw [List.length_drop, HQ.out]; try omega)
            rw [hnil] at HU
            clear hnil
            go_wp2_with fail
            refine (ua_store4 _ _ _ _ _ _ _ _ 2 HU.out).mono ?_
            rintro e w5 ⟨rfl, u5⟩
            have B5 := Lib.hid (UaTo.below u5 HU.out HB.out (Nat.le_refl _))
            obtain ⟨S5, u5, _, _⟩ := u5
            have ef : (false && Go.bits .and .u64 2 2 == 0) = false := by decide +kernel
            rw [ef] at u5
            have U5 := Lib.hid u5
            clear u5 HU HB ef
            go_wp2_with fail
            refine (ua_load4 _ _ _ _ _ _ _ _ U5.out).mono ?_
            rintro e w6 ⟨rfl, u6⟩
            have B6 := Lib.hid (UaTo.below u6 U5.out B5.out (Nat.le_refl _))
            obtain ⟨S6, u6, _, _⟩ := u6
            have U6 := Lib.hid u6
            clear u6 U5 B5
            go_wp2_with fail
            refine (ua_load0_none _ _ _ _ _ _ _ U6.out).mono ?_
            rintro e w7 ⟨rfl, rfl⟩
            go_wp2_with fail
            go_ret
            exact ⟨rfl, B6.out⟩
        · have f1 : decide ((16 : Int) < (k : Int)) = false := decide_eq_false (by omega)
          have f2 : decide ((0 : Int) < (k : Int)) = true := decide_eq_true (by omega)
          have f4 : decide (16 < k) = false := decide_eq_false (by omega)
          have f5 : decide (0 < k) = true := decide_eq_true (by omega)
          have q1 : (Go.bits .and .u64 1 2 == 2) = false := by decide +kernel
          have q2 : (Go.bits .and .u64 1 1 == 1) = true := by decide +kernel
          have HQ : Hid ((qin z k).length = k) := Lib.hid (by rw [qin_len z k (by omega)]; omega)
          have HL : Hid (decide (16 < k) = false) := Lib.hid (by simp; try omega)
          have HE : Hid (b2n (decide (0 < k)) + 2 * b2n false = 1) := Lib.hid (by
            first
            | rfl
            | (rw [show decide (0 < k) = true from decide_eq_true (by omega)]; rfl))
          rw [HL.out] at HU
          go_wp2_with fail
          refine (ua_load12 _ _ _ _ _ _ _ _ HU.out (by rw [HQ.out]; omega)).mono ?_
          rw [HQ.out]
          rintro e w3 ⟨rfl, u3⟩
          have B3 := Lib.hid (UaTo.below u3 HU.out HB.out (Nat.le_refl _))
          obtain ⟨S3, u3, _, _⟩ := u3
          have U3 := Lib.hid u3
          clear u3 HU HB
          go_wp2_with fail
          refine (ua_load4 _ _ _ _ _ _ _ _ U3.out).mono ?_
          rw [HQ.out, HE.out]
          rintro e w4 ⟨rfl, u4⟩
          have B4 := Lib.hid (UaTo.below u4 U3.out B3.out (Nat.le_refl _))
          obtain ⟨S4, u4, _, _⟩ := u4
          have U4 := Lib.hid u4
          clear u4 U3 B3
          go_wp2_with fail
          go_loopw [77] (fun i wr => ∃ (j : Nat) (S : Nat → Prop), i = .int .i64 j ∧ j ≤ k ∧ Hid (Ua w.heap.size g S wr ((qin z k).drop j) [] false false) ∧ Hid (Below w.heap.size w wr)) (fun i _ => k - (intOf i).toNat)
          case atStart => exact ⟨0, S4, rfl, by omega, U4, B4⟩
          case round =>
            obtain ⟨j, S, rfl, hj, HU, HB⟩ := hrel
            clear U4 B4
            by_cases hjt : j < k
            · obtain ⟨ad, rfl, hc, hwf⟩ := (HZ.out.stays HB.out).at_ (show j < k by omega)
              have hbd := bounds_u8 hwf
              clear hwf
              have hdr := qin_drop z k j (by omega) (by omega)
              obtain ⟨b, hbv⟩ : ∃ b, z.getD j 0 = b := ⟨_, rfl⟩
              rw [hbv] at hc hbd hdr
              rw [hdr] at HU
              have hl4 : ((qin z k).drop (j + 1)).length < 1000 := by rw [List.length_drop, HQ.out]; omega
              have HL4 := Lib.hid hl4
              have HV := Lib.hid hbv
              clear hbv hdr hl4 hc
              obtain ⟨hbd0, hbd1⟩ := hbd
              go_wp2_with fail
              refine (ua_load0_some _ _ _ _ _ _ _ _ _ HU.out ⟨hbd0, hbd1⟩ HL4.out).mono ?_
              rintro e w5 ⟨rfl, u5⟩
              have B5 := Lib.hid (UaTo.below u5 HU.out HB.out (Nat.le_refl _))
              obtain ⟨S5, u5, _, _⟩ := u5
              have U5 := Lib.hid u5
              obtain ⟨ad2, e2, hc5, _⟩ := (HZ.out.stays B5.out).at_ (show j < k by omega)
              obtain rfl := Option.some.inj e2
              rw [HV.out] at hc5
              clear u5 HU e2
              go_wp2_with fail
              go_roundw
              case rel => exact ⟨j + 1, S5, by go_num, by omega, U5, B5⟩
              case measure => simp [intOf]; omega
            · obtain rfl : k = j := by omega
              have hnil : (qin z k).drop k = [] := List.eq_nil_of_length_eq_zero (by rw [List.length_drop, HQ.out]; try omega)
              rw [hnil] at HU
              clear hnil
              go_wp2_with fail
              refine (ua_store4 _ _ _ _ _ _ _ _ 2 HU.out).mono ?_
              rintro e w5 ⟨rfl, u5⟩
              have B5 := Lib.hid (UaTo.below u5 HU.out HB.out (Nat.le_refl _))
              obtain ⟨S5, u5, _, _⟩ := u5
              have ef : (false && Go.bits .and .u64 2 2 == 0) = false := by decide +kernel
              rw [ef] at u5
              have U5 := Lib.hid u5
              clear u5 HU HB ef
              go_wp2_with fail
              refine (ua_load4 _ _ _ _ _ _ _ _ U5.out).mono ?_
              rintro e w6 ⟨rfl, u6⟩
              have B6 := Lib.hid (UaTo.below u6 U5.out B5.out (Nat.le_refl _))
              obtain ⟨S6, u6, _, _⟩ := u6
              have U6 := Lib.hid u6
              clear u6 U5 B5
              go_wp2_with fail
              refine (ua_load0_none _ _ _ _ _ _ _ U6.out).mono ?_
              rintro e w7 ⟨rfl, rfl⟩
              go_wp2_with fail
              go_ret
              exact ⟨rfl, B6.out⟩
        · have f1 : decide ((16 : Int) < (k : Int)) = true := decide_eq_true (by omega)
          have f2 : decide ((0 : Int) < (k : Int)) = true := decide_eq_true (by omega)
          have f4 : decide (16 < k) = true := decide_eq_true (by omega)
          have f5 : decide (0 < k) = true := decide_eq_true (by omega)
          have q1 : (Go.bits .and .u64 3 2 == 2) = true := by decide +kernel
          have q2 : (Go.bits .and .u64 3 1 == 1) = true := by decide +kernel
          have HQ : Hid ((qin z k).length = 16) := Lib.hid (by rw [qin_len z k (by omega)]; omega)
          have HL : Hid (decide (16 < k) = true) := Lib.hid (by simp; try omega)
          have HE : Hid (b2n (decide (0 < 16)) + 2 * b2n true = 3) := Lib.hid (by
            first
            | rfl
            | (rw [show decide (0 < 16) = true from decide_eq_true (by omega)]; rfl))
          rw [HL.out] at HU
          go_wp2_with fail
          refine (ua_load12 _ _ _ _ _ _ _ _ HU.out (by rw [HQ.out]; omega)).mono ?_
          rw [HQ.out]
          rintro e w3 ⟨rfl, u3⟩
          have B3 := Lib.hid (UaTo.below u3 HU.out HB.out (Nat.le_refl _))
          obtain ⟨S3, u3, _, _⟩ := u3
          have U3 := Lib.hid u3
          clear u3 HU HB
          go_wp2_with fail
          refine (ua_load4 _ _ _ _ _ _ _ _ U3.out).mono ?_
          rw [HQ.out, HE.out]
          rintro e w4 ⟨rfl, u4⟩
          have B4 := Lib.hid (UaTo.below u4 U3.out B3.out (Nat.le_refl _))
          obtain ⟨S4, u4, _, _⟩ := u4
          have U4 := Lib.hid u4
          clear u4 U3 B3
          go_wp2_with fail
          go_loopw [77] (fun i wr => ∃ (j : Nat) (S : Nat → Prop), i = .int .i64 j ∧ j ≤ 16 ∧ Hid (Ua w.heap.size g S wr ((qin z k).drop j) [] true false) ∧ Hid (Below w.heap.size w wr)) (fun i _ => 16 - (intOf i).toNat)
          case atStart => exact ⟨0, S4, rfl, by omega, U4, B4⟩
          case round =>
            obtain ⟨j, S, rfl, hj, HU, HB⟩ := hrel
            clear U4 B4
            by_cases hjt : j < 16
            · obtain ⟨ad, rfl, hc, hwf⟩ := (HZ.out.stays HB.out).at_ (show j < k by omega)
              have hbd := bounds_u8 hwf
              clear hwf
              have hdr := qin_drop z k j (by omega) (by omega)
              obtain ⟨b, hbv⟩ : ∃ b, z.getD j 0 = b := ⟨_, rfl⟩
              rw [hbv] at hc hbd hdr
              rw [hdr] at HU
              have hl4 : ((qin z k).drop (j + 1)).length < 1000 := by rw [List.length_drop, HQ.out]; omega
              have HL4 := Lib.hid hl4
              have HV := Lib.hid hbv
              clear hbv hdr hl4 hc
              obtain ⟨hbd0, hbd1⟩ := hbd
              go_wp2_with fail
              refine (ua_load0_some _ _ _ _ _ _ _ _ _ HU.out ⟨hbd0, hbd1⟩ HL4.out).mono ?_
              rintro e w5 ⟨rfl, u5⟩
              have B5 := Lib.hid (UaTo.below u5 HU.out HB.out (Nat.le_refl _))
              obtain ⟨S5, u5, _, _⟩ := u5
              have U5 := Lib.hid u5
              obtain ⟨ad2, e2, hc5, _⟩ := (HZ.out.stays B5.out).at_ (show j < k by omega)
              obtain rfl := Option.some.inj e2
              rw [HV.out] at hc5
              clear u5 HU e2
              go_wp2_with fail
              go_roundw
              case rel => exact ⟨j + 1, S5, by go_num, by omega, U5, B5⟩
              case measure => simp [intOf]; omega
            · obtain rfl : j = 16 := by omega
              have hnil : (qin z k).drop 16 = [] := List.eq_nil_of_length_eq_zero (by rw [List.length_drop, HQ.out]; try omega)
              rw [hnil] at HU
              clear hnil
              go_wp2_with fail
              refine (ua_store4 _ _ _ _ _ _ _ _ 2 HU.out).mono ?_
              rintro e w5 ⟨rfl, u5⟩
              have B5 := Lib.hid (UaTo.below u5 HU.out HB.out (Nat.le_refl _))
              obtain ⟨S5, u5, _, _⟩ := u5
              have ef : (true && Go.bits .and .u64 2 2 == 0) = false := by decide +kernel
              rw [ef] at u5
              have U5 := Lib.hid u5
              clear u5 HU HB ef
              go_wp2_with fail
              refine (ua_load4 _ _ _ _ _ _ _ _ U5.out).mono ?_
              rintro e w6 ⟨rfl, u6⟩
              have B6 := Lib.hid (UaTo.below u6 U5.out B5.out (Nat.le_refl _))
              obtain ⟨S6, u6, _, _⟩ := u6
              have U6 := Lib.hid u6
              clear u6 U5 B5
              go_wp2_with fail
              refine (ua_load0_none _ _ _ _ _ _ _ U6.out).mono ?_
              rintro e w7 ⟨rfl, rfl⟩
              go_wp2_with fail
              go_ret
              exact ⟨rfl, B6.out⟩
end Go.Proofs.Ytlgjdakpdhemiaa
