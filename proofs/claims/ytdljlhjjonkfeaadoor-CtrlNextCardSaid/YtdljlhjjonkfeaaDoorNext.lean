/- The walk of the law CtrlNext: called with any lines and mask it returns true, and nothing that lay in memory is another. Conditions: the library's table as its initialiser lays it. -/
import Derived.Test.YtdljlhjjonkfeaaDoorCtrl
import Derived.Test.YtdljlhjjonkfeaaDoorNil
namespace Go.Proofs.YtdljlhjjonkfeaaDoor
open Go.RowKit
theorem low_bits (x k : Nat) (hk : k < 32) (hx : x < 4294967296) : setL (x % 2 ^ k) k (x.testBit k) = x % 2 ^ (k + 1) := by
  have hm : ∀ j, x % 2 ^ j < 4294967296 := fun j => Nat.lt_of_le_of_lt (Nat.mod_le _ _) hx
  have hp : (2 : Nat) ^ k < 4294967296 := (line_bit k (by omega) (by omega)).2
  refine ext32 (setL_lt (hm k) (by omega) (by omega)) (hm _) fun i hi => ?_
  unfold setL
  rw [show ((k : Nat) : Int).toNat = k from by simp]
  rw [Nat.testBit_mod_two_pow]
  by_cases hb : x.testBit k
  · rw [if_pos hb, Nat.testBit_or, Nat.testBit_mod_two_pow, Nat.testBit_two_pow]
    by_cases h1 : i = k
    · subst h1; simp [hb]
    · have : (k = i) = False := by simp; omega
      simp only [this]
      by_cases h2 : i < k
      · simp [h2, show i < k + 1 by omega]
      · simp [h2, show ¬ i < k + 1 by omega]
  · rw [if_neg hb, Nat.testBit_and, Nat.testBit_mod_two_pow, not_bit _ _ hp, Nat.testBit_two_pow]
    by_cases h1 : i = k
    · subst h1; simp at hb; simp [hb]
    · have : (k = i) = False := by simp; omega
      simp only [this]
      by_cases h2 : i < k
      · simp [h2, show i < k + 1 by omega, hi]
      · simp [h2, show ¬ i < k + 1 by omega]
theorem least_bit {a : Nat} (h0 : a ≠ 0) (h : a < 4294967296) : a &&& 2 ^ Lib.ctz 32 a ≠ 0 ∧ a &&& (2 ^ Lib.ctz 32 a - 1) = 0 := by
  obtain ⟨m, hm, hlt⟩ := Lib.ctzFrom_spec 32 a (by omega) h
  have hc : Lib.ctz 32 a = Lib.ctzFrom 32 a := by unfold Lib.ctz; rw [if_neg h0]
  rw [hc]
  generalize Lib.ctzFrom 32 a = c at *
  have e : ∀ i, a.testBit i = (decide (c ≤ i) && (2 * m + 1).testBit (i - c)) := fun i => by
    rw [hm, Nat.mul_comm, Nat.testBit_mul_two_pow]
  constructor
  · intro hz
    have h1 := congrArg (fun n => Nat.testBit n c) hz
    simp only [Nat.testBit_and, Nat.testBit_two_pow, e c] at h1
    simp at h1
  · refine Nat.eq_of_testBit_eq fun i => ?_
    rw [Nat.testBit_and, Nat.testBit_two_pow_sub_one, e i]
    by_cases hi : c ≤ i
    · simp [show ¬ i < c by omega]
    · simp [hi]
set_option maxRecDepth 100000 in
set_option maxHeartbeats 1600000 in
theorem next_any (X M : Int) (wx : (Lit.int .u32 X).wf = true) (wm : (Lit.int .u32 M).wf = true) (w : World) (hT : Tab w) :
    Calls Tryd.prog 4 #[.int .u32 X, .int .u32 M] w fun e w' => e = .returned (.bool true) ∧ Below w.heap.size w w' := by
  obtain ⟨hx0, hx1⟩ := bounds_u32 wx
  obtain ⟨hm0, hm1⟩ := bounds_u32 wm
  clear wx wm
  obtain ⟨x, rfl⟩ := Int.eq_ofNat_of_zero_le hx0
  obtain ⟨m, rfl⟩ := Int.eq_ofNat_of_zero_le hm0
  have hx : x < 4294967296 := by omega
  have hm : m < 4294967296 := by omega
  have HT := Lib.hid hT
  clear hT hx0 hx1 hm0 hm1
  go_enter Tryd.func4, Tryd.ntmps4
  go_wp2_with fail
  refine (nil_awake _).mono ?_
  rintro e w1 ⟨rfl, bb1⟩
  go_wp2_with fail
  have g0 := bb1.size
  have K0 := Lib.hid (Bk.new w1 27 (cc 0 0))
  have B0 := Lib.hid (bw_alloc bb1 (.cells (cc 0 0) 27))
  clear bb1
  unfold cc at K0 B0
  generalize w1.alloc (.cells #[.int .u32 ((0 : Nat) : Int), .int .u32 ((0 : Nat) : Int)] 27) = w2 at *
  generalize w1.heap.size = g at *
  go_loopw [18] (fun i wr => ∃ k : Nat, i = .int .i64 k ∧ k ≤ 32 ∧ Hid (Bk wr g 27 (cc (x % 2 ^ k) 0)) ∧ Hid (Below w.heap.size w wr)) (fun i _ => 32 - (intOf i).toNat)
  case atStart => exact ⟨0, rfl, by omega, by rw [show x % 2 ^ 0 = 0 from Nat.mod_one x]; exact K0, B0⟩
  case round =>
    obtain ⟨k, rfl, hk, HK, HB⟩ := hrel
    clear K0 B0
    by_cases hlt : k < 32
    · have e1 := bit_of k hx
      have e3 := Lib.hid (low_bits x k hlt hx)
      have hs : ∀ y W, Bk W g 27 (cc (x % 2 ^ k) 0) → _ := fun y W hW => Lib.hid (c_set g (x % 2 ^ k) 0 k y (Nat.lt_of_le_of_lt (Nat.mod_le _ _) hx) W hW (by omega) (by omega))
      generalize x.testBit k = b1 at *
      cases b1 <;> simp only [if_true, if_false, Bool.false_eq_true] at e1
      all_goals
        go_wp2_with fail
        refine (hs _ _ HK.out).out.mono ?_
        rintro e w3 ⟨rfl, k3, o3⟩
        rw [e3.out] at k3
        have K3 := Lib.hid k3
        have B3 := Lib.hid (On.below HB.out o3 (by have := HB.out.size; omega) g0)
        clear k3 o3
        go_wp2_with fail
        refine ⟨⟨k + 1, by simp, by omega, K3, B3⟩, by simp [intOf]; omega⟩
    · obtain rfl : k = 32 := by omega
      have K1 : Hid (Bk _ g 27 (cc x 0)) := Lib.hid (by
        have := HK.out
        rw [show x % 2 ^ 32 = x from Nat.mod_eq_of_lt hx] at this
        exact this)
      clear HK
      go_wp2_with fail
      refine (c_store4 g x 0 _ _ K1.out).mono ?_
      rintro e w3 ⟨rfl, k3, o3⟩
      have K3 : Hid (Bk w3 g 27 (cc x m)) := Lib.hid (by
        rw [show ((m : Int) % 4294967296).toNat = m from by omega] at k3
        exact k3)
      have B3 := Lib.hid (On.below HB.out o3 (by have := HB.out.size; omega) g0)
      have HT3 := Lib.hid (HT.out.stays B3.out)
      clear k3 o3 HB K1
      go_wp2_with fail
      have ha := Lib.hid (and_law hx hm)
      have hlt' : x &&& m < 4294967296 := and32 hx
      have L8 := fun W h1 h2 => Lib.hid (c_load g x m 8 (.inr (.inr (.inl rfl))) hx hm W h1 h2)
      rw [show ldV x m 8 = nx (x &&& m) from rfl] at L8
      have HI := fun W h1 h2 => Lib.hid (c_high g x m hx hm W h1 h2)
      generalize x &&& m = a at *
      by_cases h0 : a = 0
      · subst h0
        rw [show nx 0 = 0 from rfl] at L8 HI
        refine (L8 _ K3.out HT3.out).out.mono ?_
        rintro e w4 ⟨rfl, k4, rfl⟩
        go_wp2_with fail
        refine (c_load g x m 0 (.inl rfl) hx hm _ (K3.out.drewN _) (HT3.out.stays (bw_drewN _ _))).mono ?_
        rw [show ldV x m 0 = x from rfl]
        rintro e w4 ⟨rfl, k5, rfl⟩
        go_wp2_with fail
        refine (c_load g x m 4 (.inr (.inl rfl)) hx hm _ (K3.out.drewN _) (HT3.out.stays (bw_drewN _ _))).mono ?_
        rw [show ldV x m 4 = m from rfl]
        rintro e w4 ⟨rfl, k6, rfl⟩
        have HA := ha.out
        have xx : ((x : Int) != x) = false := by simp
        have mm : ((m : Int) != m) = false := by simp
        go_wp2_with fail
        refine (HI _ (K3.out.drewN _) (HT3.out.stays (bw_drewN _ _))).out.mono ?_
        rw [show decide (0 < 0) = false from rfl]
        rintro e w4 ⟨rfl, k7, rfl⟩
        go_wp2_with fail
        go_ret
        exact ⟨rfl, bw_trans B3.out (bw_drewN _ _)⟩
      · obtain ⟨hb1, hb2⟩ := least_bit h0 hlt'
        have hc := ctz_lt h0 hlt'
        have hn : nx a = Lib.ctz 32 a + 1 := by unfold nx; rw [if_neg h0]
        rw [hn] at L8 HI
        generalize Lib.ctz 32 a = c at *
        have hd : decide (0 < c + 1) = true := decide_eq_true (by omega)
        rw [hd] at HI
        clear hn hd
        obtain ⟨hq1, hq2⟩ := line_bit c (by omega) (by omega)
        rw [show ((c : Nat) : Int).toNat = c from by simp] at hq1 hq2
        have hpos : 0 < 2 ^ c := Nat.two_pow_pos c
        have hpow : (2 : Int) ^ c = ((2 ^ c : Nat) : Int) := by simp
        generalize hKv : 2 ^ c = K at *
        have x1 : (Go.bits .and .u32 (a : Int) (K : Int) == 0) = false := by
          rw [and_law hlt' hq2]; simpa using hb1
        have x2 : Go.bits .and .u32 (a : Int) ((K : Int) - 1) = 0 := by
          rw [show (K : Int) - 1 = ((K - 1 : Nat) : Int) from by omega, and_law hlt' (by omega), hb2]; rfl
        have x3 : ((a : Int) == 0) = false := by simpa using h0
        have x4 : ((a : Int) != 0) = true := by simpa using h0
        have x5 : (Go.bits .and .u32 (a : Int) (K : Int) != 0) = true := by
          rw [and_law hlt' hq2]; simpa using hb1
        clear hb1 hb2 hKv
        refine (L8 _ K3.out HT3.out).out.mono ?_
        rintro e w4 ⟨rfl, k4, rfl⟩
        go_wp2_with fail
        refine (c_load g x m 0 (.inl rfl) hx hm _ (K3.out.drewN _) (HT3.out.stays (bw_drewN _ _))).mono ?_
        rw [show ldV x m 0 = x from rfl]
        rintro e w4 ⟨rfl, k5, rfl⟩
        go_wp2_with fail
        refine (c_load g x m 4 (.inr (.inl rfl)) hx hm _ (K3.out.drewN _) (HT3.out.stays (bw_drewN _ _))).mono ?_
        rw [show ldV x m 4 = m from rfl]
        rintro e w4 ⟨rfl, k6, rfl⟩
        have HA := ha.out
        have xx : ((x : Int) != x) = false := by simp
        have mm : ((m : Int) != m) = false := by simp
        go_wp2_with fail
        refine (HI _ (K3.out.drewN _) (HT3.out.stays (bw_drewN _ _))).out.mono ?_
        rintro e w4 ⟨rfl, k7, rfl⟩
        go_wp2_with fail
        go_ret
        exact ⟨rfl, bw_trans B3.out (bw_drewN _ _)⟩
end Go.Proofs.YtdljlhjjonkfeaaDoor
