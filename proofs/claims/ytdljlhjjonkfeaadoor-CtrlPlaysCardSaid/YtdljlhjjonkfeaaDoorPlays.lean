/- The walk of the law CtrlPlays: called with any script it returns true, and nothing that lay in memory is another. Conditions: the library's table as its initialiser lays it. -/
import Derived.Test.YtdljlhjjonkfeaaDoorCtrl
import Derived.Test.YtdljlhjjonkfeaaDoorNil
import Derived.Laws.Bits64b
import Derived.Deep.DeepCutAuto
import Derived.Deep.CutBlock
import Derived.Deep.RegionWith
namespace Go.Proofs.YtdljlhjjonkfeaaDoor
open Go.RowKit
theorem wrong_any (k o wd x n : Int) (y : Bool) (w : World) (h0 : 0 ≤ o) :
    Calls Tryd.prog 8 #[.agg #[.int .u8 k, .int .u64 o, .int .i64 wd, .int .u64 x, .int .i64 n, .bool y]] w fun e w' => e = .returned (.int .i64 (askV o wd 16)) ∧ Below w.heap.size w w' := by
  unfold askV
  by_cases h1 : 16 ≤ o
  · rw [if_pos h1]
    go_enter Tryd.func8, Tryd.ntmps8
    go_wp2
    go_ret
    exact ⟨rfl, by repeat (first | exact Below.refl _ _ | apply Below.drew | apply bw_alloc)⟩
  · rw [if_neg h1]
    have h1' : decide (16 ≤ o) = false := decide_eq_false h1
    by_cases h2 : wd = 4
    · have h2' : (wd != 4) = false := by simp [h2]
      by_cases h3 : o % 4 = 0
      · rw [if_neg (by simp [h2, h3])]
        have h3' : (o % 4 != 0) = false := by simp [h3]
        clear h2 h3
        go_enter Tryd.func8, Tryd.ntmps8
        go_wp2
        go_ret
        exact ⟨rfl, by repeat (first | exact Below.refl _ _ | apply Below.drew | apply bw_alloc)⟩
      · rw [if_pos (by simp [h3])]
        have h3' : (o % 4 != 0) = true := by simp [h3]
        clear h2 h3
        go_enter Tryd.func8, Tryd.ntmps8
        go_wp2
        go_ret
        exact ⟨rfl, by repeat (first | exact Below.refl _ _ | apply Below.drew | apply bw_alloc)⟩
    · rw [if_pos (by simp [h2])]
      have h2' : (wd != 4) = true := by simp [h2]
      go_enter Tryd.func8, Tryd.ntmps8
      go_wp2
      go_ret
      exact ⟨rfl, by repeat (first | exact Below.refl _ _ | apply Below.drew | apply bw_alloc)⟩
theorem plus_now {x k : Nat} (hx : x < 4294967296) (hk : k < 4294967296) : (((x &&& (4294967295 - k) : Nat) : Int) + (k : Int)) % 4294967296 = ((x ||| k : Nat) : Int) := by
  have h : BitVec.ofNat 32 (x &&& (4294967295 - k)) + BitVec.ofNat 32 k = BitVec.ofNat 32 (x &&& (4294967295 - k)) ||| BitVec.ofNat 32 k := by
    refine BitVec.add_eq_or_of_and_eq_zero _ _ ?_
    refine BitVec.eq_of_getLsbD_eq fun i hi => ?_
    simp only [BitVec.getLsbD_and, BitVec.getLsbD_ofNat, Nat.testBit_and, not_bit k i hk]
    cases k.testBit i <;> simp
  have h2 := congrArg BitVec.toNat h
  rw [BitVec.toNat_add, BitVec.toNat_or, BitVec.toNat_ofNat, BitVec.toNat_ofNat, Nat.mod_eq_of_lt (a := x &&& (4294967295 - k)) (and32 hx), Nat.mod_eq_of_lt (a := k) hk] at h2
  have h3 : (x &&& (4294967295 - k)) ||| k = x ||| k := ext32 (or32 (and32 hx) hk) (or32 hx hk) fun i hi => by
    rw [Nat.testBit_or, Nat.testBit_or, Nat.testBit_and, not_bit k i hk]
    cases x.testBit i <;> cases k.testBit i <;> simp [hi]
  rw [h3] at h2
  omega
theorem mask_low (x : Int) (h0 : 0 ≤ x) (h1 : x ≤ 18446744073709551615) : Go.bits .and .u64 x 4294967295 = x % 4294967296 := by
  obtain ⟨n, rfl⟩ := Int.eq_ofNat_of_zero_le h0
  have := bits_and_u64_nat n 4294967295 (by omega) (by decide)
  rw [show ((4294967295 : Nat) : Int) = 4294967295 from rfl] at this
  rw [this, show (4294967295 : Nat) = 2 ^ 32 - 1 from rfl, Nat.and_two_pow_sub_one_eq_mod]
  omega
theorem d_store4i (g l m : Nat) (v : Int) (hv : 0 ≤ v) (w : World) (hb : Bk w g 32 (dv l m)) :
    Calls Tryd.prog 11 #[.pointer (some ⟨g, 0, none⟩), .int .u64 4, .int .u32 v] w fun e w' => e = .returned (.tuple #[]) ∧ Bk w' g 32 (dv l v.toNat) ∧ On g w w' := by
  obtain ⟨V, rfl⟩ := Int.eq_ofNat_of_zero_le hv
  exact d_store4 g l m V w hb
theorem d_store_elsei (g l m : Nat) (v : Int) (hv : 0 ≤ v) (o : Int) (ho : o = 0 ∨ o = 8 ∨ o = 12) (w : World) (hb : Bk w g 32 (dv l m)) :
    Calls Tryd.prog 11 #[.pointer (some ⟨g, 0, none⟩), .int .u64 o, .int .u32 v] w fun e w' => e = .returned (.tuple #[]) ∧ w = w' := by
  obtain ⟨V, rfl⟩ := Int.eq_ofNat_of_zero_le hv
  exact d_store_else g l m V o ho w hb
structure Twin (g : Nat) (v w : World) (lc mc ld md : Nat) : Prop where
  c : Bk w g 27 (cc lc mc)
  d : Bk w (g + 1) 32 (dv ld md)
  below : Below v.heap.size v w
  hg : v.heap.size ≤ g
theorem Twin.stays {g lc mc ld md : Nat} {v w w' : World} (h : Twin g v w lc mc ld md) (hb : Below w.heap.size w w') : Twin g v w' lc mc ld md := ⟨h.c.below hb, h.d.below hb, bw_trans h.below hb, h.hg⟩
/-- The two of them, and the Op's block. -/
structure Bes (g x : Nat) (cs : Array Value) (v w : World) (lc mc ld md : Nat) : Prop where
  t : Twin g v w lc mc ld md
  o : Bk w x 35 cs
theorem Bk.ne {w : World} {g g' : Nat} {t t' : TypeId} {cs cs' : Array Value} (h : Bk w g t cs) (h' : Bk w g' t' cs') (hn : t ≠ t') : g ≠ g' := by
  rintro rfl
  unfold Bk at h h'
  rw [h] at h'
  simp at h'
  exact hn h'.2
section
variable {g x lc mc ld md lc' mc' ld' md' : Nat} {cs : Array Value} {v w w' : World}
theorem Bes.new (h : Twin g v w lc mc ld md) (cs : Array Value) : Bes g w.heap.size cs v (w.alloc (.cells cs 35)) lc mc ld md :=
  ⟨⟨h.c.alloc _, h.d.alloc _, bw_alloc h.below _, h.hg⟩, Bk.new _ _ _⟩
theorem Bes.stays (h : Bes g x cs v w lc mc ld md) (hb : Below w.heap.size w w') : Bes g x cs v w' lc mc ld md := ⟨h.t.stays hb, h.o.below hb⟩
theorem Bes.c_on (h : Bes g x cs v w lc mc ld md) (hk : Bk w' g 27 (cc lc' mc')) (ho : On g w w') : Bes g x cs v w' lc' mc' ld md :=
  ⟨⟨hk, h.t.d.on ho (by omega), On.below h.t.below ho h.t.below.size h.t.hg, h.t.hg⟩, h.o.on ho (h.o.ne h.t.c (by decide))⟩
theorem Bes.d_on (h : Bes g x cs v w lc mc ld md) (hk : Bk w' (g + 1) 32 (dv ld' md')) (ho : On (g + 1) w w') : Bes g x cs v w' lc mc ld' md' :=
  ⟨⟨h.t.c.on ho (by omega), hk, On.below h.t.below ho h.t.below.size (by have := h.t.hg; omega), h.t.hg⟩, h.o.on ho (h.o.ne h.t.d (by decide))⟩
end
def Holds (g : Nat) (v w : World) : Prop := ∃ l m, Twin g v w l m l m ∧ l < 4294967296 ∧ m < 4294967296
set_option maxRecDepth 100000 in
set_option maxHeartbeats 3200000 in
theorem cplays_any (A : Option Addr) (n c : Nat) (hm : n ≤ maxLen) (w : World) (hs : Script w A n) (hT : Tab w) :
    Calls Tryd.prog 3 #[.slice A n c] w fun e w' => e = .returned (.bool true) ∧ Below w.heap.size w w' := by
  have HS := Lib.hid hs
  have HT := Lib.hid hT
  clear hs hT
  unfold maxLen at hm
  by_cases hl : 200 < n
  · have hl' : decide (200 < (n : Int)) = true := decide_eq_true (by omega)
    go_enter Tryd.func3, Tryd.ntmps3
    go_wp2_with (go_at_call 6; refine (nil_awake _).mono ?_; rintro e w1 ⟨rfl, hb1⟩)
    go_ret
    exact ⟨rfl, bw_trans (by assumption) hb1⟩
  · have hl' : decide (200 < (n : Int)) = false := decide_eq_false (by omega)
    go_enter Tryd.func3, Tryd.ntmps3
    go_wp2_with (go_at_call 6; refine (nil_awake _).mono ?_; rintro e w1 ⟨rfl, hb1⟩)
    have k0 : Hid (Holds w1.heap.size w ((w1.alloc (.cells #[.int .u32 ((0 : Nat) : Int), .int .u32 ((0 : Nat) : Int)] 27)).alloc (.cells (dv 0 0) 32))) :=
      Lib.hid ⟨0, 0, ⟨(Bk.new w1 27 (cc 0 0)).alloc _, by
        have := Bk.new (w1.alloc (.cells (cc 0 0) 27)) 32 (dv 0 0)
        rw [show (w1.alloc (.cells (cc 0 0) 27)).heap.size = w1.heap.size + 1 from by simp] at this
        exact this, bw_alloc (bw_alloc hb1 _) _, hb1.size⟩, by decide, by decide⟩
    unfold dv at k0
    clear hb1
    generalize (w1.alloc (.cells #[.int .u32 ((0 : Nat) : Int), .int .u32 ((0 : Nat) : Int)] 27)).alloc (.cells #[.int .i64 7, .slice none 0 0, .slice none 0 0, .slice none 0 0, .bool false, .bool false, .int .u32 ((0 : Nat) : Int), .int .u32 ((0 : Nat) : Int), .int .u32 0, .int .u32 0, .int .u32 0, .int .u32 0, .int .u32 0, .int .u32 0] 32) = w2 at *
    generalize w1.heap.size = g at *
    go_loopw [26] (fun i wr => ∃ (k : Nat), i = .int .i64 k ∧ k ≤ n ∧ Hid (Holds g w wr)) (fun i _ => n - (intOf i).toNat)
    case atStart => exact ⟨0, rfl, by omega, k0⟩
    case round =>
      obtain ⟨k, rfl, hk, HH⟩ := hrel
      clear k0
      by_cases hlt : k < n
      · obtain ⟨l, m, HT0, hl0, hm0⟩ := HH.out
        obtain ⟨ad, kd, o, wd, x, m', y, rfl, hop, c0, c1, c2, c3, c4, c5⟩ := (HS.out.stays HT0.below) k hlt
        have HTw := Lib.hid HT0
        clear HT0 HH
        obtain ⟨_, bk, bo, bwd, bx, bm⟩ := hop
        go_upto_block 2 with (fail)
        go_cut [6] (fun _v6 wc => ∃ _z : Nat, Hid (Holds g w wc))
        case first =>
          have HB0 := Lib.hid (Bes.new HTw.out #[.int .u8 kd, .int .u64 o, .int .i64 wd, .int .u64 x, .int .i64 m', .bool y])
          clear HTw c0 c1 c2 c3 c4 c5
          have hml := Lib.hid (mask_low x bx.1 bx.2)
          generalize wr.alloc (.cells #[.int .u8 kd, .int .u64 o, .int .i64 wd, .int .u64 x, .int .i64 m', .bool y] 35) = w3 at *
          generalize wr.heap.size = xo at *
          have o1 := HB0.out.o.cell 1
          have o2 := HB0.out.o.cell 2
          have o3 := HB0.out.o.cell 3
          have o4 := HB0.out.o.cell 4
          have o5 := HB0.out.o.cell 5
          have o0 := HB0.out.o.cell 0
          simp at o0 o1 o2 o3 o4 o5
          by_cases hk4 : kd < 4
          · by_cases hE : askV o wd 16 = 0
            · obtain ⟨rfl, ho⟩ := ask_four bo.1 hE
              have HE := Lib.hid hE
              have HO := Lib.hid ho
              clear hE ho
              go_wp2_with fail
              refine (c_load g l m o HO.out hl0 hm0 _ HB0.out.t.c (HT.out.stays HB0.out.t.below)).mono ?_
              rintro e w4 ⟨rfl, k4, hw4⟩
              have HB4 := Lib.hid (HB0.out.stays (show Below w3.heap.size w3 w4 from by rw [hw4]; exact bw_drewN _ _))
              clear hw4 o0 o1 o2 o3 o4 o5
              have o0 := HB4.out.o.cell 0
              have o1 := HB4.out.o.cell 1
              have o2 := HB4.out.o.cell 2
              have o3 := HB4.out.o.cell 3
              have o4 := HB4.out.o.cell 4
              have o5 := HB4.out.o.cell 5
              simp at o0 o1 o2 o3 o4 o5
              go_wp2_with fail
              refine (wrong_any _ _ _ _ _ _ _ bo.1).mono ?_
              rw [HE.out]
              rintro e w5 ⟨rfl, b5⟩
              have HB5 := Lib.hid (HB4.out.stays b5)
              clear b5 o0 o1 o2 o3 o4 o5
              have o1 := HB5.out.o.cell 1
              simp at o1
              go_wp2_with fail
              refine (d_load (g + 1) l m o HO.out hl0 hm0 _ HB5.out.t.d).mono ?_
              rintro e w6 ⟨rfl, k6, hw6⟩
              have HB6 := Lib.hid (HB5.out.stays (show Below w5.heap.size w5 w6 from by rw [hw6]; exact bw_drewN _ _))
              clear hw6 o1
              go_wp2_with fail
              go_meet
              case rel => exact ⟨0, Lib.hid ⟨l, m, HB6.out.t, hl0, hm0⟩⟩
            · have hn : (askV o wd 16 != 0) = true := by simpa using hE
              have hz : (askV o wd 16 == 0) = false := by simpa using hE
              have HLB := fun W => Lib.hid (c_bad_load g o wd W bo.1 hE)
              have HWR := fun W => Lib.hid (wrong_any kd o wd x m' y W bo.1)
              clear hE
              generalize askV o wd 16 = E at *
              go_wp2_with fail
              refine (HLB _).out.mono ?_
              rintro e w4 ⟨rfl, rfl⟩
              go_wp2_with fail
              refine (HWR _).out.mono ?_
              rintro e w4 ⟨rfl, b4⟩
              have HB4 := Lib.hid (HB0.out.stays b4)
              clear b4
              go_wp2_with fail
              go_meet
              case rel => exact ⟨0, Lib.hid ⟨l, m, HB4.out.t, hl0, hm0⟩⟩
          · by_cases hk8 : kd < 8
            · by_cases hE : askV o wd 16 = 0
              · obtain ⟨rfl, ho⟩ := ask_four bo.1 hE
                have HE := Lib.hid hE
                clear hE
                go_wp2_with fail
                refine (wrong_any _ _ _ _ _ _ _ bo.1).mono ?_
                rw [HE.out]
                rintro e w4 ⟨rfl, b4⟩
                have HB4 := Lib.hid (HB0.out.stays b4)
                clear b4 o0 o1 o2 o3 o4 o5
                have o1 := HB4.out.o.cell 1
                have o2 := HB4.out.o.cell 2
                have o3 := HB4.out.o.cell 3
                simp at o1 o2 o3
                have hx1 : 0 ≤ x % 4294967296 := by omega
                have hx2 : (x % 4294967296).toNat < 4294967296 := by omega
                by_cases h4 : o = 4
                · subst h4
                  go_wp2_with fail
                  refine (c_store4 g l m x _ HB4.out.t.c).mono ?_
                  rintro e w5 ⟨rfl, k5, n5⟩
                  have HB5 := Lib.hid (HB4.out.c_on k5 n5)
                  clear k5 n5 o1 o2 o3
                  have o1 := HB5.out.o.cell 1
                  have o3 := HB5.out.o.cell 3
                  simp at o1 o3
                  have hml2 := hml.out
                  go_wp2_with fail
                  refine (d_store4i (g + 1) l m (x % 4294967296) hx1 _ HB5.out.t.d).mono ?_
                  rintro e w6 ⟨rfl, k6, n6⟩
                  have HB6 := Lib.hid (HB5.out.d_on k6 n6)
                  clear k6 n6 o1 o3
                  go_wp2_with fail
                  go_meet
                  case rel => exact ⟨0, Lib.hid ⟨l, (x % 4294967296).toNat, HB6.out.t, hl0, hx2⟩⟩
                · have HO : Hid (o = 0 ∨ o = 8 ∨ o = 12) := Lib.hid (by omega)
                  clear ho h4
                  go_wp2_with fail
                  refine (c_store_else g o x HO.out _).mono ?_
                  rintro e w5 ⟨rfl, rfl⟩
                  have hml2 := hml.out
                  go_wp2_with fail
                  refine (d_store_elsei (g + 1) l m (x % 4294967296) hx1 o HO.out _ HB4.out.t.d).mono ?_
                  rintro e w6 ⟨rfl, rfl⟩
                  clear o1 o2 o3
                  go_wp2_with fail
                  go_meet
                  case rel => exact ⟨0, Lib.hid ⟨l, m, HB4.out.t, hl0, hm0⟩⟩
              · have hn : (askV o wd 16 != 0) = true := by simpa using hE
                have hz : (askV o wd 16 == 0) = false := by simpa using hE
                have HSB := fun W => Lib.hid (c_bad_store g o wd x W bo.1 hE)
                have HWR := fun W => Lib.hid (wrong_any kd o wd x m' y W bo.1)
                clear hE
                generalize askV o wd 16 = E at *
                go_wp2_with fail
                refine (HWR _).out.mono ?_
                rintro e w4 ⟨rfl, b4⟩
                have HB4 := Lib.hid (HB0.out.stays b4)
                clear b4 o0 o1 o2 o3 o4 o5
                have o1 := HB4.out.o.cell 1
                have o2 := HB4.out.o.cell 2
                have o3 := HB4.out.o.cell 3
                simp at o1 o2 o3
                go_wp2_with fail
                refine (HSB _).out.mono ?_
                rintro e w5 ⟨rfl, rfl⟩
                clear o1 o2 o3
                go_wp2_with fail
                go_meet
                case rel => exact ⟨0, Lib.hid ⟨l, m, HB4.out.t, hl0, hm0⟩⟩
            · by_cases hN : 0 ≤ m' ∧ m' < 32
              · obtain ⟨N, rfl⟩ := Int.eq_ofNat_of_zero_le hN.1
                have hN32 : N < 32 := by omega
                clear hN
                have HSET := fun W h => Lib.hid (c_set g l m (N : Int) y hl0 W h (by omega) (by omega))
                obtain ⟨hq1, hq2⟩ := line_bit (N : Int) (by omega) (by omega)
                have hL := Lib.hid (setL_lt (y := y) hl0 (show (0 : Int) ≤ N by omega) (show (N : Int) < 32 by omega))
                unfold setL at HSET hL
                rw [show ((N : Nat) : Int).toNat = N from by simp] at hq1 hq2
                simp only [show ((N : Nat) : Int).toNat = N from by simp] at HSET hL
                have hpow : (2 : Int) ^ N = ((2 ^ N : Nat) : Int) := by simp
                generalize hKv : 2 ^ N = K at *
                clear hKv
                go_wp2_with fail
                refine (HSET _ HB0.out.t.c).out.mono ?_
                rintro e w4 ⟨rfl, k4, n4⟩
                have HB4 := Lib.hid (HB0.out.c_on k4 n4)
                clear k4 n4 o0 o1 o2 o3 o4 o5
                have o4 := HB4.out.o.cell 4
                have o5 := HB4.out.o.cell 5
                have r0 := HB4.out.t.d.cell 6
                have rf := HB4.out.t.d.free 6
                simp [dv] at o4 o5 r0
                have ell := low_law hl0 hq2
                have epl := plus_now hl0 hq2
                cases y
                · go_wp2_with fail
                  go_region
                  go_wp2_with fail
                  go_meet
                  case rel =>
                    have hd := (HB4.out.t.d.set 6 (.int .u32 ((l &&& (4294967295 - K) : Nat) : Int))).drew
                    exact ⟨0, Lib.hid ⟨_, m, (HB4.out.d_on (ld' := l &&& (4294967295 - K)) (md' := m) hd ((On.refl (g + 1) _).set 6 _).drew).t, hL.out, hm0⟩⟩
                · go_wp2_with fail
                  go_region
                  go_wp2_with fail
                  go_region
                  go_wp2_with fail
                  go_meet
                  case rel =>
                    have hd := ((HB4.out.t.d.set 6 (.int .u32 ((l &&& (4294967295 - K) : Nat) : Int))).set 6 (.int .u32 ((l ||| K : Nat) : Int))).drew.drew
                    exact ⟨0, Lib.hid ⟨_, m, (HB4.out.d_on (ld' := l ||| K) (md' := m) hd (((On.refl (g + 1) _).set 6 _).set 6 _).drew.drew).t, hL.out, hm0⟩⟩
              · have HBS := fun W => Lib.hid (c_bad_set g m' y W hN)
                have hN2 := hN
                clear hN
                by_cases h0 : 0 ≤ m'
                · have d1 : decide (0 ≤ m') = true := decide_eq_true h0
                  have d2 : decide (m' < 32) = false := decide_eq_false (by omega)
                  clear hN2
                  go_wp2_with fail
                  refine (HBS _).out.mono ?_
                  rintro e w4 ⟨rfl, rfl⟩
                  go_wp2_with fail
                  go_meet
                  case rel => exact ⟨0, Lib.hid ⟨l, m, HB0.out.t, hl0, hm0⟩⟩
                · have d1 : decide (0 ≤ m') = false := decide_eq_false h0
                  clear hN2
                  go_wp2_with fail
                  refine (HBS _).out.mono ?_
                  rintro e w4 ⟨rfl, rfl⟩
                  go_wp2_with fail
                  go_meet
                  case rel => exact ⟨0, Lib.hid ⟨l, m, HB0.out.t, hl0, hm0⟩⟩
        case rest =>
          obtain ⟨_, HC⟩ := hcut
          clear c0 c1 c2 c3 c4 c5 HTw hl0 hm0
          obtain ⟨l, m, ht, hl0, hm0⟩ := HC.out
          have HTT := Lib.hid (HT.out.stays ht.below)
          have HI := fun W h1 h2 => Lib.hid (c_high g l m hl0 hm0 W h1 h2)
          have HD := fun W h1 => Lib.hid (d_high (g + 1) l m hl0 hm0 W h1)
          generalize decide (0 < nx (l &&& m)) = bb at *
          have HW := Lib.hid ht
          clear ht
          have hbb : (bb != bb) = false := by simp
          have hbe : (bb == bb) = true := by simp
          go_wp2_with fail
          refine (HI _ HW.out.c HTT.out).out.mono ?_
          rintro e w5 ⟨rfl, k5, hw5⟩
          have H5 := Lib.hid (HW.out.stays (show Below wc.heap.size wc w5 from by rw [hw5]; exact bw_drewN _ _))
          clear hw5
          go_wp2_with fail
          refine (HD _ H5.out.d).out.mono ?_
          rintro e w6 ⟨rfl, k6, hw6⟩
          have H6 := Lib.hid (H5.out.stays (show Below w5.heap.size w5 w6 from by rw [hw6]; exact bw_drewN _ _))
          clear hw6
          go_wp2_with fail
          go_roundw
          case rel => exact ⟨k + 1, by go_num, by omega, Lib.hid ⟨l, m, H6.out, hl0, hm0⟩⟩
          case measure => simp [intOf]; omega
      · obtain ⟨l, m, HT0, hl0, hm0⟩ := HH.out
        go_wp2_with fail
        go_ret
        exact ⟨rfl, HT0.below⟩
theorem open_script22 {H : Type} {enc : TypeId × Value → H} {w : World} {base b0 : Nat} {spare : Nat → Bool} {held : Bool} {r : Reach} {v : Value} {d : DataW H} {p : List MemPlace}
    (hv : Value.okWide Tryd.prog w r b0 22 v) (h : DataW.Trod enc Tryd.prog w base spare held 22 v d p) :
    ∃ A n c, v = .slice A n c ∧ n ≤ maxLen ∧ Script w A n :=
  open_script Tryd.underlying22 (by kernel_rfl) (fun _ _ _ ht => op_cells (u8 := 5) (u64 := 33) (i64 := 3) (bo := 4) Tryd.underlying35 (by kernel_rfl) (by kernel_rfl) rfl rfl rfl rfl rfl rfl Tryd.underlying5 Tryd.underlying33 Tryd.underlying3 Tryd.underlying4 ht) hv h
end Go.Proofs.YtdljlhjjonkfeaaDoor
