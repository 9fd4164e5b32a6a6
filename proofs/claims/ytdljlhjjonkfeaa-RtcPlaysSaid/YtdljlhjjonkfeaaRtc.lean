/- Contracts of the RTC's methods, of the reference's device of kind 6, and of what they call: each answers what a plain function of the block's numbers tells. Conditions: the numbers are of their kinds. -/
import Derived.Test.YtdljlhjjonkfeaaBase
namespace Go.Proofs.Ytdljlhjjonkfeaa
open Go.RowKit

def rk (t a q m : Int) : Array Value := #[.int .u32 t, .int .u32 a, .int .u32 q, .int .u32 m]
/-- What a cell of an RTC is, at an offset that is one. -/
def rtcAt (t a q m o : Int) : Int := if o = 0 then t else if o = 4 then a else if o = 8 then q else m

theorem ask_four {o wd : Int} (h0 : 0 ≤ o) (h : askV o wd 16 = 0) : wd = 4 ∧ (o = 0 ∨ o = 4 ∨ o = 8 ∨ o = 12) := by
  unfold askV at h
  split at h
  · cases h
  · split at h
    · cases h
    · rename_i h1 h2
      simp only [ne_eq, not_or, Decidable.not_not] at h2
      omega
theorem ask_wrong {o wd : Int} (h : ¬ askV o wd 16 = 0) : 0 < askV o wd 16 := by
  unfold askV at h ⊢
  split
  · decide
  · split
    · decide
    · rename_i h1 h2; simp [h1, h2] at h
theorem and_one (x : Int) (h0 : 0 ≤ x) (h1 : x < 4294967296) : Go.bits .and .u32 x 1 = x % 2 := by
  rw [u32_and x 1 h0 h1 (by omega) (by omega)]
  have e : (1 : Int).toNat = 1 := rfl
  rw [e, Nat.and_one_is_mod]
  omega

set_option maxHeartbeats 400000 in
theorem rtc_load_bad (g : Nat) (o wd : Int) (w : World) (h0 : 0 ≤ o) (h : ¬ askV o wd 16 = 0) :
    Calls Try.prog 14 #[.pointer (some ⟨g, 0, none⟩), .int .u64 o, .int .i64 wd] w fun e w' => e = .returned (.tuple #[.int .u64 0, .int .i64 (askV o wd 16)]) ∧ w = w' := by
  have hp := ask_wrong h
  have hn : (askV o wd 16 != 0) = true := by simpa using h
  clear h
  generalize hE : askV o wd 16 = E at *
  have HE := Lib.hid hE
  clear hE
  go_enter Try.func14, Try.ntmps14
  go_wp2_with (go_at_call 23; refine (ask_any _ _ _ _ h0).mono ?_; rw [HE.out]; rintro e w1 ⟨rfl, rfl⟩)
  go_ret2
  exact ⟨rfl, rfl⟩
set_option maxHeartbeats 400000 in
theorem rtc_load_ok (g : Nat) (t a q m o wd : Int) (w : World) (h0 : 0 ≤ o) (h : askV o wd 16 = 0) (hb : Bk w g 40 (rk t a q m))
    (bt : 0 ≤ t ∧ t < 4294967296) (ba : 0 ≤ a ∧ a < 4294967296) (bq : 0 ≤ q ∧ q < 4294967296) (bm : 0 ≤ m ∧ m < 4294967296) :
    Calls Try.prog 14 #[.pointer (some ⟨g, 0, none⟩), .int .u64 o, .int .i64 wd] w fun e w' => e = .returned (.tuple #[.int .u64 (rtcAt t a q m o), .int .i64 0]) ∧ w = w' := by
  obtain ⟨rfl, ho⟩ := ask_four h0 h
  have c0 := hb.cell 0
  have c1 := hb.cell 1
  have c2 := hb.cell 2
  have c3 := hb.cell 3
  simp [rk] at c0 c1 c2 c3
  clear hb h
  obtain ⟨bt0, bt1⟩ := bt
  obtain ⟨ba0, ba1⟩ := ba
  obtain ⟨bq0, bq1⟩ := bq
  obtain ⟨bm0, bm1⟩ := bm
  rcases ho with rfl | rfl | rfl | rfl
  all_goals
    go_enter Try.func14, Try.ntmps14
    go_wp2
    go_ret2
    exact ⟨rfl, rfl⟩
set_option maxHeartbeats 400000 in
theorem rtc_store_bad (g : Nat) (o wd v : Int) (w : World) (h0 : 0 ≤ o) (h : ¬ askV o wd 16 = 0) :
    Calls Try.prog 17 #[.pointer (some ⟨g, 0, none⟩), .int .u64 o, .int .i64 wd, .int .u64 v] w fun e w' => e = .returned (.int .i64 (askV o wd 16)) ∧ w = w' := by
  have hp := ask_wrong h
  have hn : (askV o wd 16 != 0) = true := by simpa using h
  clear h
  generalize hE : askV o wd 16 = E at *
  have HE := Lib.hid hE
  clear hE
  go_enter Try.func17, Try.ntmps17
  go_wp2_with (go_at_call 23; refine (ask_any _ _ _ _ h0).mono ?_; rw [HE.out]; rintro e w1 ⟨rfl, rfl⟩)
  go_ret
  exact ⟨rfl, rfl⟩
/-- What an RTC becomes by a store of a cell's number x at an offset that is one. -/
def rtcPut (t a q m o x : Int) : Array Value :=
  if o = 0 then rk x a q m else if o = 4 then rk t x q m else if o = 8 then rk t a (if x % 2 = 1 then 0 else q) m else rk t a q (x % 2)
set_option maxHeartbeats 400000 in
theorem rtc_store_ok (g : Nat) (t a q m o wd v : Int) (w : World) (h0 : 0 ≤ o) (h : askV o wd 16 = 0) (hb : Bk w g 40 (rk t a q m)) (hq : q = 0 ∨ q = 1) (_hv : 0 ≤ v) :
    Calls Try.prog 17 #[.pointer (some ⟨g, 0, none⟩), .int .u64 o, .int .i64 wd, .int .u64 v] w fun e w' => e = .returned (.int .i64 0) ∧ Bk w' g 40 (rtcPut t a q m o (v % 4294967296)) ∧ On g w w' := by
  obtain ⟨rfl, ho⟩ := ask_four h0 h
  have c0 := hb.cell 0
  have c1 := hb.cell 1
  have c2 := hb.cell 2
  have c3 := hb.cell 3
  have f0 := hb.free 0
  have f1 := hb.free 1
  have f2 := hb.free 2
  have f3 := hb.free 3
  simp [rk] at c0 c1 c2 c3
  have HB := Lib.hid hb
  clear hb h
  have h1 := and_one (v % 4294967296) (by omega) (by omega)
  have HM : 0 ≤ v % 4294967296 ∧ v % 4294967296 < 4294967296 := by omega
  rcases ho with rfl | rfl | rfl | rfl
  · clear h1
    go_enter Try.func17, Try.ntmps17
    go_wp2
    go_ret
    exact ⟨rfl, HB.out.set 0 _, (On.refl g w).set 0 _⟩
  · clear h1
    go_enter Try.func17, Try.ntmps17
    go_wp2
    go_ret
    exact ⟨rfl, HB.out.set 1 _, (On.refl g w).set 1 _⟩
  · have h2 : Go.bits .andNot .u32 q (v % 2) = if v % 4294967296 % 2 = 1 then 0 else q := by
      rcases hq with rfl | rfl <;> rcases (by omega : v % 2 = 0 ∨ v % 2 = 1) with e | e
      all_goals
        rw [e]
        first | rw [if_pos (by omega)] | rw [if_neg (by omega)]
        decide +kernel
    have H2 := Lib.hid h2
    clear h2
    go_enter Try.func17, Try.ntmps17
    go_wp2
    go_ret
    refine ⟨rfl, ?_, (On.refl g w).set 2 _⟩
    rw [H2.out]
    exact HB.out.set 2 _
  · have H2 : Hid (v % 4294967296 % 2 = v % 2) := Lib.hid (by omega)
    go_enter Try.func17, Try.ntmps17
    go_wp2
    go_ret
    refine ⟨rfl, ?_, (On.refl g w).set 3 _⟩
    show Bk _ g 40 (rk t a q (v % 4294967296 % 2))
    rw [H2.out]
    exact HB.out.set 3 (.int .u32 (v % 2))
/-- A tick of an RTC. -/
def rtcTicked (t a q m : Int) : Array Value := rk ((t + 1) % 4294967296) a (if (t + 1) % 4294967296 = a then 1 else q) m
set_option maxHeartbeats 400000 in
theorem rtc_tick (g : Nat) (t a q m : Int) (w : World) (hb : Bk w g 40 (rk t a q m)) (bt : 0 ≤ t ∧ t < 4294967296) :
    Calls Try.prog 19 #[.pointer (some ⟨g, 0, none⟩)] w fun e w' => e = .returned (.tuple #[]) ∧ Bk w' g 40 (rtcTicked t a q m) ∧ On g w w' := by
  have c0 := hb.cell 0
  have c1 := hb.cell 1
  have c2 := hb.cell 2
  have f0 := hb.free 0
  have f2 := hb.free 2
  simp [rk] at c0 c1 c2
  have HB := Lib.hid hb
  clear hb
  obtain ⟨bt0, bt1⟩ := bt
  by_cases hw : (t + 1) % 4294967296 = a
  · have hw' : ((t + 1) % 4294967296 == a) = true := by simpa using hw
    have H2 := Lib.hid hw
    clear hw
    go_enter Try.func19, Try.ntmps19
    go_wp2
    go_quiet (fail)
    go_wp2
    go_end0
    refine ⟨rfl, ?_, ?_⟩
    · unfold rtcTicked
      rw [if_pos H2.out]
      exact ((HB.out.set 0 _).drewN _).set 2 _
    · exact (((On.refl g w).set 0 _).drewN _).set 2 _
  · have hw' : ((t + 1) % 4294967296 == a) = false := by simpa using hw
    have H2 := Lib.hid hw
    clear hw
    go_enter Try.func19, Try.ntmps19
    go_wp2
    go_quiet (fail)
    go_wp2
    go_end0
    refine ⟨rfl, ?_, ?_⟩
    · unfold rtcTicked
      rw [if_neg H2.out]
      exact ((HB.out.set 0 _).drewN _)
    · exact (((On.refl g w).set 0 _).drewN _)
set_option maxHeartbeats 400000 in
theorem rtc_high (g : Nat) (t a q m : Int) (w : World) (hb : Bk w g 40 (rk t a q m)) :
    Calls Try.prog 21 #[.pointer (some ⟨g, 0, none⟩)] w fun e w' => e = .returned (.bool (m == 1 && q == 1)) ∧ w = w' := by
  have c2 := hb.cell 2
  have c3 := hb.cell 3
  simp [rk] at c2 c3
  clear hb
  by_cases hm : m = 1
  · subst hm
    go_enter Try.func21, Try.ntmps21
    go_wp2
    go_ret
    exact ⟨rfl, rfl⟩
  · have hm' : (m == 1) = false := by simpa using hm
    clear hm
    go_enter Try.func21, Try.ntmps21
    go_wp2
    go_ret
    exact ⟨by simp [hm'], rfl⟩

/-- The cells of the reference's device, kind 6. -/
def dv (t a q : Int) (may : Bool) : Array Value :=
  #[.int .i64 6, .slice none 0 0, .slice none 0 0, .slice none 0 0, .bool false, .bool may, .int .u32 t, .int .u32 a, .int .u32 q, .int .u32 0, .int .u32 0, .int .u32 0, .int .u32 0, .int .u32 0]
def b2i (b : Bool) : Int := if b then 1 else 0

theorem one_any (b : Bool) (w : World) : Calls Try.prog 24 #[.bool b] w fun e w' => e = .returned (.int .u64 (b2i b)) ∧ w' = w := by
  cases b
  all_goals
    go_enter Try.func24, Try.ntmps24
    go_wp2
    go_ret
    exact ⟨rfl, rfl⟩
theorem idx4 (o : Int) (x0 x1 x2 x3 : Int) (ho : o = 0 ∨ o = 4 ∨ o = 8 ∨ o = 12) (w : World) :
    (Instr.index 54 (.agg #[.int .u64 x0, .int .u64 x1, .int .u64 x2, .int .u64 x3]) (.int .u64 (o / 4))).run Try.prog w = .ok (.int .u64 (rtcAt x0 x1 x2 x3 o)) w := by
  rcases ho with rfl | rfl | rfl | rfl <;> kernel_rfl

set_option maxRecDepth 100000 in
set_option maxHeartbeats 800000 in
theorem dev_load (g : Nat) (t a q o : Int) (may : Bool) (w : World) (ho : o = 0 ∨ o = 4 ∨ o = 8 ∨ o = 12) (hb : Bk w g 45 (dv t a q may))
    (bt : 0 ≤ t ∧ t < 4294967296) (ba : 0 ≤ a ∧ a < 4294967296) (bq : 0 ≤ q ∧ q < 4294967296) :
    Calls Try.prog 16 #[.pointer (some ⟨g, 0, none⟩), .int .u64 o] w fun e w' => e = .returned (.int .u64 (rtcAt t a q (b2i may) o)) ∧ Bk w' g 45 (dv t a q may) ∧ On g w w' := by
  have c0 := hb.cell 0
  have c5 := hb.cell 5
  have c6 := hb.cell 6
  have c7 := hb.cell 7
  have c8 := hb.cell 8
  simp [dv] at c0 c5 c6 c7 c8
  have HB := Lib.hid hb
  clear hb
  obtain ⟨bt0, bt1⟩ := bt
  obtain ⟨ba0, ba1⟩ := ba
  obtain ⟨bq0, bq1⟩ := bq
  have i4 := fun W => idx4 o t a q (b2i may) ho W
  have ho0 : 0 ≤ o := by omega
  have ho1 : o ≤ 12 := by omega
  clear ho
  go_enter Try.func16, Try.ntmps16
  go_wp2
  go_quiet ((go_at_call 24; exact Calls.quiet_of_same (one_any _ _)))
  go_wp2
  go_ret
  exact ⟨rfl, HB.out.drewN _, (On.refl g w).drewN _⟩
/-- What the device becomes by a store. -/
def dvPut (t a q : Int) (may : Bool) (o x : Int) : Array Value :=
  if o = 0 then dv x a q may else if o = 4 then dv t x q may else if o = 8 then dv t a (if x % 2 = 1 then 0 else q) may else dv t a q (x % 2 == 1)
set_option maxRecDepth 100000 in
set_option maxHeartbeats 800000 in
theorem dev_store (g : Nat) (t a q o x : Int) (may : Bool) (w : World) (ho : o = 0 ∨ o = 4 ∨ o = 8 ∨ o = 12) (hb : Bk w g 45 (dv t a q may)) (h0 : 0 ≤ x) :
    Calls Try.prog 18 #[.pointer (some ⟨g, 0, none⟩), .int .u64 o, .int .u32 x] w fun e w' => e = .returned (.tuple #[]) ∧ Bk w' g 45 (dvPut t a q may o x) ∧ On g w w' := by
  have c0 := hb.cell 0
  have c5 := hb.cell 5
  have c6 := hb.cell 6
  have c7 := hb.cell 7
  have c8 := hb.cell 8
  have f5 := hb.free 5
  have f6 := hb.free 6
  have f7 := hb.free 7
  have f8 := hb.free 8
  simp [dv] at c0 c5 c6 c7 c8
  have HB := Lib.hid hb
  clear hb
  rcases ho with rfl | rfl | rfl | rfl
  · go_enter Try.func18, Try.ntmps18
    go_wp2
    go_end0
    exact ⟨rfl, HB.out.set 6 _, (On.refl g w).set 6 _⟩
  · go_enter Try.func18, Try.ntmps18
    go_wp2
    go_end0
    exact ⟨rfl, HB.out.set 7 _, (On.refl g w).set 7 _⟩
  · by_cases hx : x % 2 = 1
    · have hx' : (x % 2 == 1) = true := by simpa using hx
      have H2 := Lib.hid hx
      clear hx
      go_enter Try.func18, Try.ntmps18
      go_wp2
      go_end0
      refine ⟨rfl, ?_, (On.refl g w).set 8 _⟩
      show Bk _ g 45 (dv t a (if x % 2 = 1 then 0 else q) may)
      rw [if_pos H2.out]
      exact HB.out.set 8 _
    · have hx' : (x % 2 == 1) = false := by simpa using hx
      have H2 := Lib.hid hx
      clear hx
      go_enter Try.func18, Try.ntmps18
      go_wp2
      go_end0
      refine ⟨rfl, ?_, On.refl g w⟩
      show Bk _ g 45 (dv t a (if x % 2 = 1 then 0 else q) may)
      rw [if_neg H2.out]
      exact HB.out
  · go_enter Try.func18, Try.ntmps18
    go_wp2
    go_end0
    exact ⟨rfl, HB.out.set 5 _, (On.refl g w).set 5 _⟩
def dvTicked (t a q : Int) (may : Bool) : Array Value := dv ((t + 1) % 4294967296) a (if (t + 1) % 4294967296 = a then 1 else q) may
set_option maxRecDepth 100000 in
set_option maxHeartbeats 800000 in
theorem dev_tick (g : Nat) (t a q : Int) (may : Bool) (w : World) (hb : Bk w g 45 (dv t a q may)) (bt : 0 ≤ t ∧ t < 4294967296) :
    Calls Try.prog 20 #[.pointer (some ⟨g, 0, none⟩)] w fun e w' => e = .returned (.tuple #[]) ∧ Bk w' g 45 (dvTicked t a q may) ∧ On g w w' := by
  have c0 := hb.cell 0
  have c6 := hb.cell 6
  have c7 := hb.cell 7
  have c8 := hb.cell 8
  have f6 := hb.free 6
  have f8 := hb.free 8
  simp [dv] at c0 c6 c7 c8
  have HB := Lib.hid hb
  clear hb
  obtain ⟨bt0, bt1⟩ := bt
  by_cases hw : (t + 1) % 4294967296 = a
  · have hw' : ((t + 1) % 4294967296 == a) = true := by simpa using hw
    have H2 := Lib.hid hw
    clear hw
    go_enter Try.func20, Try.ntmps20
    go_wp2
    go_region
    go_wp2
    go_quiet (fail)
    go_wp2
    go_end0
    refine ⟨rfl, ?_, ?_⟩
    · unfold dvTicked
      rw [if_pos H2.out]
      exact ((HB.out.set 6 _).drewN _).set 8 _
    · exact (((On.refl g w).set 6 _).drewN _).set 8 _
  · have hw' : ((t + 1) % 4294967296 == a) = false := by simpa using hw
    have H2 := Lib.hid hw
    clear hw
    go_enter Try.func20, Try.ntmps20
    go_wp2
    go_region
    go_wp2
    go_quiet (fail)
    go_wp2
    go_end0
    refine ⟨rfl, ?_, ?_⟩
    · unfold dvTicked
      rw [if_neg H2.out]
      exact (((HB.out.set 6 _).drew).drewN _)
    · exact ((((On.refl g w).set 6 _).drew).drewN _)
set_option maxRecDepth 100000 in
set_option maxHeartbeats 800000 in
theorem dev_high (g : Nat) (t a q : Int) (may : Bool) (w : World) (hb : Bk w g 45 (dv t a q may)) :
    Calls Try.prog 22 #[.pointer (some ⟨g, 0, none⟩)] w fun e w' => e = .returned (.bool (may && q == 1)) ∧ w = w' := by
  have c0 := hb.cell 0
  have c5 := hb.cell 5
  have c8 := hb.cell 8
  simp [dv] at c0 c5 c8
  clear hb
  cases may
  all_goals
    go_enter Try.func22, Try.ntmps22
    go_wp2
    go_ret
    exact ⟨rfl, rfl⟩
end Go.Proofs.Ytdljlhjjonkfeaa
