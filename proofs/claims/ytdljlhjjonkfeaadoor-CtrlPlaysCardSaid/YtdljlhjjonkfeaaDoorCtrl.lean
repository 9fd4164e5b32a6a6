/- Contracts of the controller (layer 16): what each method answers and leaves. Conditions: the table of the library as its initialiser lays it; numbers of 32 bits. -/
import Derived.Test.YtdljlhjjonkfeaaDoorBase
import Derived.Test.YtdljlhjjonkfeaaDoorBitp
import Derived.Laws.Bits64b
import Derived.Lib.TrailingZeros
namespace Go.Proofs.YtdljlhjjonkfeaaDoor
open Go.RowKit
theorem ask_four {o wd : Int} (h0 : 0 ≤ o) (h : askV o wd 16 = 0) : wd = 4 ∧ (o = 0 ∨ o = 4 ∨ o = 8 ∨ o = 12) := by
  unfold askV at h
  split at h
  · cases h
  · split at h
    · cases h
    · rename_i h1 h2
      simp only [ne_eq, not_or, Decidable.not_not] at h2
      omega
theorem ask_wrong {o wd : Int} (h : ¬ askV o wd 16 = 0) : 0 < askV o wd 16 := by
  unfold askV at h ⊢
  split
  · decide
  · split
    · decide
    · rename_i h1 h2; simp [h1, h2] at h
/-- The library's table as its initialiser lays it. -/
def Tab (w : World) : Prop := ∀ j, j < Lib.deBruijn32tab.length → w.cell? ⟨0, j, none⟩ = some (.int .u8 (Lib.deBruijn32tab.getD j 0))
theorem Tab.stays {w w' : World} (h : Tab w) (hb : Below w.heap.size w w') : Tab w' := fun j hj => cell_stays hb (h j hj)
/-- 1 more than the least bit that is set; 0: none is. -/
def nx (a : Nat) : Nat := if a = 0 then 0 else Lib.ctz 32 a + 1
theorem ctz_lt {a : Nat} (h0 : a ≠ 0) (h : a < 4294967296) : Lib.ctz 32 a < 32 := (Lib.lowest_bit 32 a h0 h).2
theorem nx_le {a : Nat} (h : a < 4294967296) : nx a ≤ 32 := by
  unfold nx
  split
  · omega
  · rename_i h0
    have := ctz_lt h0 h
    omega
set_option maxHeartbeats 1000000 in
theorem tz_core (x k idx : Nat) (w : World) (hx0 : ((x : Int) == 0) = false)
    (key : bits BinOp.and IntKind.u32 (x : Int) (-(x : Int) % 4294967296) * 125613361 % 4294967296 / 134217728 = (idx : Int))
    (hi : idx < 32) (hk : k < 32) (hcell : w.cell? ⟨0, idx, none⟩ = some (.int .u8 k)) :
    Calls Tryd.prog 21 #[.int .u32 x] w fun e w' => e = .returned (.int .i64 k) ∧ w = w' := by
  go_enter Tryd.func21, Tryd.ntmps21
  go_wp2_with (simp only [key])
  go_ret
  exact ⟨rfl, rfl⟩
theorem tz_key (x a : Nat) (hx : x < 4294967296) (hx0 : x ≠ 0) (hlow : x &&& (4294967296 - x) = a) :
    bits BinOp.and IntKind.u32 (x : Int) (-(x : Int) % 4294967296) * 125613361 % 4294967296 / 134217728 = ((a * 125613361 % 4294967296 / 134217728 : Nat) : Int) := by
  have e1 : -(x : Int) % 4294967296 = ((4294967296 - x : Nat) : Int) := by omega
  rw [e1, u32_and_nat x _ hx (by omega), hlow]
  omega
theorem tz_any (x : Nat) (hx : x < 4294967296) (hx0 : x ≠ 0) (w : World) (hT : Tab w) :
    Calls Tryd.prog 21 #[.int .u32 x] w fun e w' => e = .returned (.int .i64 (Lib.ctz 32 x)) ∧ w = w' := by
  obtain ⟨hlow, hk⟩ := Lib.lowest_bit 32 x hx0 hx
  obtain ⟨hi, htab⟩ := Lib.deBruijn32_at _ hk
  have hcell := hT _ hi
  rw [htab] at hcell
  exact tz_core x _ _ w (by simp; omega) (tz_key x _ hx hx0 hlow) hi hk hcell
/-- The controller's cells. -/
def cc (l m : Nat) : Array Value := #[.int .u32 l, .int .u32 m]
theorem bw_drewN (w : World) (n : Nat) : Below w.heap.size w (w.drewN n) := ⟨rfl, rfl, rfl, Nat.le_refl _, fun _ _ => rfl⟩
theorem drewN_two (w : World) (i j : Nat) : (w.drewN i).drewN j = w.drewN (i + j) := by simp [World.drewN, Nat.add_assoc]
theorem c_next (g l m : Nat) (hl : l < 4294967296) (hm : m < 4294967296) (w : World) (hb : Bk w g 27 (cc l m)) (hT : Tab w) :
    Calls Tryd.prog 16 #[.pointer (some ⟨g, 0, none⟩)] w fun e w' => e = .returned (.int .u64 (nx (l &&& m))) ∧ ∃ k, w' = w.drewN k := by
  have c0 := hb.cell 0
  have c1 := hb.cell 1
  simp [cc] at c0 c1
  clear hb
  have ha := and_law hl hm
  have hlt : l &&& m < 4294967296 := and32 hl
  generalize l &&& m = a at *
  unfold nx
  by_cases h0 : a = 0
  · subst h0
    rw [if_pos rfl]
    go_enter Tryd.func16, Tryd.ntmps16
    go_wp2_with fail
    go_quiet (fail)
    go_wp2_with fail
    go_ret
    exact ⟨rfl, _, rfl⟩
  · rw [if_neg h0]
    have hz : ((a : Int) == 0) = false := by simp; omega
    have HT := fun W hW => Lib.hid (tz_any a hlt h0 W hW)
    have hk := ctz_lt h0 hlt
    generalize Lib.ctz 32 a = k at *
    go_enter Tryd.func16, Tryd.ntmps16
    go_wp2_with fail
    go_quiet (fail)
    go_wp2_with fail
    obtain ⟨w1, hw1⟩ : ∃ w1, w.drewN nq = w1 := ⟨_, rfl⟩
    have HB := Lib.hid hw1
    have hT1 := hT.stays (bw_drewN w nq)
    have d0 := cell_stays (bw_drewN w nq) c0
    have d1 := cell_stays (bw_drewN w nq) c1
    clear c0 c1
    rw [hw1] at hT1 d0 d1 ⊢
    clear hw1
    go_quiet ((go_at_call 21; exact Calls.quiet_of_same ((HT _ (hT1.stays (bw_drewN _ _))).out.mono (by rintro e w1 ⟨rfl, rfl⟩; exact ⟨rfl, rfl⟩))))
    go_wp2_with fail
    go_ret
    exact ⟨rfl, _, by rw [← HB.out]; exact drewN_two _ _ _⟩
theorem c_high (g l m : Nat) (hl : l < 4294967296) (hm : m < 4294967296) (w : World) (hb : Bk w g 27 (cc l m)) (hT : Tab w) :
    Calls Tryd.prog 13 #[.pointer (some ⟨g, 0, none⟩)] w fun e w' => e = .returned (.bool (decide (0 < nx (l &&& m)))) ∧ ∃ k, w' = w.drewN k := by
  have HN := c_next g l m hl hm w hb hT
  have hk := nx_le (and32 (b := m) hl)
  clear hb hT
  generalize nx (l &&& m) = k at *
  by_cases h0 : 0 < k
  · have hd : decide (0 < (k : Int)) = true := decide_eq_true (by omega)
    rw [decide_eq_true h0]
    go_enter Tryd.func13, Tryd.ntmps13
    go_wp2_with fail
    refine HN.mono ?_
    rintro e w1 ⟨rfl, kk, rfl⟩
    go_wp2_with fail
    go_ret
    exact ⟨rfl, _, rfl⟩
  · have hd : decide (0 < (k : Int)) = false := decide_eq_false (by omega)
    rw [decide_eq_false h0]
    go_enter Tryd.func13, Tryd.ntmps13
    go_wp2_with fail
    refine HN.mono ?_
    rintro e w1 ⟨rfl, kk, rfl⟩
    go_wp2_with fail
    go_ret
    exact ⟨rfl, _, rfl⟩
/-- What a cell of the controller, and of the device, is read as. -/
def ldV (l m : Nat) (o : Int) : Nat := if o = 0 then l else if o = 4 then m else if o = 8 then nx (l &&& m) else 0
theorem c_load (g l m : Nat) (o : Int) (ho : o = 0 ∨ o = 4 ∨ o = 8 ∨ o = 12) (hl : l < 4294967296) (hm : m < 4294967296) (w : World) (hb : Bk w g 27 (cc l m)) (hT : Tab w) :
    Calls Tryd.prog 7 #[.pointer (some ⟨g, 0, none⟩), .int .u64 o, .int .i64 4] w fun e w' => e = .returned (.tuple #[.int .u64 (ldV l m o), .int .i64 0]) ∧ ∃ k, w' = w.drewN k := by
  have HN := c_next g l m hl hm w hb hT
  have hk := nx_le (and32 (b := m) hl)
  have c0 := hb.cell 0
  have c1 := hb.cell 1
  simp [cc] at c0 c1
  clear hb hT
  rcases ho with rfl | rfl | rfl | rfl
  · rw [show ldV l m 0 = l from rfl]
    go_enter Tryd.func7, Tryd.ntmps7
    go_wp2_with fail
    refine (ask_any _ _ _ _ (by decide)).mono ?_
    rintro e w1 ⟨rfl, rfl⟩
    go_wp2_with fail
    go_ret2
    exact ⟨rfl, 0, rfl⟩
  · rw [show ldV l m 4 = m from rfl]
    go_enter Tryd.func7, Tryd.ntmps7
    go_wp2_with fail
    refine (ask_any _ _ _ _ (by decide)).mono ?_
    rintro e w1 ⟨rfl, rfl⟩
    go_wp2_with fail
    go_ret2
    exact ⟨rfl, 0, rfl⟩
  · rw [show ldV l m 8 = nx (l &&& m) from rfl]
    generalize nx (l &&& m) = k at *
    go_enter Tryd.func7, Tryd.ntmps7
    go_wp2_with fail
    refine (ask_any _ _ _ _ (by decide)).mono ?_
    rintro e w1 ⟨rfl, rfl⟩
    go_wp2_with fail
    refine HN.mono ?_
    rintro e w1 ⟨rfl, kk, rfl⟩
    go_wp2_with fail
    go_ret2
    exact ⟨rfl, _, rfl⟩
  · rw [show ldV l m 12 = 0 from rfl]
    go_enter Tryd.func7, Tryd.ntmps7
    go_wp2_with fail
    refine (ask_any _ _ _ _ (by decide)).mono ?_
    rintro e w1 ⟨rfl, rfl⟩
    go_wp2_with fail
    go_ret2
    exact ⟨rfl, 0, rfl⟩
theorem c_bad_load (g : Nat) (o wd : Int) (w : World) (h0 : 0 ≤ o) (h : ¬ askV o wd 16 = 0) :
    Calls Tryd.prog 7 #[.pointer (some ⟨g, 0, none⟩), .int .u64 o, .int .i64 wd] w fun e w' => e = .returned (.tuple #[.int .u64 0, .int .i64 (askV o wd 16)]) ∧ w = w' := by
  have hn : (askV o wd 16 != 0) = true := by simpa using h
  have hz : (askV o wd 16 == 0) = false := by simpa using h
  have HA := fun W => Lib.hid (ask_any o wd 16 W h0)
  clear h h0
  generalize askV o wd 16 = E at *
  go_enter Tryd.func7, Tryd.ntmps7
  go_wp2_with fail
  refine (HA _).out.mono ?_
  rintro e w1 ⟨rfl, rfl⟩
  go_wp2_with fail
  go_ret2
  exact ⟨rfl, rfl⟩
theorem c_bad_store (g : Nat) (o wd v : Int) (w : World) (h0 : 0 ≤ o) (h : ¬ askV o wd 16 = 0) :
    Calls Tryd.prog 10 #[.pointer (some ⟨g, 0, none⟩), .int .u64 o, .int .i64 wd, .int .u64 v] w fun e w' => e = .returned (.int .i64 (askV o wd 16)) ∧ w = w' := by
  have hn : (askV o wd 16 != 0) = true := by simpa using h
  have hz : (askV o wd 16 == 0) = false := by simpa using h
  have HA := fun W => Lib.hid (ask_any o wd 16 W h0)
  clear h h0
  generalize askV o wd 16 = E at *
  go_enter Tryd.func10, Tryd.ntmps10
  go_wp2_with fail
  refine (HA _).out.mono ?_
  rintro e w1 ⟨rfl, rfl⟩
  go_wp2_with fail
  go_ret
  exact ⟨rfl, rfl⟩
theorem c_store4 (g l m : Nat) (v : Int) (w : World) (hb : Bk w g 27 (cc l m)) :
    Calls Tryd.prog 10 #[.pointer (some ⟨g, 0, none⟩), .int .u64 4, .int .i64 4, .int .u64 v] w fun e w' => e = .returned (.int .i64 0) ∧ Bk w' g 27 (cc l (v % 4294967296).toNat) ∧ On g w w' := by
  have c1 := hb.cell 1
  have f1 := hb.free 1
  simp [cc] at c1
  obtain ⟨K, hK⟩ : ∃ K : Nat, v % 4294967296 = K := ⟨(v % 4294967296).toNat, by omega⟩
  have hs : Bk (w.setCell ⟨g, 1, none⟩ (.int .u32 (v % 4294967296))) g 27 (cc l (v % 4294967296).toNat) := by
    have := hb.set 1 (.int .u32 (v % 4294967296))
    rw [hK] at this ⊢
    exact this
  have HS := Lib.hid hs
  clear hs hb hK
  go_enter Tryd.func10, Tryd.ntmps10
  go_wp2_with fail
  refine (ask_any _ _ _ _ (by decide)).mono ?_
  rintro e w1 ⟨rfl, rfl⟩
  go_wp2_with fail
  go_ret
  exact ⟨rfl, HS.out, (On.refl g w).set 1 _⟩
theorem c_store_else (g : Nat) (o v : Int) (ho : o = 0 ∨ o = 8 ∨ o = 12) (w : World) :
    Calls Tryd.prog 10 #[.pointer (some ⟨g, 0, none⟩), .int .u64 o, .int .i64 4, .int .u64 v] w fun e w' => e = .returned (.int .i64 0) ∧ w = w' := by
  rcases ho with rfl | rfl | rfl <;>
  · go_enter Tryd.func10, Tryd.ntmps10
    go_wp2_with fail
    refine (ask_any _ _ _ _ (by decide)).mono ?_
    rintro e w1 ⟨rfl, rfl⟩
    go_wp2_with fail
    go_ret
    exact ⟨rfl, rfl⟩
/-- The lines behind Set. -/
def setL (l : Nat) (line : Int) (y : Bool) : Nat := if y then l ||| 2 ^ line.toNat else l &&& (4294967295 - 2 ^ line.toNat)
theorem setL_lt {l : Nat} {line : Int} {y : Bool} (hl : l < 4294967296) (h0 : 0 ≤ line) (h1 : line < 32) : setL l line y < 4294967296 := by
  unfold setL
  split
  · exact or32 hl (line_bit line h0 h1).2
  · exact and32 hl
set_option maxHeartbeats 800000 in
theorem c_set (g l m : Nat) (line : Int) (y : Bool) (hl : l < 4294967296) (w : World) (hb : Bk w g 27 (cc l m)) (h0 : 0 ≤ line) (h1 : line < 32) :
    Calls Tryd.prog 12 #[.pointer (some ⟨g, 0, none⟩), .int .i64 line, .bool y] w fun e w' => e = .returned (.int .i64 0) ∧ Bk w' g 27 (cc (setL l line y) m) ∧ On g w w' := by
  have c0 := hb.cell 0
  have f0 := hb.free 0
  simp [cc] at c0
  obtain ⟨hq1, hq2⟩ := line_bit line h0 h1
  unfold setL
  have hpow := hq1
  generalize hKv : 2 ^ line.toNat = K at *
  have ehi := high_now hl hq2
  have elo := low_now hl hq2
  rw [elo] at ehi
  have HB := Lib.hid hb
  have hs1 := Lib.hid (hb.set 0 (.int .u32 ((l ||| K : Nat) : Int)))
  have hs2 := Lib.hid (hb.set 0 (.int .u32 ((l &&& (4294967295 - K) : Nat) : Int)))
  clear hb hKv
  cases y
  · go_enter Tryd.func12, Tryd.ntmps12
    go_wp2_with fail
    go_region
    go_wp2_with fail
    go_ret
    exact ⟨rfl, hs2.out, ((On.refl g w).set 0 _).drew⟩
  · go_enter Tryd.func12, Tryd.ntmps12
    go_wp2_with fail
    go_region
    go_wp2_with fail
    go_region
    go_wp2_with fail
    go_ret
    exact ⟨rfl, ((HB.out.set 0 (.int .u32 ((l &&& (4294967295 - K) : Nat) : Int))).set 0 (.int .u32 ((l ||| K : Nat) : Int))).drew.drew, (((On.refl g w).set 0 _).set 0 _).drew.drew⟩
theorem c_bad_set (g : Nat) (line : Int) (y : Bool) (w : World) (h : ¬ (0 ≤ line ∧ line < 32)) :
    Calls Tryd.prog 12 #[.pointer (some ⟨g, 0, none⟩), .int .i64 line, .bool y] w fun e w' => e = .returned (.int .i64 1) ∧ w = w' := by
  by_cases h0 : 0 ≤ line
  · have hd : decide (line < 0) = false := decide_eq_false (by omega)
    have hd2 : decide (32 ≤ line) = true := decide_eq_true (by omega)
    go_enter Tryd.func12, Tryd.ntmps12
    go_wp2_with fail
    go_ret
    exact ⟨rfl, rfl⟩
  · have hd : decide (line < 0) = true := decide_eq_true (by omega)
    go_enter Tryd.func12, Tryd.ntmps12
    go_wp2_with fail
    go_ret
    exact ⟨rfl, rfl⟩
/-- The device's cells. -/
def dv (l m : Nat) : Array Value := #[.int .i64 7, .slice none 0 0, .slice none 0 0, .slice none 0 0, .bool false, .bool false, .int .u32 l, .int .u32 m, .int .u32 0, .int .u32 0, .int .u32 0, .int .u32 0, .int .u32 0, .int .u32 0]
theorem bit_of {x : Nat} (k : Nat) (hx : x < 4294967296) : Go.bits .and .u32 ((x : Int) / 2 ^ k) 1 = if x.testBit k then 1 else 0 := by
  have e : (x : Int) / 2 ^ k = ((x / 2 ^ k : Nat) : Int) := by simp
  rw [e, show (1 : Int) = ((1 : Nat) : Int) from rfl, u32_and_nat _ 1 (Nat.lt_of_le_of_lt (Nat.div_le_self _ _) hx) (by decide), Nat.and_one_is_mod, Nat.testBit_eq_decide_div_mod_eq]
  by_cases h : x / 2 ^ k % 2 = 1
  · simp [h]
  · have : x / 2 ^ k % 2 = 0 := by omega
    simp [this]
theorem nx_none {a : Nat} (h : a < 4294967296) (hn : ∀ i, i < 32 → a.testBit i = false) : nx a = 0 := by
  have : a = 0 := ext32 h (by decide) fun i hi => by rw [hn i hi]; simp
  subst this
  rfl
theorem nx_some {a k : Nat} (h : a < 4294967296) (_hk : k < 32) (hn : ∀ i, i < k → a.testBit i = false) (hb : a.testBit k = true) : nx a = k + 1 := by
  have h0 : a ≠ 0 := by rintro rfl; simp at hb
  unfold nx
  rw [if_neg h0]
  obtain ⟨m, hm, hlt⟩ := Lib.ctzFrom_spec 32 a (by omega) h
  have hc : Lib.ctz 32 a = Lib.ctzFrom 32 a := by unfold Lib.ctz; rw [if_neg h0]
  rw [hc]
  generalize Lib.ctzFrom 32 a = c at *
  have e : ∀ i, a.testBit i = (decide (c ≤ i) && (2 * m + 1).testBit (i - c)) := fun i => by
    rw [hm, Nat.mul_comm, Nat.testBit_mul_two_pow]
  have h1 : ¬ k < c := by
    intro hc
    rw [e k] at hb
    simp at hb
    omega
  have h2 : ¬ c < k := by
    intro hc
    have := hn c hc
    rw [e c] at this
    simp at this
  omega
theorem quiet_of_drew {P : Program} {f : FuncId} {args : Array Value} {w : World} {n : Nat} {v : Value}
    (h : Calls P f args (w.drewN n) fun e w' => e = .returned v ∧ ∃ k, w' = (w.drewN n).drewN k) : Calls P f args (w.drewN n) fun e w'' => e = .returned v ∧ ∃ m, w'' = w.drewN m :=
  h.mono fun _ _ ⟨he, k, hk⟩ => ⟨he, n + k, by rw [hk, drewN_two]⟩
theorem d_next (g l m : Nat) (hl : l < 4294967296) (hm : m < 4294967296) (w : World) (hb : Bk w g 32 (dv l m)) :
    Calls Tryd.prog 19 #[.pointer (some ⟨g, 0, none⟩)] w fun e w' => e = .returned (.int .u64 (nx (l &&& m))) ∧ ∃ k, w' = w.drewN k := by
  have c0 := hb.cell 6
  have c1 := hb.cell 7
  simp [dv] at c0 c1
  clear hb
  go_enter Tryd.func19, Tryd.ntmps19
  go_wp2_with fail
  go_loopw [4] (fun i wr => ∃ k n : Nat, i = .int .i64 k ∧ k ≤ 32 ∧ (∀ j, j < k → (l &&& m).testBit j = false) ∧ wr = w.drewN n) (fun i _ => 32 - (intOf i).toNat)
  case atStart => exact ⟨0, 0, rfl, by omega, fun j hj => absurd hj (by omega), rfl⟩
  case round =>
    obtain ⟨k, n, rfl, hk, hlow, rfl⟩ := hrel
    by_cases hlt : k < 32
    · have HL := Lib.hid hlow
      clear hlow
      have e1 := bit_of k hl
      have e2 := bit_of k hm
      have e3 := Lib.hid (Nat.testBit_and l m k)
      generalize l.testBit k = b1 at *
      generalize m.testBit k = b2 at *
      cases b1 <;> cases b2 <;> simp only [if_true, if_false, Bool.false_eq_true] at e1 e2
      case true.true =>
        go_wp2_with fail
        go_ret
        exact ⟨by rw [nx_some (and32 hl) hlt HL.out e3.out]; rfl, _, rfl⟩
      all_goals
        go_wp2_with fail
        refine ⟨⟨k + 1, n, by simp, by omega, fun j hj => ?_, rfl⟩, by simp [intOf]; omega⟩
        rcases Nat.lt_or_ge j k with h | h
        · exact HL.out j h
        · obtain rfl : j = k := by omega
          simpa using e3.out
    · have HX := Lib.hid (nx_none (and32 (b := m) hl) (fun i hi => hlow i (by omega)))
      clear hlow
      go_wp2_with fail
      go_ret
      exact ⟨by rw [HX.out]; rfl, _, rfl⟩
theorem d_high (g l m : Nat) (hl : l < 4294967296) (hm : m < 4294967296) (w : World) (hb : Bk w g 32 (dv l m)) :
    Calls Tryd.prog 14 #[.pointer (some ⟨g, 0, none⟩)] w fun e w' => e = .returned (.bool (decide (0 < nx (l &&& m)))) ∧ ∃ k, w' = w.drewN k := by
  have HN := d_next g l m hl hm w hb
  have hk := nx_le (and32 (b := m) hl)
  have c0 := hb.cell 0
  simp [dv] at c0
  clear hb
  generalize nx (l &&& m) = k at *
  by_cases h0 : 0 < k
  · have hd : decide (0 < (k : Int)) = true := decide_eq_true (by omega)
    rw [decide_eq_true h0]
    go_enter Tryd.func14, Tryd.ntmps14
    go_wp2_with fail
    refine HN.mono ?_
    rintro e w1 ⟨rfl, kk, rfl⟩
    go_wp2_with fail
    go_ret
    exact ⟨rfl, _, rfl⟩
  · have hd : decide (0 < (k : Int)) = false := decide_eq_false (by omega)
    rw [decide_eq_false h0]
    go_enter Tryd.func14, Tryd.ntmps14
    go_wp2_with fail
    refine HN.mono ?_
    rintro e w1 ⟨rfl, kk, rfl⟩
    go_wp2_with fail
    go_ret
    exact ⟨rfl, _, rfl⟩
set_option maxRecDepth 100000 in
set_option maxHeartbeats 1600000 in
theorem d_store4 (g l m v : Nat) (w : World) (hb : Bk w g 32 (dv l m)) :
    Calls Tryd.prog 11 #[.pointer (some ⟨g, 0, none⟩), .int .u64 4, .int .u32 v] w fun e w' => e = .returned (.tuple #[]) ∧ Bk w' g 32 (dv l v) ∧ On g w w' := by
  have c0 := hb.cell 0
  have c1 := hb.cell 7
  have f1 := hb.free 7
  simp [dv] at c0 c1
  have HB := Lib.hid hb
  clear hb
  go_enter Tryd.func11, Tryd.ntmps11
  go_wp2_with fail
  go_end0
  exact ⟨rfl, HB.out.set 7 _, (On.refl g w).set 7 _⟩
set_option maxRecDepth 100000 in
set_option maxHeartbeats 1600000 in
theorem d_store_else (g l m v : Nat) (o : Int) (ho : o = 0 ∨ o = 8 ∨ o = 12) (w : World) (hb : Bk w g 32 (dv l m)) :
    Calls Tryd.prog 11 #[.pointer (some ⟨g, 0, none⟩), .int .u64 o, .int .u32 v] w fun e w' => e = .returned (.tuple #[]) ∧ w = w' := by
  have c0 := hb.cell 0
  simp [dv] at c0
  clear hb
  rcases ho with rfl | rfl | rfl <;>
  · go_enter Tryd.func11, Tryd.ntmps11
    go_wp2_with fail
    go_end0
    exact ⟨rfl, rfl⟩
theorem idx4 (l m : Nat) (o : Int) (ho : o = 0 ∨ o = 4 ∨ o = 8 ∨ o = 12) (w : World) :
    (Instr.index 50 (.agg #[.int .u64 l, .int .u64 m, .int .u64 (nx (l &&& m)), .int .u64 0]) (.int .u64 (o / 4))).run Tryd.prog w = .ok (.int .u64 (ldV l m o)) w := by
  unfold ldV
  rcases ho with rfl | rfl | rfl | rfl <;> kernel_rfl
set_option maxRecDepth 100000 in
set_option maxHeartbeats 1600000 in
theorem d_load (g l m : Nat) (o : Int) (ho : o = 0 ∨ o = 4 ∨ o = 8 ∨ o = 12) (hl : l < 4294967296) (hm : m < 4294967296) (w : World) (hb : Bk w g 32 (dv l m)) :
    Calls Tryd.prog 9 #[.pointer (some ⟨g, 0, none⟩), .int .u64 o] w fun e w' => e = .returned (.int .u64 (ldV l m o)) ∧ ∃ k, w' = w.drewN k := by
  have HN := fun W hW => Lib.hid (d_next g l m hl hm W hW)
  have hk := nx_le (and32 (b := m) hl)
  have c0 := hb.cell 0
  have c6 := hb.cell 6
  have c7 := hb.cell 7
  simp [dv] at c0 c6 c7
  have HB := Lib.hid hb
  clear hb
  have hk' : nx (l &&& m) < 4294967296 := by omega
  have i4 := fun W => idx4 l m o ho W
  generalize ldV l m o = V at *
  generalize nx (l &&& m) = k at *
  have ho0 : 0 ≤ o := by omega
  have ho1 : o ≤ 12 := by omega
  clear ho
  go_enter Tryd.func9, Tryd.ntmps9
  go_wp2_with fail
  go_quiet ((go_at_call 19; exact quiet_of_drew (HN _ (HB.out.drewN _)).out))
  go_wp2_with fail
  go_ret
  exact ⟨rfl, _, rfl⟩
end Go.Proofs.YtdljlhjjonkfeaaDoor
