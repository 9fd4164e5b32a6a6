/- The UART and the reference's device side by side: what the law UartPlays does to them keeps them alike. Conditions: rows of the call's own, short; bytes are bytes. -/
import Derived.Test.YtlgjdakpdhemiaaDev
import Derived.Test.YtlgjdakpdhemiaaUaw
import Derived.Laws.Bits64b
import Derived.Deep.DeepCutAuto
import Derived.Deep.CutBlock
import Derived.Deep.RegionWith
namespace Go.Proofs.Ytlgjdakpdhemiaa
open Go.RowKit
section
variable {B g gd : Nat} {S1 S2 : Nat → Prop} {w w' : World} {i1 s1 i2 s2 i3 s3 : List Int} {l1 m1 l2 m2 l3 m3 : Bool}
theorem Da.chg {S : Nat → Prop} (h : Da B gd S2 w i2 s2 l2 m2) (hc : Chg S w w') (hd : ∀ k, S2 k → ¬ S k) : Da B gd S2 w' i2 s2 l2 m2 := by
  obtain ⟨vi, vo, hb, oi, oo, sg, si, so, hS⟩ := h
  exact ⟨vi, vo, hb.chg hc (hd _ sg), own_chg oi hc (fun k hk => hd _ (si k hk)), own_chg oo hc (fun k hk => hd _ (so k hk)), sg, si, so, fun k hk => ⟨(hS k hk).1, Nat.lt_of_lt_of_le (hS k hk).2 hc.size⟩⟩
theorem Ua.chg {S : Nat → Prop} (h : Ua B g S1 w i1 s1 l1 m1) (hc : Chg S w w') (hd : ∀ k, S1 k → ¬ S k) : Ua B g S1 w' i1 s1 l1 m1 := by
  obtain ⟨vi, vo, hb, oi, oo, hne, sg, si, so, hS⟩ := h
  exact ⟨vi, vo, hb.chg hc (hd _ sg), own_chg oi hc (fun k hk => hd _ (si k hk)), own_chg oo hc (fun k hk => hd _ (so k hk)), hne, sg, si, so, fun k hk => ⟨(hS k hk).1, Nat.lt_of_lt_of_le (hS k hk).2 hc.size⟩⟩
/-- The two of them, apart from each other. -/
def Two0 (B g gd : Nat) (w : World) (i1 s1 : List Int) (l1 m1 : Bool) (i2 s2 : List Int) (l2 m2 : Bool) : Prop :=
  ∃ S1 S2, Ua B g S1 w i1 s1 l1 m1 ∧ Da B gd S2 w i2 s2 l2 m2 ∧ ∀ k, S1 k → ¬ S2 k
/-- The same, beside a block x that is neither's. -/
def Two (B g gd x : Nat) (cs : Array Value) (w : World) (i1 s1 : List Int) (l1 m1 : Bool) (i2 s2 : List Int) (l2 m2 : Bool) : Prop :=
  ∃ S1 S2, Ua B g S1 w i1 s1 l1 m1 ∧ Da B gd S2 w i2 s2 l2 m2 ∧ (∀ k, S1 k → ¬ S2 k) ∧ ¬ S1 x ∧ ¬ S2 x ∧ Bk w x 50 cs
theorem Two.u {x : Nat} {cs : Array Value} (h : Two B g gd x cs w i1 s1 l1 m1 i2 s2 l2 m2) : ∃ S1, Ua B g S1 w i1 s1 l1 m1 ∧ ∀ w', UaTo B g S1 w i3 s3 l3 m3 w' → Two B g gd x cs w' i3 s3 l3 m3 i2 s2 l2 m2 := by
  obtain ⟨S1, S2, hu, hd, hs, h1x, h2x, hk⟩ := h
  refine ⟨S1, hu, fun w' h' => ?_⟩
  obtain ⟨S1', hu', hc, hn⟩ := h'
  have hlt : ∀ k, S2 k → k < w.heap.size := by
    obtain ⟨_, _, _, _, _, _, _, _, hS⟩ := hd
    exact fun k hk => (hS k hk).2
  refine ⟨S1', S2, hu', hd.chg hc (fun k h2 h1 => hs k h1 h2), fun k h1 h2 => ?_, fun hx => ?_, h2x, hk.chg hc h1x⟩
  · rcases hn k h1 with h | h
    · exact hs k h h2
    · have := hlt k h2; omega
  · rcases hn x hx with h | h
    · exact h1x h
    · have := hk.lt; omega
theorem Two.d {x : Nat} {cs : Array Value} (h : Two B g gd x cs w i1 s1 l1 m1 i2 s2 l2 m2) : ∃ S2, Da B gd S2 w i2 s2 l2 m2 ∧ ∀ w', DaTo B gd S2 w i3 s3 l3 m3 w' → Two B g gd x cs w' i1 s1 l1 m1 i3 s3 l3 m3 := by
  obtain ⟨S1, S2, hu, hd, hs, h1x, h2x, hk⟩ := h
  refine ⟨S2, hd, fun w' h' => ?_⟩
  obtain ⟨S2', hd', hc, hn⟩ := h'
  have hlt : ∀ k, S1 k → k < w.heap.size := by
    obtain ⟨_, _, _, _, _, _, _, _, _, hS⟩ := hu
    exact fun k hk => (hS k hk).2
  refine ⟨S1, S2', hu.chg hc (fun k h1 h2 => hs k h1 h2), hd', fun k h1 h2 => ?_, h1x, fun hx => ?_, hk.chg hc h2x⟩
  · rcases hn k h2 with h | h
    · exact hs k h1 h
    · have := hlt k h1; omega
  · rcases hn x hx with h | h
    · exact h2x h
    · have := hk.lt; omega
theorem Two.stays {x : Nat} {cs : Array Value} (h : Two B g gd x cs w i1 s1 l1 m1 i2 s2 l2 m2) (hb : Below w.heap.size w w') : Two B g gd x cs w' i1 s1 l1 m1 i2 s2 l2 m2 := by
  obtain ⟨S1, S2, hu, hd, hs, h1x, h2x, hk⟩ := h
  have hc : Chg (fun _ => False) w w' := (Chg.refl _ w).then_below hb
  exact ⟨S1, S2, hu.chg hc (fun _ _ h => h), hd.chg hc (fun _ _ h => h), hs, h1x, h2x, hk.below hb⟩
theorem Two0.stays (h : Two0 B g gd w i1 s1 l1 m1 i2 s2 l2 m2) (hb : Below w.heap.size w w') : Two0 B g gd w' i1 s1 l1 m1 i2 s2 l2 m2 := by
  obtain ⟨S1, S2, hu, hd, hs⟩ := h
  have hc : Chg (fun _ => False) w w' := (Chg.refl _ w).then_below hb
  exact ⟨S1, S2, hu.chg hc (fun _ _ h => h), hd.chg hc (fun _ _ h => h), hs⟩
theorem Two.zero {x : Nat} {cs : Array Value} (h : Two B g gd x cs w i1 s1 l1 m1 i2 s2 l2 m2) : Two0 B g gd w i1 s1 l1 m1 i2 s2 l2 m2 := by
  obtain ⟨S1, S2, hu, hd, hs, _⟩ := h
  exact ⟨S1, S2, hu, hd, hs⟩
theorem Two.blk {x : Nat} {cs : Array Value} (h : Two B g gd x cs w i1 s1 l1 m1 i2 s2 l2 m2) : Bk w x 50 cs := by
  obtain ⟨_, _, _, _, _, _, _, hk⟩ := h
  exact hk
theorem Two0.beside (h : Two0 B g gd w i1 s1 l1 m1 i2 s2 l2 m2) (cs : Array Value) : Two B g gd w.heap.size cs (w.alloc (.cells cs 50)) i1 s1 l1 m1 i2 s2 l2 m2 := by
  obtain ⟨S1, S2, hu, hd, hs⟩ := h
  have hc : Chg (fun _ => False) w (w.alloc (.cells cs 50)) := (Chg.refl _ w).alloc _
  have h1 : ∀ k, S1 k → k < w.heap.size := by
    obtain ⟨_, _, _, _, _, _, _, _, _, hS⟩ := hu
    exact fun k hk => (hS k hk).2
  have h2 : ∀ k, S2 k → k < w.heap.size := by
    obtain ⟨_, _, _, _, _, _, _, _, hS⟩ := hd
    exact fun k hk => (hS k hk).2
  exact ⟨S1, S2, hu.chg hc (fun _ _ h => h), hd.chg hc (fun _ _ h => h), hs, fun hx => by have := h1 _ hx; omega, fun hx => by have := h2 _ hx; omega, Bk.new _ _ _⟩
theorem DaTo.below {v : World} {i0 s0 : List Int} {l0 m0 : Bool} (h : DaTo B gd S2 w i2 s2 l2 m2 w') (h0 : Da B gd S2 w i0 s0 l0 m0) (hb : Below v.heap.size v w) (hB : v.heap.size ≤ B) :
    Below v.heap.size v w' := by
  obtain ⟨S', _, hc, _⟩ := h
  obtain ⟨_, _, _, _, _, _, _, _, hS⟩ := h0
  exact Chg.below hb hc hb.size (fun k hk => by have := (hS k hk).1; omega)
end
/-- A row of bytes as a text. -/
theorem own_str {w : World} {B n : Nat} {A : Option Addr} {c : Nat} {xs : List Int} (h : w.ownsRow B 5 1 (.slice A n c) n (bs xs)) :
    (convert 23 9 (.slice A n c)).run Try.prog w = .ok (.string (strOfNums xs)) w := by
  have hl : xs.length = n := by have := h.1; rw [bs_len, Nat.mul_one] at this; exact this
  rcases h.2 with ⟨e, h0⟩ | ⟨g, cap, cur, e, _⟩
  · have hx : xs = [] := List.eq_nil_of_length_eq_zero (by omega)
    injection e with e1 e2 e3
    subst e1 e3 hx
    rw [h0]
    exact run_convert_bytes_nil w 23 5 Try.underlying23 Try.underlying5 0 0 9 Try.underlying9
  · injection e with e1 e2 e3
    subst e1
    refine run_convert_bytes_arg w 23 5 Try.underlying23 Try.underlying5 g 0 n c xs hl (fun i hi => ?_) 9 Try.underlying9
    have hc := h.cells (g := g) rfl i (.int .u8 (xs.getD i 0)) (by simp [bs, List.getElem?_eq_getElem (show i < xs.length by omega), List.getD_eq_getElem?_getD])
    have ha : (⟨g, 0, none⟩ : Addr).add i = ⟨g, 0 + i, none⟩ := by unfold Addr.add; split <;> simp_all
    rw [ha] at hc
    exact hc
theorem two_bit (x : Int) (h0 : 0 ≤ x) (h1 : x ≤ 18446744073709551615) : (Go.bits .and .u64 x 2 == 0) = !(Go.bits .and .u32 (x % 4294967296) 2 == 2) := by
  obtain ⟨n, rfl⟩ := Int.eq_ofNat_of_zero_le h0
  have e1 := bits_and_u64_nat n 2 (by omega) (by decide)
  have e2 := u32_and_nat (n % 4294967296) 2 (by omega) (by decide)
  have e3 : ((n % 4294967296 : Nat) : Int) = (n : Int) % 4294967296 := by omega
  rw [e3] at e2
  rw [show (2 : Int) = ((2 : Nat) : Int) from rfl, e1, e2]
  have ht : ∀ m : Nat, m &&& 2 = if m.testBit 1 then 2 else 0 := by
    intro m
    apply Nat.eq_of_testBit_eq
    intro i
    rw [Nat.testBit_and]
    have h2 : (2 : Nat).testBit i = decide (1 = i) := by rw [show (2 : Nat) = 2 ^ 1 from rfl, Nat.testBit_two_pow]
    rw [h2]
    by_cases hi : 1 = i
    · subst hi
      cases m.testBit 1 <;> simp [h2]
    · cases m.testBit 1 <;> simp [hi, h2]
  have hm : (n % 4294967296).testBit 1 = n.testBit 1 := by
    rw [show 4294967296 = 2 ^ 32 from rfl, Nat.testBit_mod_two_pow]
    simp
  rw [ht, ht, hm]
  cases n.testBit 1 <;> decide
theorem mask_low (x : Int) (h0 : 0 ≤ x) (h1 : x ≤ 18446744073709551615) : Go.bits .and .u64 x 4294967295 = x % 4294967296 := by
  obtain ⟨n, rfl⟩ := Int.eq_ofNat_of_zero_le h0
  have := bits_and_u64_nat n 4294967295 (by omega) (by decide)
  rw [show ((4294967295 : Nat) : Int) = 4294967295 from rfl] at this
  rw [this, show (4294967295 : Nat) = 2 ^ 32 - 1 from rfl, Nat.and_two_pow_sub_one_eq_mod]
  omega
theorem one_bit (x : Int) (h0 : 0 ≤ x) (h1 : x ≤ 18446744073709551615) : (Go.bits .and .u64 x 1 == 1) = (x % 4294967296 % 2 == 1) := by
  rw [and_one_u64 x h0 h1]
  congr 1
  omega

set_option maxHeartbeats 400000 in
theorem uwrong_any (k o wd x n : Int) (y : Bool) (w : World) (h0 : 0 ≤ o) :
    Calls Try.prog 18 #[.agg #[.int .u8 k, .int .u64 o, .int .i64 wd, .int .u64 x, .int .i64 n, .bool y]] w fun e w' => e = .returned (.int .i64 (askV o wd 16)) ∧ Below w.heap.size w w' := by
  unfold askV
  by_cases h1 : 16 ≤ o
  · rw [if_pos h1]
    go_enter Try.func18, Try.ntmps18
    go_wp2
    go_ret
    exact ⟨rfl, by repeat (first | exact Below.refl _ _ | apply Below.drew | apply bw_alloc)⟩
  · rw [if_neg h1]
    have h1' : decide (16 ≤ o) = false := decide_eq_false h1
    by_cases h2 : wd = 4
    · have h2' : (wd != 4) = false := by simp [h2]
      by_cases h3 : o % 4 = 0
      · rw [if_neg (by simp [h2, h3])]
        have h3' : (o % 4 != 0) = false := by simp [h3]
        clear h2 h3
        go_enter Try.func18, Try.ntmps18
        go_wp2
        go_ret
        exact ⟨rfl, by repeat (first | exact Below.refl _ _ | apply Below.drew | apply bw_alloc)⟩
      · rw [if_pos (by simp [h3])]
        have h3' : (o % 4 != 0) = true := by simp [h3]
        clear h2 h3
        go_enter Try.func18, Try.ntmps18
        go_wp2
        go_ret
        exact ⟨rfl, by repeat (first | exact Below.refl _ _ | apply Below.drew | apply bw_alloc)⟩
    · rw [if_pos (by simp [h2])]
      have h2' : (wd != 4) = true := by simp [h2]
      go_enter Try.func18, Try.ntmps18
      go_wp2
      go_ret
      exact ⟨rfl, by repeat (first | exact Below.refl _ _ | apply Below.drew | apply bw_alloc)⟩
/-- What the two hold, both the same. -/
structure Holds (B g gd k : Nat) (v w : World) : Prop where
  it : ∃ (ins sent : List Int) (lost may : Bool), Two0 B g gd w ins sent lost may ins sent lost may ∧ ins.length ≤ 16 ∧ sent.length ≤ k ∧ ∀ x ∈ ins, 0 ≤ x ∧ x ≤ 255
  below : Below v.heap.size v w
theorem Holds.stays {B g gd k : Nat} {v w w' : World} (h : Holds B g gd k v w) (hb : Below w.heap.size w w') : Holds B g gd k v w' := by
  obtain ⟨⟨ins, sent, lost, may, ht, h1, h2, h3⟩, hbl⟩ := h
  exact ⟨⟨ins, sent, lost, may, ht.stays hb, h1, h2, h3⟩, bw_trans hbl hb⟩
theorem Holds.drewN {B g gd k : Nat} {v w : World} (h : Holds B g gd k v w) (n : Nat) : Holds B g gd k v (w.drewN n) := h.stays (bw_drewN (Below.refl _ _) n)
theorem Holds.drew {B g gd k : Nat} {v w : World} (h : Holds B g gd k v w) : Holds B g gd k v w.drew := h.stays (Below.refl _ _).drew
theorem two_new (w : World) (B : Nat) (hB : B ≤ w.heap.size) :
    Two0 B w.heap.size (w.heap.size + 1) ((w.alloc (.cells #[.slice none 0 0, .slice none 0 0, .bool false, .bool false] 38)).alloc (.cells (dc (.slice none 0 0) (.slice none 0 0) false false) 49)) [] [] false false [] [] false false := by
  have h1 := ua_new_at B w hB
  have hc : Chg (fun _ => False) (w.alloc (.cells #[.slice none 0 0, .slice none 0 0, .bool false, .bool false] 38)) ((w.alloc (.cells #[.slice none 0 0, .slice none 0 0, .bool false, .bool false] 38)).alloc (.cells (dc (.slice none 0 0) (.slice none 0 0) false false) 49)) := (Chg.refl _ _).alloc _
  refine ⟨fun k => k = w.heap.size, fun k => k = w.heap.size + 1, h1.chg hc (fun _ _ h => h), ⟨_, _, ?_, World.ownsRow_nil _ _ _ _, World.ownsRow_nil _ _ _ _, rfl, fun k hk => by simp [Value.ownBlock] at hk, fun k hk => by simp [Value.ownBlock] at hk, fun k hk => by subst hk; simp; omega⟩, fun k h1 h2 => by omega⟩
  have := Bk.new (w.alloc (.cells #[.slice none 0 0, .slice none 0 0, .bool false, .bool false] 38)) 49 (dc (.slice none 0 0) (.slice none 0 0) false false)
  rw [World.size_alloc] at this
  exact this

section
variable {B g gd bx : Nat} {cs : Array Value} {v w : World} {ins sent : List Int} {lost may : Bool}
def ldV (ins : List Int) (lost may : Bool) (o : Int) : Int := if o = 0 then ins.headD 0 else if o = 4 then b2n (decide (0 < ins.length)) + 2 * b2n lost else if o = 8 then b2n may else ins.length
def ldI (ins : List Int) (o : Int) : List Int := if o = 0 then ins.tail else ins
theorem two_load_u (o : Int) (h : Two B g gd bx cs w ins sent lost may ins sent lost may) (hb : Below v.heap.size v w) (hB : v.heap.size ≤ B) (h16 : ins.length ≤ 16) (hr : ∀ x ∈ ins, 0 ≤ x ∧ x ≤ 255) (ho : o = 0 ∨ o = 4 ∨ o = 8 ∨ o = 12) :
    Calls Try.prog 14 #[.pointer (some ⟨g, 0, none⟩), .int .u64 o, .int .i64 4] w fun e w' => e = .returned (.tuple #[.int .u64 (ldV ins lost may o), .int .i64 0]) ∧
      Two B g gd bx cs w' (ldI ins o) sent lost may ins sent lost may ∧ Below v.heap.size v w' := by
  rcases ho with rfl | rfl | rfl | rfl
  · cases ins with
    | nil =>
      obtain ⟨S1, S2, hu, hd, hs, hr3⟩ := h
      refine (ua_load0_none B g S1 w sent lost may hu).mono ?_
      rintro e w' ⟨rfl, rfl⟩
      exact ⟨rfl, ⟨S1, S2, hu, hd, hs, hr3⟩, hb⟩
    | cons x xs =>
      obtain ⟨S1, hu, ht⟩ := h.u (i3 := xs) (s3 := sent) (l3 := lost) (m3 := may)
      refine (ua_load0_some B g S1 w x xs sent lost may hu (hr x (by simp)) (by simp at h16; omega)).mono ?_
      rintro e w' ⟨rfl, h1⟩
      exact ⟨rfl, ht w' h1, h1.below hu hb hB⟩
  · obtain ⟨S1, hu, ht⟩ := h.u (i3 := ins) (s3 := sent) (l3 := lost) (m3 := may)
    refine (ua_load4 B g S1 w ins sent lost may hu).mono ?_
    rintro e w' ⟨rfl, h1⟩
    exact ⟨rfl, ht w' h1, h1.below hu hb hB⟩
  · obtain ⟨S1, hu, ht⟩ := h.u (i3 := ins) (s3 := sent) (l3 := lost) (m3 := may)
    refine (ua_load8 B g S1 w ins sent lost may hu).mono ?_
    rintro e w' ⟨rfl, h1⟩
    exact ⟨rfl, ht w' h1, h1.below hu hb hB⟩
  · obtain ⟨S1, hu, ht⟩ := h.u (i3 := ins) (s3 := sent) (l3 := lost) (m3 := may)
    refine (ua_load12 B g S1 w ins sent lost may hu (by omega)).mono ?_
    rintro e w' ⟨rfl, h1⟩
    exact ⟨rfl, ht w' h1, h1.below hu hb hB⟩
theorem two_load_d (o : Int) (h : Two B g gd bx cs w (ldI ins o) sent lost may ins sent lost may) (hb : Below v.heap.size v w) (hB : v.heap.size ≤ B) (h16 : ins.length ≤ 16) (hr : ∀ x ∈ ins, 0 ≤ x ∧ x ≤ 255) (ho : o = 0 ∨ o = 4 ∨ o = 8 ∨ o = 12) :
    Calls Try.prog 19 #[.pointer (some ⟨gd, 0, none⟩), .int .u64 o] w fun e w' => e = .returned (.int .u64 (ldV ins lost may o)) ∧
      Two B g gd bx cs w' (ldI ins o) sent lost may (ldI ins o) sent lost may ∧ Below v.heap.size v w' := by
  obtain ⟨S2, hd, ht⟩ := h.d (i3 := ldI ins o) (s3 := sent) (l3 := lost) (m3 := may)
  rcases ho with rfl | rfl | rfl | rfl
  · cases ins with
    | nil =>
      refine (da_load0_none B gd S2 w sent lost may hd).mono ?_
      rintro e w' ⟨rfl, h1⟩
      exact ⟨rfl, ht w' h1, h1.below hd hb hB⟩
    | cons x xs =>
      refine (da_load0_some B gd S2 w x xs sent lost may hd (hr x (by simp)) (by simp at h16; omega)).mono ?_
      rintro e w' ⟨rfl, h1⟩
      exact ⟨rfl, ht w' h1, h1.below hd hb hB⟩
  · refine (da_load4 B gd S2 w ins sent lost may hd).mono ?_
    rintro e w' ⟨rfl, h1⟩
    exact ⟨rfl, ht w' h1, h1.below hd hb hB⟩
  · refine (da_load8 B gd S2 w ins sent lost may hd).mono ?_
    rintro e w' ⟨rfl, h1⟩
    exact ⟨rfl, ht w' h1, h1.below hd hb hB⟩
  · refine (da_load12 B gd S2 w ins sent lost may hd (by omega)).mono ?_
    rintro e w' ⟨rfl, h1⟩
    exact ⟨rfl, ht w' h1, h1.below hd hb hB⟩
def stS (sent : List Int) (o x : Int) : List Int := if o = 0 then sent ++ [x % 256] else sent
def stL (lost : Bool) (o x : Int) : Bool := if o = 4 then lost && (Go.bits .and .u64 x 2 == 0) else lost
def stM (may : Bool) (o x : Int) : Bool := if o = 8 then Go.bits .and .u64 x 1 == 1 else may
theorem two_store_u (o x : Int) (h : Two B g gd bx cs w ins sent lost may ins sent lost may) (hb : Below v.heap.size v w) (hB : v.heap.size ≤ B) (hl : sent.length < 100000) (ho : o = 0 ∨ o = 4 ∨ o = 8 ∨ o = 12) :
    Calls Try.prog 15 #[.pointer (some ⟨g, 0, none⟩), .int .u64 o, .int .i64 4, .int .u64 x] w fun e w' => e = .returned (.int .i64 0) ∧
      Two B g gd bx cs w' ins (stS sent o x) (stL lost o x) (stM may o x) ins sent lost may ∧ Below v.heap.size v w' := by
  obtain ⟨S1, hu, ht⟩ := h.u (i3 := ins) (s3 := stS sent o x) (l3 := stL lost o x) (m3 := stM may o x)
  rcases ho with rfl | rfl | rfl | rfl
  · refine (ua_store0 B g S1 w ins sent lost may x hu hl).mono ?_
    rintro e w' ⟨rfl, h1⟩
    exact ⟨rfl, ht w' h1, h1.below hu hb hB⟩
  · refine (ua_store4 B g S1 w ins sent lost may x hu).mono ?_
    rintro e w' ⟨rfl, h1⟩
    exact ⟨rfl, ht w' h1, h1.below hu hb hB⟩
  · refine (ua_store8 B g S1 w ins sent lost may x hu).mono ?_
    rintro e w' ⟨rfl, h1⟩
    exact ⟨rfl, ht w' h1, h1.below hu hb hB⟩
  · refine (ua_store12 B g S1 w ins sent lost may x hu).mono ?_
    rintro e w' ⟨rfl, h1⟩
    exact ⟨rfl, ht w' h1, h1.below hu hb hB⟩
theorem two_store_d (o x : Int) (hx0 : 0 ≤ x) (hx1 : x ≤ 18446744073709551615) (h : Two B g gd bx cs w ins (stS sent o x) (stL lost o x) (stM may o x) ins sent lost may) (hb : Below v.heap.size v w) (hB : v.heap.size ≤ B) (hl : sent.length < 100000) (ho : o = 0 ∨ o = 4 ∨ o = 8 ∨ o = 12) :
    Calls Try.prog 20 #[.pointer (some ⟨gd, 0, none⟩), .int .u64 o, .int .u32 (x % 4294967296)] w fun e w' => e = .returned (.tuple #[]) ∧
      Two B g gd bx cs w' ins (stS sent o x) (stL lost o x) (stM may o x) ins (stS sent o x) (stL lost o x) (stM may o x) ∧ Below v.heap.size v w' := by
  obtain ⟨S2, hd, ht⟩ := h.d (i3 := ins) (s3 := stS sent o x) (l3 := stL lost o x) (m3 := stM may o x)
  rcases ho with rfl | rfl | rfl | rfl
  · refine (da_store0 B gd S2 w ins sent lost may (x % 4294967296) hd hl (by omega)).mono ?_
    rw [show x % 4294967296 % 256 = x % 256 by omega]
    rintro e w' ⟨rfl, h1⟩
    exact ⟨rfl, ht w' h1, h1.below hd hb hB⟩
  · refine (da_store4 B gd S2 w ins sent lost may (x % 4294967296) hd).mono ?_
    rw [← two_bit x hx0 hx1]
    rintro e w' ⟨rfl, h1⟩
    exact ⟨rfl, ht w' h1, h1.below hd hb hB⟩
  · refine (da_store8 B gd S2 w ins sent lost may (x % 4294967296) hd (by omega)).mono ?_
    rw [← one_bit x hx0 hx1]
    rintro e w' ⟨rfl, h1⟩
    exact ⟨rfl, ht w' h1, h1.below hd hb hB⟩
  · refine (da_store12 B gd S2 w ins sent lost may (x % 4294967296) hd).mono ?_
    rintro e w' ⟨rfl, h1⟩
    exact ⟨rfl, ht w' h1, h1.below hd hb hB⟩
def coI (ins : List Int) (b : Int) : List Int := if ins.length < 16 then ins ++ [b] else ins
def coL (ins : List Int) (lost : Bool) : Bool := if ins.length < 16 then lost else true
theorem two_come_u (b : Int) (h : Two B g gd bx cs w ins sent lost may ins sent lost may) (hb : Below v.heap.size v w) (hB : v.heap.size ≤ B) :
    Calls Try.prog 13 #[.pointer (some ⟨g, 0, none⟩), .int .u8 b] w fun e w' => e = .returned (.int .i64 (if ins.length < 16 then 0 else 20)) ∧
      Two B g gd bx cs w' (coI ins b) sent (coL ins lost) may ins sent lost may ∧ Below v.heap.size v w' := by
  obtain ⟨S1, hu, ht⟩ := h.u (i3 := coI ins b) (s3 := sent) (l3 := coL ins lost) (m3 := may)
  unfold coI coL at ht ⊢
  by_cases h16 : ins.length < 16
  · simp only [if_pos h16] at ht ⊢
    refine (ua_come_room B g S1 w ins sent lost may b hu h16).mono ?_
    rintro e w' ⟨rfl, h1⟩
    exact ⟨rfl, ht w' h1, h1.below hu hb hB⟩
  · simp only [if_neg h16] at ht ⊢
    refine (ua_come_full B g S1 w ins sent lost may b hu (by omega)).mono ?_
    rintro e w' ⟨rfl, h1⟩
    exact ⟨rfl, ht w' h1, h1.below hu hb hB⟩
theorem two_come_d (b : Int) (h : Two B g gd bx cs w (coI ins b) sent (coL ins lost) may ins sent lost may) (hb : Below v.heap.size v w) (hB : v.heap.size ≤ B) :
    Calls Try.prog 21 #[.pointer (some ⟨gd, 0, none⟩), .int .u8 b] w fun e w' => e = .returned (.bool (decide (ins.length < 16))) ∧
      Two B g gd bx cs w' (coI ins b) sent (coL ins lost) may (coI ins b) sent (coL ins lost) may ∧ Below v.heap.size v w' := by
  obtain ⟨S2, hd, ht⟩ := h.d (i3 := coI ins b) (s3 := sent) (l3 := coL ins lost) (m3 := may)
  unfold coI coL at ht ⊢
  by_cases h16 : ins.length < 16
  · simp only [if_pos h16, decide_eq_true h16] at ht ⊢
    refine (da_come_room B gd S2 w ins sent lost may b hd h16).mono ?_
    rintro e w' ⟨rfl, h1⟩
    exact ⟨rfl, ht w' h1, h1.below hd hb hB⟩
  · simp only [if_neg h16, decide_eq_false h16] at ht ⊢
    refine (da_come_full B gd S2 w ins sent lost may b hd (by omega)).mono ?_
    rintro e w' ⟨rfl, h1⟩
    exact ⟨rfl, ht w' h1, h1.below hd hb hB⟩
end
end Go.Proofs.Ytlgjdakpdhemiaa
