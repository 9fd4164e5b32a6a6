/- Plain laws of 32 bits: what is noted of a pin that becomes high. No program. Conditions: numbers below 2^32. -/
import Derived.Laws.BitsAllLaws
namespace Go.Proofs.YtdljlhjjonkfeaaDoor
open Go
theorem not_bit (b i : Nat) (hb : b < 4294967296) : (4294967295 - b).testBit i = (decide (i < 32) && !b.testBit i) := by
  have := Nat.testBit_two_pow_sub_succ (n := 32) (x := b) hb i
  rw [← this]
  congr 1
  have : (2 : Nat) ^ 32 = 4294967296 := by decide
  omega
theorem lt_bit {x i : Nat} (hx : x < 4294967296) (hi : ¬ i < 32) : x.testBit i = false :=
  Nat.testBit_lt_two_pow (Nat.lt_of_lt_of_le hx (by rw [show 4294967296 = 2 ^ 32 from rfl]; exact Nat.pow_le_pow_right (by decide) (by omega)))
theorem ext32 {x y : Nat} (hx : x < 4294967296) (hy : y < 4294967296) (h : ∀ i, i < 32 → x.testBit i = y.testBit i) : x = y :=
  Nat.eq_of_testBit_eq fun i => by
    by_cases hi : i < 32
    · exact h i hi
    · rw [lt_bit hx hi, lt_bit hy hi]
theorem and32 {a b : Nat} (ha : a < 4294967296) : a &&& b < 4294967296 := Nat.lt_of_le_of_lt Nat.and_le_left ha
theorem or32 {a b : Nat} (ha : a < 4294967296) (hb : b < 4294967296) : a ||| b < 4294967296 := Nat.or_lt_two_pow (n := 32) ha hb
theorem xor32 {a b : Nat} (ha : a < 4294967296) (hb : b < 4294967296) : a ^^^ b < 4294967296 := Nat.xor_lt_two_pow (n := 32) ha hb
/-- A line's bit. -/
theorem line_bit (line : Int) (_h0 : 0 ≤ line) (h1 : line < 32) : (2 : Int) ^ line.toNat % 4294967296 = ((2 ^ line.toNat : Nat) : Int) ∧ 2 ^ line.toNat < 4294967296 := by
  have h : line.toNat < 32 := by omega
  have hp : 2 ^ line.toNat < 4294967296 := by
    rw [show 4294967296 = 2 ^ 32 from rfl]
    exact Nat.pow_lt_pow_right (by decide) h
  refine ⟨?_, hp⟩
  have e : (2 : Int) ^ line.toNat = ((2 ^ line.toNat : Nat) : Int) := by simp
  rw [e]
  generalize 2 ^ line.toNat = a at *
  omega

def pinsV (x o h : Int) : Int := Go.bits .or .u32 (Go.bits .and .u32 o h) (Go.bits .andNot .u32 x h)
/-- What is noted behind a change from 'was' to 'now'. -/
def notedV (n was now e : Int) : Int := Go.bits .or .u32 n (Go.bits .and .u32 (Go.bits .andNot .u32 now was) e)
section
variable {x n e k : Nat} (hx : x < 4294967296) (hn : n < 4294967296) (he : e < 4294967296) (hk : k < 4294967296)
include hx
theorem pins_plain : pinsV (x : Int) 0 0 = x := by
  unfold pinsV
  rw [show Go.bits .and .u32 0 0 = ((0 : Nat) : Int) from by decide +kernel, show (0 : Int) = ((0 : Nat) : Int) from rfl, u32_andNot_nat x 0 hx (by decide), u32_or_nat 0 _ (by decide) (and32 hx)]
  congr 1
  rw [Nat.zero_or]
  exact ext32 (and32 hx) hx fun i hi => by rw [Nat.testBit_and, not_bit 0 i (by decide)]; simp [hi]
include hk
theorem high_now : Go.bits .or .u32 (Go.bits .andNot .u32 (x : Int) (k : Int)) (k : Int) = ((x ||| k : Nat) : Int) := by
  rw [u32_andNot_nat x k hx hk, u32_or_nat _ k (and32 hx) hk]
  congr 1
  exact ext32 (or32 (and32 hx) hk) (or32 hx hk) fun i hi => by
    rw [Nat.testBit_or, Nat.testBit_or, Nat.testBit_and, not_bit k i hk]
    cases x.testBit i <;> cases k.testBit i <;> simp [hi]
theorem or_now : Go.bits .or .u32 (x : Int) (k : Int) = ((x ||| k : Nat) : Int) := u32_or_nat x k hx hk
theorem low_now : Go.bits .andNot .u32 (x : Int) (k : Int) = ((x &&& (4294967295 - k) : Nat) : Int) := u32_andNot_nat x k hx hk
theorem low_law : Go.bits .and .u32 (x : Int) (Go.bits .xor .u32 4294967295 (k : Int)) = ((x &&& (4294967295 - k) : Nat) : Int) := by
  rw [show (4294967295 : Int) = ((4294967295 : Nat) : Int) from rfl, u32_xor_nat _ k (by decide) hk, u32_and_nat x _ hx (xor32 (by decide) hk)]
  congr 1
  exact ext32 (and32 hx) (and32 hx) fun i hi => by
    rw [Nat.testBit_and, Nat.testBit_and, not_bit k i hk, Nat.testBit_xor]
    have : (4294967295 : Nat).testBit i = true := by
      rw [show (4294967295 : Nat) = 2 ^ 32 - 1 from rfl, Nat.testBit_two_pow_sub_one]
      simp [hi]
    rw [this]
    cases k.testBit i <;> simp [hi]
theorem and_law : Go.bits .and .u32 (x : Int) (k : Int) = ((x &&& k : Nat) : Int) := u32_and_nat x k hx hk
include hn he
theorem noted_low : notedV (n : Int) (x : Int) ((x &&& (4294967295 - k) : Nat) : Int) (e : Int) = n := by
  unfold notedV
  rw [u32_andNot_nat _ x (and32 hx) hx, u32_and_nat _ e (and32 (and32 hx)) he, u32_or_nat n _ hn (and32 (and32 (and32 hx)))]
  congr 1
  exact ext32 (or32 hn (and32 (and32 (and32 hx)))) hn fun i hi => by
    simp only [Nat.testBit_or, Nat.testBit_and, not_bit x i hx, not_bit k i hk]
    cases x.testBit i <;> simp
theorem noted_new (h : x &&& k = 0) : notedV (n : Int) (x : Int) ((x ||| k : Nat) : Int) (e : Int) = ((n ||| (k &&& e) : Nat) : Int) := by
  unfold notedV
  rw [u32_andNot_nat _ x (or32 hx hk) hx, u32_and_nat _ e (and32 (or32 hx hk)) he, u32_or_nat n _ hn (and32 (and32 (or32 hx hk)))]
  congr 1
  exact ext32 (or32 hn (and32 (and32 (or32 hx hk)))) (or32 hn (and32 hk)) fun i hi => by
    have hb : (x &&& k).testBit i = false := by rw [h]; simp
    rw [Nat.testBit_and] at hb
    simp only [Nat.testBit_or, Nat.testBit_and, not_bit x i hx]
    revert hb
    cases x.testBit i <;> cases k.testBit i <;> simp [hi]
theorem noted_old (j : Nat) (hj : k = 2 ^ j) (h : ¬ x &&& k = 0) : notedV (n : Int) (x : Int) ((x ||| k : Nat) : Int) (e : Int) = n := by
  have hxk : x ||| k = x := by
    have hb : x.testBit j = true := by
      rcases hxj : x.testBit j with _ | _
      · exfalso
        apply h
        exact ext32 (and32 hx) (by decide) fun i _ => by
          rw [Nat.testBit_and, hj, Nat.testBit_two_pow]
          by_cases hij : j = i
          · subst hij; simp [hxj]
          · simp [hij]
      · rfl
    exact ext32 (or32 hx hk) hx fun i _ => by
      rw [Nat.testBit_or, hj, Nat.testBit_two_pow]
      by_cases hij : j = i
      · subst hij; simp [hb]
      · simp [hij]
  rw [hxk]
  unfold notedV
  rw [u32_andNot_nat x x hx hx, u32_and_nat _ e (and32 hx) he, u32_or_nat n _ hn (and32 (and32 hx))]
  congr 1
  exact ext32 (or32 hn (and32 (and32 hx))) hn fun i hi => by
    simp only [Nat.testBit_or, Nat.testBit_and, not_bit x i hx]
    cases x.testBit i <;> simp
end
theorem noted_same {x n e : Nat} (hx : x < 4294967296) (hn : n < 4294967296) (he : e < 4294967296) : notedV (n : Int) (x : Int) (x : Int) (e : Int) = n := by
  unfold notedV
  rw [u32_andNot_nat x x hx hx, u32_and_nat _ e (and32 hx) he, u32_or_nat n _ hn (and32 (and32 hx))]
  congr 1
  exact ext32 (or32 hn (and32 (and32 hx))) hn fun i hi => by
    simp only [Nat.testBit_or, Nat.testBit_and, not_bit x i hx]
    cases x.testBit i <;> simp
theorem strike_self {n : Nat} (hn : n < 4294967296) : Go.bits .andNot .u32 (n : Int) (n : Int) = ((0 : Nat) : Int) := by
  rw [u32_andNot_nat n n hn hn]
  congr 1
  exact ext32 (and32 hn) (by decide) fun i hi => by
    rw [Nat.testBit_and, not_bit n i hn]
    cases n.testBit i <;> simp
end Go.Proofs.YtdljlhjjonkfeaaDoor
