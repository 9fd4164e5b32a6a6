/- Contracts of the words (layer 1) that read: part, number, Get, Get64, and the reference's Number. Conditions: rows of bytes. -/
import Derived.Test.YtamjlknfgppofaaMem
import Derived.Laws.BitsAllLaws
import Derived.Laws.Cover3
namespace Go.Proofs.Ytamjlknfgppofaa
open Go.RowKit
set_option linter.unusedVariables false
set_option linter.unusedSimpArgs false
def stp (v c : Int) : Int := (v * 256 + c) % 18446744073709551616
def num (xs : List Int) : Int := xs.foldl stp 0
def Bytes (xs : List Int) : Prop := ∀ x ∈ xs, 0 ≤ x ∧ x ≤ 255
theorem take_next {xs : List Int} {k : Nat} (h : k < xs.length) : num (xs.take (k + 1)) = stp (num (xs.take k)) (xs.getD k 0) := by
  unfold num
  rw [List.take_add_one, List.foldl_append, List.getElem?_eq_getElem h, List.getD_eq_getElem?_getD, List.getElem?_eq_getElem h]
  rfl
theorem num_range (xs : List Int) : 0 ≤ num xs ∧ num xs < 18446744073709551616 := by
  have h : ∀ k, k ≤ xs.length → 0 ≤ num (xs.take k) ∧ num (xs.take k) < 18446744073709551616 := by
    intro k
    induction k with
    | zero => intro _; simp [num]
    | succ k ih => intro hk; rw [take_next (by omega)]; unfold stp; omega
  have := h xs.length (Nat.le_refl _)
  rwa [List.take_length] at this
theorem or_stp (v c : Int) (h0 : 0 ≤ v) (h1 : v < 18446744073709551616) (c0 : 0 ≤ c) (c1 : c ≤ 255) : Go.bits .or .u64 (IntKind.u64.wrap (v * 256)) c = stp v c := by
  obtain ⟨a, rfl⟩ := Int.eq_ofNat_of_zero_le h0
  obtain ⟨b, rfl⟩ := Int.eq_ofNat_of_zero_le c0
  have e : IntKind.u64.wrap ((a : Int) * 256) = ((2 ^ 8 * (a % 72057594037927936) : Nat) : Int) := by rw [IntKind.wrap_u64]; omega
  rw [e, u64_or_nat _ b (by omega) (by omega), ← Nat.two_pow_add_eq_or_of_lt (by omega)]
  unfold stp
  omega
theorem number_nil (w : World) : Calls Try.prog 22 #[.slice none 0 0] w fun e w' => e = .returned (.int .u64 0) ∧ w = w' := by
  go_enter Try.func22, Try.ntmps22
  go_wp2_with fail
  go_loopw [3, 8] (fun v i wr => v = .int .u64 0 ∧ i = .int .i64 0 ∧ wr = w) (fun _ _ _ => 0)
  case atStart => exact ⟨rfl, rfl, rfl⟩
  case round =>
    obtain ⟨rfl, rfl, rfl⟩ := hrel
    go_wp2_with fail
    go_ret
    exact ⟨rfl, rfl⟩
theorem number_some {w : World} (ad : Addr) (c : Nat) (xs : List Int) (hc : ∀ i, i < xs.length → w.cell? (ad.add i) = some (.int .u8 (xs.getD i 0))) (hb : Bytes xs) (hm : xs.length ≤ maxLen) :
    Calls Try.prog 22 #[.slice (some ad) xs.length c] w fun e w' => e = .returned (.int .u64 (num xs)) ∧ w = w' := by
  have HC := Lib.hid hc
  clear hc
  go_enter Try.func22, Try.ntmps22
  go_wp2_with fail
  unfold maxLen at hm
  go_loopw [3, 8] (fun v i wr => ∃ k : Nat, v = .int .u64 (num (xs.take k)) ∧ i = .int .i64 k ∧ k ≤ xs.length ∧ wr = w) (fun _ i _ => xs.length - (intOf i).toNat)
  case atStart => exact ⟨0, rfl, rfl, by omega, rfl⟩
  case round =>
    obtain ⟨k, rfl, rfl, hk, rfl⟩ := hrel
    by_cases hlt : k < xs.length
    · have c0 := HC.out k hlt
      have hx := hb (xs.getD k 0) (by rw [List.getD_eq_getElem?_getD, List.getElem?_eq_getElem hlt]; exact List.getElem_mem hlt)
      have HN := Lib.hid (take_next hlt)
      have hr := num_range (xs.take k)
      generalize xs.getD k 0 = b at *
      generalize num (xs.take k) = v at *
      have hor := or_stp v b hr.1 hr.2 hx.1 hx.2
      have hst : 0 ≤ stp v b ∧ stp v b < 18446744073709551616 := by unfold stp; omega
      obtain ⟨hx0, hx1⟩ := hx
      generalize xs.length = L at *
      go_wp2_with fail
      refine ⟨⟨k + 1, ?_, by simp, by omega, trivial⟩, by simp [intOf]; omega⟩
      rw [HN.out]
    · obtain rfl : k = xs.length := by omega
      rw [List.take_length]
      go_wp2_with fail
      go_ret
      exact ⟨rfl, rfl⟩
theorem part_good (ad : Addr) (l c at' n : Nat) (hn : 0 < n) (h : at' + n ≤ l) (hl : l ≤ c) (hc : c ≤ maxLen) (w : World) :
    Calls Try.prog 19 #[.slice (some ad) l c, .int .i64 at', .int .i64 n] w fun e w' => e = .returned (.slice (some (ad.add at')) n (c - at')) ∧ w = w' := by
  unfold maxLen at hc
  have d1 : decide ((at' : Int) < 0) = false := decide_eq_false (by omega)
  have d2 : decide ((l : Int) < at') = false := decide_eq_false (by omega)
  have d3 : decide ((l : Int) - at' < n) = false := decide_eq_false (by omega)
  go_enter Try.func19, Try.ntmps19
  go_wp2_with fail
  go_ret
  exact ⟨by rw [show at' + n - at' = n from by omega]; rfl, rfl⟩
theorem part_low (A : Option Addr) (l c : Nat) (p n : Int) (h : p < 0) (w : World) :
    Calls Try.prog 19 #[.slice A l c, .int .i64 p, .int .i64 n] w fun e w' => e = .returned (.slice none 0 0) ∧ w = w' := by
  have d1 : decide (p < 0) = true := decide_eq_true h
  go_enter Try.func19, Try.ntmps19
  go_wp2_with fail
  go_ret
  exact ⟨rfl, rfl⟩
theorem part_high (A : Option Addr) (l c p n : Nat) (h : l < p + n) (w : World) (hm : l ≤ maxLen) (hp : p ≤ 9223372036854775807) :
    Calls Try.prog 19 #[.slice A l c, .int .i64 p, .int .i64 n] w fun e w' => e = .returned (.slice none 0 0) ∧ w = w' := by
  unfold maxLen at hm
  have d1 : decide ((p : Int) < 0) = false := decide_eq_false (by omega)
  by_cases h2 : l < p
  · have d2 : decide ((l : Int) < p) = true := decide_eq_true (by omega)
    go_enter Try.func19, Try.ntmps19
    go_wp2_with fail
    go_ret
    exact ⟨rfl, rfl⟩
  · have d2 : decide ((l : Int) < p) = false := decide_eq_false (by omega)
    have d3 : decide ((l : Int) - p < n) = true := decide_eq_true (by omega)
    go_enter Try.func19, Try.ntmps19
    go_wp2_with fail
    go_ret
    exact ⟨rfl, rfl⟩
/-- The numbers at a place. -/
def at4 (xs : List Int) (p n : Nat) : List Int := (xs.drop p).take n
theorem at4_len {xs : List Int} {p n : Nat} (h : p + n ≤ xs.length) : (at4 xs p n).length = n := by simp [at4]; omega
theorem at4_get {xs : List Int} {p n i : Nat} (hi : i < n) : (at4 xs p n).getD i 0 = xs.getD (p + i) 0 := by
  simp [at4, List.getD_eq_getElem?_getD, hi, List.getElem?_drop]
theorem at4_bytes {xs : List Int} {p n : Nat} (hb : Bytes xs) : Bytes (at4 xs p n) := fun x hx => hb x (List.mem_of_mem_drop (List.mem_of_mem_take hx))
def RowAt (w : World) (ad : Addr) (xs : List Int) : Prop := ∀ i, i < xs.length → w.cell? (ad.add i) = some (.int .u8 (xs.getD i 0))
theorem add_add (ad : Addr) (i j : Nat) : (ad.add i).add j = ad.add (i + j) := by
  unfold Addr.add
  by_cases hi : i = 0 <;> by_cases hj : j = 0 <;> simp [hi, hj]
  · omega
theorem RowAt.part {w : World} {ad : Addr} {xs : List Int} {p n : Nat} (h : RowAt w ad xs) (hp : p + n ≤ xs.length) : RowAt w (ad.add p) (at4 xs p n) := by
  intro i hi
  rw [at4_len hp] at hi
  rw [add_add, at4_get hi]
  exact h (p + i) (by omega)
theorem num_small {xs : List Int} (hb : Bytes xs) (h : xs.length = 4) : num xs < 4294967296 := by
  match xs, h with
  | [a, b, c, d], _ =>
    have ha := hb a (by simp)
    have hbb := hb b (by simp)
    have hc := hb c (by simp)
    have hd := hb d (by simp)
    simp only [num, List.foldl, stp]
    omega
theorem get_bad (f : Nat) (n : Int) (hf : f = 16 ∧ n = 4) (A : Option Addr) (l c : Nat) (p : Int) (w : World) (hp : Calls Try.prog 19 #[.slice A l c, .int .i64 p, .int .i64 n] w fun e w' => e = .returned (.slice none 0 0) ∧ w = w') :
    Calls Try.prog f #[.slice A l c, .int .i64 p] w fun e w' => e = .returned (.tuple #[.int .u32 0, .bool false]) ∧ w = w' := by
  obtain ⟨rfl, rfl⟩ := hf
  go_enter Try.func16, Try.ntmps16
  go_wp2_with fail
  refine hp.mono ?_
  rintro e w1 ⟨rfl, rfl⟩
  go_wp2_with fail
  refine (number_nil _).mono ?_
  rintro e w1 ⟨rfl, rfl⟩
  go_wp2_with fail
  go_ret2
  exact ⟨rfl, rfl⟩
theorem get_good (ad : Addr) (l c p : Nat) (xs : List Int) (hl : xs.length = l) (hlc : l ≤ c) (hc : c ≤ maxLen) (h : p + 4 ≤ l) (w : World) (hr : RowAt w ad xs) (hb : Bytes xs) :
    Calls Try.prog 16 #[.slice (some ad) l c, .int .i64 p] w fun e w' => e = .returned (.tuple #[.int .u32 (num (at4 xs p 4)), .bool true]) ∧ w = w' := by
  subst hl
  have HN := number_some (w := w) (ad.add p) (c - p) (at4 xs p 4) (hr.part h) (at4_bytes hb) (by rw [at4_len h]; decide)
  rw [at4_len h] at HN
  have hs := num_small (at4_bytes (p := p) (n := 4) hb) (at4_len h)
  have h0 := (num_range (at4 xs p 4)).1
  have HP := part_good ad xs.length c p 4 (by decide) h hlc hc w
  generalize num (at4 xs p 4) = V at *
  generalize xs.length = L at *
  clear hr
  go_enter Try.func16, Try.ntmps16
  go_wp2_with fail
  refine HP.mono ?_
  rintro e w1 ⟨rfl, rfl⟩
  go_wp2_with fail
  refine HN.mono ?_
  rintro e w1 ⟨rfl, rfl⟩
  go_wp2_with fail
  go_ret2
  exact ⟨rfl, rfl⟩
theorem get64_bad (f : Nat) (n : Int) (hf : f = 17 ∧ n = 8) (A : Option Addr) (l c : Nat) (p : Int) (w : World) (hp : Calls Try.prog 19 #[.slice A l c, .int .i64 p, .int .i64 n] w fun e w' => e = .returned (.slice none 0 0) ∧ w = w') :
    Calls Try.prog f #[.slice A l c, .int .i64 p] w fun e w' => e = .returned (.tuple #[.int .u64 0, .bool false]) ∧ w = w' := by
  obtain ⟨rfl, rfl⟩ := hf
  go_enter Try.func17, Try.ntmps17
  go_wp2_with fail
  refine hp.mono ?_
  rintro e w1 ⟨rfl, rfl⟩
  go_wp2_with fail
  refine (number_nil _).mono ?_
  rintro e w1 ⟨rfl, rfl⟩
  go_wp2_with fail
  go_ret2
  exact ⟨rfl, rfl⟩
theorem get64_good (ad : Addr) (l c p : Nat) (xs : List Int) (hl : xs.length = l) (hlc : l ≤ c) (hc : c ≤ maxLen) (h : p + 8 ≤ l) (w : World) (hr : RowAt w ad xs) (hb : Bytes xs) :
    Calls Try.prog 17 #[.slice (some ad) l c, .int .i64 p] w fun e w' => e = .returned (.tuple #[.int .u64 (num (at4 xs p 8)), .bool true]) ∧ w = w' := by
  subst hl
  have HN := number_some (w := w) (ad.add p) (c - p) (at4 xs p 8) (hr.part h) (at4_bytes hb) (by rw [at4_len h]; decide)
  rw [at4_len h] at HN
  have hs := (num_range (at4 xs p 8)).2
  have h0 := (num_range (at4 xs p 8)).1
  have HP := part_good ad xs.length c p 8 (by decide) h hlc hc w
  generalize num (at4 xs p 8) = V at *
  generalize xs.length = L at *
  clear hr
  go_enter Try.func17, Try.ntmps17
  go_wp2_with fail
  refine HP.mono ?_
  rintro e w1 ⟨rfl, rfl⟩
  go_wp2_with fail
  refine HN.mono ?_
  rintro e w1 ⟨rfl, rfl⟩
  go_wp2_with fail
  go_ret2
  exact ⟨rfl, rfl⟩
theorem ref_bad (A : Option Addr) (l c : Nat) (p n : Int) (hm : l ≤ maxLen) (h : p < 0 ∨ (l : Int) < p + n) (hn : 0 ≤ n ∧ n ≤ 8) (w : World) :
    Calls Try.prog 12 #[.slice A l c, .int .i64 p, .int .i64 n] w fun e w' => e = .returned (.tuple #[.int .u64 0, .bool false]) ∧ w = w' := by
  unfold maxLen at hm
  by_cases h1 : p < 0
  · have d1 : decide (p < 0) = true := decide_eq_true h1
    go_enter Try.func12, Try.ntmps12
    go_wp2_with fail
    go_ret2
    exact ⟨rfl, rfl⟩
  · have d1 : decide (p < 0) = false := decide_eq_false h1
    by_cases h2 : (l : Int) < p
    · have d2 : decide ((l : Int) < p) = true := decide_eq_true h2
      go_enter Try.func12, Try.ntmps12
      go_wp2_with fail
      go_ret2
      exact ⟨rfl, rfl⟩
    · have d2 : decide ((l : Int) < p) = false := decide_eq_false h2
      have d3 : decide ((l : Int) - p < n) = true := decide_eq_true (by omega)
      go_enter Try.func12, Try.ntmps12
      go_wp2_with fail
      go_ret2
      exact ⟨rfl, rfl⟩
theorem ref_good (ad : Addr) (l c p n : Nat) (xs : List Int) (hl : xs.length = l) (hm : l ≤ maxLen) (h : p + n ≤ l) (hn : n ≤ 8) (w : World) (hr : RowAt w ad xs) (hb : Bytes xs) :
    Calls Try.prog 12 #[.slice (some ad) l c, .int .i64 p, .int .i64 n] w fun e w' => e = .returned (.tuple #[.int .u64 (num (at4 xs p n)), .bool true]) ∧ w = w' := by
  unfold maxLen at hm
  have d1 : decide ((p : Int) < 0) = false := decide_eq_false (by omega)
  have d2 : decide ((l : Int) < p) = false := decide_eq_false (by omega)
  have d3 : decide ((l : Int) - p < n) = false := decide_eq_false (by omega)
  have HR := Lib.hid hr
  have HB := Lib.hid hb
  have HL := Lib.hid hl
  clear hr hb hl
  have d4 : decide (l < p) = false := decide_eq_false (by omega)
  go_enter Try.func12, Try.ntmps12
  go_wp2_with fail
  go_loopw [8, 27] (fun v i wr => ∃ k : Nat, v = .int .u64 (num ((at4 xs p n).take k)) ∧ i = .int .i64 k ∧ k ≤ n ∧ wr = w) (fun _ i _ => n - (intOf i).toNat)
  case atStart => exact ⟨0, rfl, rfl, by omega, rfl⟩
  case round =>
    obtain ⟨k, rfl, rfl, hk, rfl⟩ := hrel
    by_cases hlt : k < n
    · have hla := at4_len (xs := xs) (p := p) (n := n) (by rw [HL.out]; exact h)
      have hx := at4_bytes (p := p) (n := n) HB.out ((at4 xs p n).getD k 0) (by rw [List.getD_eq_getElem?_getD, List.getElem?_eq_getElem (by rw [hla]; exact hlt)]; exact List.getElem_mem _)
      have HN := Lib.hid (take_next (xs := at4 xs p n) (k := k) (by rw [hla]; exact hlt))
      have c0 := HR.out (p + k) (by rw [HL.out]; omega)
      rw [← at4_get (n := n) hlt] at c0
      have hr := num_range ((at4 xs p n).take k)
      generalize (at4 xs p n).getD k 0 = b at *
      generalize num ((at4 xs p n).take k) = v at *
      have hst : (v * 256 % 18446744073709551616 + b) % 18446744073709551616 = stp v b := by unfold stp; omega
      have hst2 : IntKind.u64.wrap (IntKind.u64.wrap (v * 256) + b) = stp v b := by rw [IntKind.wrap_u64, IntKind.wrap_u64]; exact hst
      obtain ⟨hx0, hx1⟩ := hx
      clear hla
      go_wp2_with fail
      refine ⟨⟨k + 1, ?_, by simp, by omega, trivial⟩, by simp [intOf]; omega⟩
      rw [HN.out]
    · obtain rfl : k = n := by omega
      have hla := at4_len (xs := xs) (p := p) (n := k) (by rw [HL.out]; exact h)
      rw [List.take_of_length_le (by rw [hla]; exact Nat.le_refl _)]
      clear hla
      go_wp2_with fail
      go_ret2
      exact ⟨rfl, rfl⟩
end Go.Proofs.Ytamjlknfgppofaa
