/- Contracts of the words (layer 1) that find a text: Text, the reference's Text, Pad. Conditions: rows of bytes, short. -/
import Derived.Test.YtamjlknfgppofaaRef
import Derived.Lib.IndexLaws
import Derived.Lib.Strings
import Derived.Lib.BytesEntry
import Derived.Laws.Externs
namespace Go.Proofs.Ytamjlknfgppofaa
open Go.RowKit
set_option linter.unusedVariables false
set_option linter.unusedSimpArgs false
/-- Where the nought stands, counted from p; none: nowhere. -/
def Nought (xs : List Int) (p : Nat) : Option Nat → Prop
  | none => ∀ i, p ≤ i → i < xs.length → xs.getD i 0 ≠ 0
  | some q => p + q < xs.length ∧ xs.getD (p + q) 0 = 0 ∧ ∀ j, j < q → xs.getD (p + j) 0 ≠ 0
theorem byte_zero {xs : List Int} (hb : Bytes xs) (p i : Nat) (h : p + i < xs.length) : (Lib.bytesOf (xs.drop p))[i]? = some 0 ↔ xs.getD (p + i) 0 = 0 := by
  have hx := hb (xs[p + i]) (List.getElem_mem h)
  simp only [Lib.bytesOf, List.getElem?_map, List.getElem?_drop, List.getElem?_eq_getElem h, List.getD_eq_getElem?_getD, Option.map_some, Option.some.injEq, Option.getD_some]
  generalize xs[p + i] = x at *
  constructor
  · intro h0
    have h1 := congrArg UInt8.toNat h0
    simp at h1
    omega
  · intro h0
    rw [h0]
    rfl
theorem nought (xs : List Int) (p : Nat) (hb : Bytes xs) : ∃ r, Nought xs p r ∧ Lib.indexByte (Lib.bytesOf (xs.drop p)) 0 = match r with | none => -1 | some q => (q : Int) := by
  have hge := Lib.indexByte_ge (Lib.bytesOf (xs.drop p)) 0
  have hlen : (Lib.bytesOf (xs.drop p)).length = xs.length - p := by simp [Lib.bytesOf]
  by_cases hn : Lib.indexByte (Lib.bytesOf (xs.drop p)) 0 = -1
  · refine ⟨none, fun i h1 h2 h0 => ?_, hn⟩
    refine Lib.indexByte_none hn (i - p) ?_
    rw [byte_zero hb p (i - p) (by omega)]
    rw [show p + (i - p) = i from by omega]
    exact h0
  · obtain ⟨q, hq⟩ : ∃ q : Nat, Lib.indexByte (Lib.bytesOf (xs.drop p)) 0 = q := ⟨(Lib.indexByte (Lib.bytesOf (xs.drop p)) 0).toNat, by omega⟩
    obtain ⟨h1, h2⟩ := Lib.indexByte_some hq
    have hlt : q < xs.length - p := by
      rw [← hlen]
      exact (List.getElem?_eq_some_iff.1 h1).1
    exact ⟨some q, ⟨by omega, (byte_zero hb p q (by omega)).1 h1, fun j hj h0 => h2 j hj ((byte_zero hb p j (by omega)).2 h0)⟩, hq⟩
theorem run_index (w : World) (a : Addr) (n c : Nat) (xs : List Int) (hx : xs.length = n) (hc : RowAt w a xs) :
    (Extern.BytealgIndexByte.indexByte #[.slice (some a) n c, .int .u8 0]).run Try.prog w = .ok (.int .i64 (Lib.indexByte (Lib.bytesOf xs) (0 : Int).toNat.toUInt8)) w := by
  have hl := Lib.run_loadBytesX (P := Try.prog) w xs a .empty (fun j x hj => by
    have hjl : j < xs.length := (List.getElem?_eq_some_iff.1 hj).1
    rw [hc j hjl, List.getD_eq_getElem?_getD, hj]
    rfl)
  rw [hx] at hl
  have hs := Lib.run_indexByteString (P := Try.prog) ⟨(Lib.bytesOf xs).toArray⟩ 0 w
  have he : (⟨ByteArray.empty.data ++ (Lib.bytesOf xs).toArray⟩ : ByteArray) = ⟨(Lib.bytesOf xs).toArray⟩ := by
    apply ByteArray.ext
    show (#[] : Array UInt8) ++ (Lib.bytesOf xs).toArray = (Lib.bytesOf xs).toArray
    simp
  rw [he] at hl
  change Sem.run Try.prog (do
    let b ← Extern.Bytes.bytesOf (.slice (some a) n c)
    let c ← Extern.Bytes.asByte (.int .u8 0)
    match (List.range b.size).find? fun i => b[i]! == c with
    | some i => pure (goInt i)
    | none => pure (goInt (-1))) w = _
  change Sem.run Try.prog (do
    let b ← Extern.Bytes.bytesOf (.string ⟨(Lib.bytesOf xs).toArray⟩)
    let c ← Extern.Bytes.asByte (.int .u8 0)
    match (List.range b.size).find? fun i => b[i]! == c with
    | some i => pure (goInt i)
    | none => pure (goInt (-1))) w = _ at hs
  simp only [Extern.Bytes.bytesOf, Sem.run_bind, Sem.run_pure, hl, Result.andThen] at hs ⊢
  exact hs
set_option maxHeartbeats 2000000 in
theorem index_byte (a : Addr) (n c : Nat) (xs : List Int) (w : World) (hx : xs.length = n) (hc : RowAt w a xs) :
    Calls Try.prog 21 #[.slice (some a) n c, .int .u8 0] w fun e w' => e = .returned (.int .i64 (Lib.indexByte (Lib.bytesOf xs) 0)) ∧ w = w' := by
  go_enter Try.func21, Try.ntmps21
  go_wp2
  rw [run_callFunc_extern Try.func23 (by kernel_rfl) (by kernel_rfl) (by kernel_rfl) (e := Extern.BytealgIndexByte.indexByte) (by kernel_rfl), run_index w a n c xs hx hc]
  simp only [Result.andThen]
  rw [Oper.upon_value]
  go_wp2
  go_ret
  exact ⟨rfl, rfl⟩
theorem text_out (A : Option Addr) (l c : Nat) (p : Int) (h : p < 0 ∨ (l : Int) ≤ p) (hm : l ≤ 10000) (w : World) :
    Calls Try.prog 13 #[.slice A l c, .int .i64 p] w fun e w' => e = .returned (.tuple #[.string ByteArray.empty, .bool false]) ∧ w = w' := by
  by_cases h1 : p < 0
  · have d1 : decide (p < 0) = true := decide_eq_true h1
    go_enter Try.func13, Try.ntmps13
    go_wp2_with fail
    go_ret2
    exact ⟨rfl, rfl⟩
  · have d1 : decide (p < 0) = false := decide_eq_false h1
    have d2 : decide ((l : Int) ≤ p) = true := decide_eq_true (by omega)
    go_enter Try.func13, Try.ntmps13
    go_wp2_with fail
    go_ret2
    exact ⟨rfl, rfl⟩
theorem text_none (ad : Addr) (l c p : Nat) (xs : List Int) (h : p < l) (hlc : l ≤ c) (hcm : c ≤ maxLen) (hx : xs.length = l) (hm : l ≤ 10000) (w : World) (hr : RowAt w ad xs)
    (hi : Lib.indexByte (Lib.bytesOf (xs.drop p)) 0 = -1) :
    Calls Try.prog 13 #[.slice (some ad) l c, .int .i64 p] w fun e w' => e = .returned (.tuple #[.string ByteArray.empty, .bool false]) ∧ w = w' := by
  have hd : at4 xs p (l - p) = xs.drop p := by unfold at4; exact List.take_of_length_le (by simp; omega)
  have hrp : RowAt w (ad.add p) (xs.drop p) := by rw [← hd]; exact hr.part (by omega)
  have HI := index_byte (ad.add p) (l - p) (c - p) (xs.drop p) w (by simp; omega) hrp
  rw [hi] at HI
  unfold maxLen at hcm
  have d1 : decide ((p : Int) < 0) = false := decide_eq_false (by omega)
  have d2 : decide ((l : Int) ≤ p) = false := decide_eq_false (by omega)
  clear hrp hr hd hi
  go_enter Try.func13, Try.ntmps13
  go_wp2_with fail
  refine HI.mono ?_
  rintro e w1 ⟨rfl, rfl⟩
  go_wp2_with fail
  go_ret2
  exact ⟨rfl, rfl⟩
theorem text_some (ad : Addr) (l c p q : Nat) (xs : List Int) (h : p + q < l) (hlc : l ≤ c) (hcm : c ≤ maxLen) (hx : xs.length = l) (hm : l ≤ 10000) (w : World) (hr : RowAt w ad xs)
    (hi : Lib.indexByte (Lib.bytesOf (xs.drop p)) 0 = q) :
    Calls Try.prog 13 #[.slice (some ad) l c, .int .i64 p] w fun e w' => e = .returned (.tuple #[.string (strOfNums (at4 xs p q)), .bool true]) ∧ w = w' := by
  have hd : at4 xs p (l - p) = xs.drop p := by unfold at4; exact List.take_of_length_le (by simp; omega)
  have hrp : RowAt w (ad.add p) (xs.drop p) := by rw [← hd]; exact hr.part (by omega)
  have HI := index_byte (ad.add p) (l - p) (c - p) (xs.drop p) w (by simp; omega) hrp
  rw [hi] at HI
  have HS := row_str (hr.part (p := p) (n := q) (by omega)) q (c - p) (at4_len (by omega))
  unfold maxLen at hcm
  have d1 : decide ((p : Int) < 0) = false := decide_eq_false (by omega)
  have d2 : decide ((l : Int) ≤ p) = false := decide_eq_false (by omega)
  have d3 : decide ((q : Int) < 0) = false := decide_eq_false (by omega)
  have hsub : p + q - p = q := by omega
  generalize strOfNums (at4 xs p q) = S at *
  clear hrp hr hd hi hx
  go_enter Try.func13, Try.ntmps13
  go_wp2_with fail
  refine HI.mono ?_
  rintro e w1 ⟨rfl, rfl⟩
  go_wp2_with fail
  go_ret2
  exact ⟨rfl, rfl⟩
theorem ref_out (A : Option Addr) (l c : Nat) (p : Int) (h : p < 0 ∨ (l : Int) ≤ p) (hm : l ≤ 10000) (w : World) :
    Calls Try.prog 14 #[.slice A l c, .int .i64 p] w fun e w' => e = .returned (.tuple #[.string ByteArray.empty, .bool false]) ∧ w = w' := by
  by_cases h1 : p < 0
  · have d1 : decide (p < 0) = true := decide_eq_true h1
    go_enter Try.func14, Try.ntmps14
    go_wp2_with fail
    go_ret2
    exact ⟨rfl, rfl⟩
  · have d1 : decide (p < 0) = false := decide_eq_false h1
    have d2 : decide (p < (l : Int)) = false := decide_eq_false (by omega)
    go_enter Try.func14, Try.ntmps14
    go_wp2_with fail
    go_loopw [6] (fun i wr => i = .int .i64 p ∧ wr = w) (fun _ _ => 0)
    case atStart => exact ⟨rfl, rfl⟩
    case round =>
      obtain ⟨rfl, rfl⟩ := hrel
      go_wp2_with fail
      go_ret2
      exact ⟨rfl, rfl⟩
theorem pad_any (n : Int) (wn : -9223372036854775808 ≤ n ∧ n ≤ 9223372036854775807) (w : World) :
    Calls Try.prog 15 #[.int .i64 n] w fun e w' => e = .returned (.int .i64 (if n < 0 then 0 else (4 - n % 4) % 4)) ∧ w = w' := by
  obtain ⟨h0, h1⟩ := wn
  by_cases h : n < 0
  · rw [if_pos h]
    have d1 : decide (n < 0) = true := decide_eq_true h
    go_enter Try.func15, Try.ntmps15
    go_wp2_with fail
    go_ret
    exact ⟨rfl, rfl⟩
  · rw [if_neg h]
    have d1 : decide (n < 0) = false := decide_eq_false h
    have e1 : n.tmod 4 = n % 4 := Int.tmod_eq_emod_of_nonneg (by omega)
    have e2 : (4 - n % 4).tmod 4 = (4 - n % 4) % 4 := Int.tmod_eq_emod_of_nonneg (by omega)
    go_enter Try.func15, Try.ntmps15
    go_wp2_with fail
    go_ret
    exact ⟨rfl, rfl⟩
theorem ref_none (ad : Addr) (l c p : Nat) (xs : List Int) (h : p < l) (hlc : l ≤ c) (hcm : c ≤ maxLen) (hx : xs.length = l) (hm : l ≤ 10000) (w : World) (hr : RowAt w ad xs) (hn : Nought xs p none) :
    Calls Try.prog 14 #[.slice (some ad) l c, .int .i64 p] w fun e w' => e = .returned (.tuple #[.string ByteArray.empty, .bool false]) ∧ w = w' := by
  have d1 : decide ((p : Int) < 0) = false := decide_eq_false (by omega)
  have HR := Lib.hid hr
  have HN := Lib.hid hn
  have HX := Lib.hid hx
  clear hr hn hx
  unfold maxLen at hcm
  go_enter Try.func14, Try.ntmps14
  go_wp2_with fail
  go_loopw [6] (fun i wr => ∃ k : Nat, i = .int .i64 k ∧ p ≤ k ∧ k ≤ l ∧ wr = w) (fun i _ => l - (intOf i).toNat)
  case atStart => exact ⟨p, rfl, by omega, by omega, rfl⟩
  case round =>
    obtain ⟨k, rfl, hk0, hk, rfl⟩ := hrel
    by_cases hlt : k < l
    · have c0 := HR.out k (by rw [HX.out]; exact hlt)
      have hz := HN.out k hk0 (by rw [HX.out]; exact hlt)
      generalize xs.getD k 0 = b at *
      have hz' : (b == 0) = false := by simpa using hz
      go_wp2_with fail
      refine ⟨⟨k + 1, by simp, by omega, by omega, trivial⟩, ?_⟩
      simp [intOf] <;> omega
    · obtain rfl : k = l := by omega
      go_wp2_with fail
      go_ret2
      exact ⟨rfl, rfl⟩
theorem ref_some (ad : Addr) (l c p q : Nat) (xs : List Int) (h : p + q < l) (hlc : l ≤ c) (hcm : c ≤ maxLen) (hx : xs.length = l) (hm : l ≤ 10000) (w : World) (hr : RowAt w ad xs) (hn : Nought xs p (some q)) :
    Calls Try.prog 14 #[.slice (some ad) l c, .int .i64 p] w fun e w' => e = .returned (.tuple #[.string (strOfNums (at4 xs p q)), .bool true]) ∧ w = w' := by
  have d1 : decide ((p : Int) < 0) = false := decide_eq_false (by omega)
  have HS := row_str (hr.part (p := p) (n := q) (by omega)) q (c - p) (at4_len (by omega))
  generalize strOfNums (at4 xs p q) = S at *
  have HR := Lib.hid hr
  have HN := Lib.hid hn
  have HX := Lib.hid hx
  clear hr hn hx
  unfold maxLen at hcm
  have hsub : p + q - p = q := by omega
  go_enter Try.func14, Try.ntmps14
  go_wp2_with fail
  go_loopw [6] (fun i wr => ∃ k : Nat, i = .int .i64 ((p + k : Nat) : Int) ∧ k ≤ q ∧ wr = w) (fun i _ => l - (intOf i).toNat)
  case atStart => exact ⟨0, by simp, by omega, rfl⟩
  case round =>
    obtain ⟨k, rfl, hk, rfl⟩ := hrel
    by_cases hlt : k < q
    · have c0 := HR.out (p + k) (by rw [HX.out]; omega)
      have hz := HN.out.2.2 k hlt
      obtain ⟨m, hm'⟩ : ∃ m, p + k = m := ⟨_, rfl⟩
      rw [hm'] at c0 hz ⊢
      have hml : m < l := by omega
      generalize xs.getD m 0 = b at *
      have hz' : (b == 0) = false := by simpa using hz
      go_wp2_with fail
      refine ⟨⟨k + 1, by congr 1; omega, by omega, trivial⟩, ?_⟩
      simp [intOf] <;> omega
    · obtain rfl : k = q := by omega
      have c0 := HR.out (p + k) (by rw [HX.out]; omega)
      rw [HN.out.2.1] at c0
      obtain ⟨m, hm'⟩ : ∃ m, p + k = m := ⟨_, rfl⟩
      rw [hm'] at c0 hsub ⊢
      have hml : m < l := by omega
      have hpm : p ≤ m := by omega
      go_wp2_with fail
      go_ret2
      exact ⟨rfl, rfl⟩
end Go.Proofs.Ytamjlknfgppofaa
