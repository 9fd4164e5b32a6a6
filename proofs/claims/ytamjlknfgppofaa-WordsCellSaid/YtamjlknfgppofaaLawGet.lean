/- The walk of the law WordsGet: called with any bytes and any place it returns true, and nothing that lay in memory is another. No conditions beyond the kinds. -/
import Derived.Test.YtamjlknfgppofaaGet
import Derived.Test.YtamjlknfgppofaaPut
namespace Go.Proofs.Ytamjlknfgppofaa
open Go.RowKit
set_option linter.unusedVariables false
set_option linter.unusedSimpArgs false
/-- What a row of bytes is to the walks. -/
theorem IsRow.split {w : World} {a : Option Addr} {l c : Nat} {z : List Int} (h : IsRow .u8 w a l c z) :
    (a = none ∧ l = 0 ∧ c = 0) ∨ ∃ ad, a = some ad ∧ l ≤ c ∧ c ≤ maxLen ∧ RowAt w ad (z.take l) ∧ Bytes (z.take l) ∧ (z.take l).length = l := by
  rcases h with ⟨h1, h2, h3, _⟩ | ⟨x, ha, h1, h2, h3, h4, h5⟩
  · exact .inl ⟨h1, h2, h3⟩
  · refine .inr ⟨x, ha, h1, h2, fun i hi => ?_, fun y hy => bounds_u8 (h5 y (List.mem_of_mem_take hy)), by simp; omega⟩
    have hl : i < l := by simp at hi; omega
    rw [h4 i (by omega)]
    simp [List.getD_eq_getElem?_getD, List.getElem?_take, hl]
theorem RowAt.stays {w w' : World} {ad : Addr} {xs : List Int} (h : RowAt w ad xs) (hb : Below w.heap.size w w') : RowAt w' ad xs := fun i hi => cell_stays hb (h i hi)
set_option maxHeartbeats 1600000 in
theorem get_law (a : Option Addr) (l c : Nat) (p : Int) (W4 W8 : Int) (B4 B8 : Bool) (w : World) (hl : l ≤ 10000)
    (hw : 0 ≤ W4 ∧ W4 < 4294967296)
    (h1 : ∀ W, Below w.heap.size w W → Calls Try.prog 16 #[.slice a l c, .int .i64 p] W fun e w' => e = .returned (.tuple #[.int .u32 W4, .bool B4]) ∧ W = w')
    (h2 : ∀ W, Below w.heap.size w W → Calls Try.prog 17 #[.slice a l c, .int .i64 p] W fun e w' => e = .returned (.tuple #[.int .u64 W8, .bool B8]) ∧ W = w')
    (h3 : ∀ W, Below w.heap.size w W → Calls Try.prog 12 #[.slice a l c, .int .i64 p, .int .i64 4] W fun e w' => e = .returned (.tuple #[.int .u64 W4, .bool B4]) ∧ W = w')
    (h4 : ∀ W, Below w.heap.size w W → Calls Try.prog 12 #[.slice a l c, .int .i64 p, .int .i64 8] W fun e w' => e = .returned (.tuple #[.int .u64 W8, .bool B8]) ∧ W = w') :
    Calls Try.prog 6 #[.slice a l c, .int .i64 p] w fun e w' => e = .returned (.bool true) ∧ Below w.heap.size w w' := by
  have hl' : decide (10000 < (l : Int)) = false := decide_eq_false (by omega)
  have e1 : (W4 == W4) = true := by simp
  have e2 : (W8 == W8) = true := by simp
  have e3 : (B4 == B4) = true := by simp
  have e4 : (B8 == B8) = true := by simp
  have e5 : W4 % 18446744073709551616 = W4 := by omega
  have H1 := Lib.hid h1
  have H2 := Lib.hid h2
  have H3 := Lib.hid h3
  have H4 := Lib.hid h4
  clear h1 h2 h3 h4
  go_enter Try.func6, Try.ntmps6
  go_wp2_with fail
  refine (awake_any _).mono ?_
  rintro e w1 ⟨rfl, bw⟩
  have BW := Lib.hid bw
  clear bw
  go_wp2_with fail
  refine (H1.out _ BW.out).mono ?_
  rintro e w2 ⟨rfl, rfl⟩
  go_wp2_with fail
  refine (H2.out _ BW.out).mono ?_
  rintro e w2 ⟨rfl, rfl⟩
  go_wp2_with fail
  refine (H3.out _ BW.out).mono ?_
  rintro e w2 ⟨rfl, rfl⟩
  go_wp2_with fail
  refine (H4.out _ BW.out).mono ?_
  rintro e w2 ⟨rfl, rfl⟩
  go_wp2_with fail
  go_ret
  exact ⟨rfl, BW.out⟩
theorem get_any (a : Option Addr) (l c : Nat) (z : List Int) (p : Int) (w : World) (hz : IsRow .u8 w a l c z) (wp : (Lit.int .i64 p).wf = true) :
    Calls Try.prog 6 #[.slice a l c, .int .i64 p] w fun e w' => e = .returned (.bool true) ∧ Below w.heap.size w w' := by
  obtain ⟨hp0, hp1⟩ := bounds_i64 wp
  have hbd := hz.bound
  unfold maxLen at hbd
  by_cases hl : 10000 < l
  · have hl' : decide (10000 < (l : Int)) = true := decide_eq_true (by omega)
    go_enter Try.func6, Try.ntmps6
    go_wp2_with (go_at_call 7; refine (awake_any _).mono ?_; rintro e w1 ⟨rfl, hb1⟩)
    go_ret
    exact ⟨rfl, bw_trans (by assumption) hb1⟩
  · have bad : p < 0 ∨ (l : Int) < p + 4 → _ := fun h => get_law a l c p 0 0 false false w (by omega) (by decide)
      (fun W _ => get_bad 16 4 ⟨rfl, rfl⟩ a l c p W (by
        rcases Int.lt_or_le p 0 with h0 | h0
        · exact part_low a l c p 4 h0 W
        · obtain ⟨P, rfl⟩ := Int.eq_ofNat_of_zero_le h0
          exact part_high a l c P 4 (by omega) W (by unfold maxLen; omega) (by omega)))
      (fun W _ => get64_bad 17 8 ⟨rfl, rfl⟩ a l c p W (by
        rcases Int.lt_or_le p 0 with h0 | h0
        · exact part_low a l c p 8 h0 W
        · obtain ⟨P, rfl⟩ := Int.eq_ofNat_of_zero_le h0
          exact part_high a l c P 8 (by omega) W (by unfold maxLen; omega) (by omega)))
      (fun W _ => ref_bad a l c p 4 (by unfold maxLen; omega) h (by decide) W)
      (fun W _ => ref_bad a l c p 8 (by unfold maxLen; omega) (by omega) (by decide) W)
    rcases hz.split with ⟨rfl, rfl, rfl⟩ | ⟨ad, rfl, hlc, hcm, hr, hby, hxl⟩
    · exact bad (by omega)
    · by_cases hb : p < 0 ∨ (l : Int) < p + 4
      · exact bad hb
      · obtain ⟨P, rfl⟩ := Int.eq_ofNat_of_zero_le (show 0 ≤ p by omega)
        have n4 := num_range (at4 (z.take l) P 4)
        have s4 := num_small (at4_bytes (p := P) (n := 4) hby) (at4_len (by rw [hxl]; omega))
        by_cases h8 : (l : Int) < P + 8
        · exact get_law _ l c P (num (at4 (z.take l) P 4)) 0 true false w (by omega) ⟨n4.1, s4⟩
            (fun W hW => get_good ad l c P (z.take l) hxl hlc hcm (by omega) W (hr.stays hW) hby)
            (fun W hW => get64_bad 17 8 ⟨rfl, rfl⟩ _ l c P W (part_high _ l c P 8 (by omega) W (by unfold maxLen; omega) (by omega)))
            (fun W hW => ref_good ad l c P 4 (z.take l) hxl (by unfold maxLen; omega) (by omega) (by decide) W (hr.stays hW) hby)
            (fun W hW => ref_bad _ l c P 8 (by unfold maxLen; omega) (by omega) (by decide) W)
        · exact get_law _ l c P (num (at4 (z.take l) P 4)) (num (at4 (z.take l) P 8)) true true w (by omega) ⟨n4.1, s4⟩
            (fun W hW => get_good ad l c P (z.take l) hxl hlc hcm (by omega) W (hr.stays hW) hby)
            (fun W hW => get64_good ad l c P (z.take l) hxl hlc hcm (by omega) W (hr.stays hW) hby)
            (fun W hW => ref_good ad l c P 4 (z.take l) hxl (by unfold maxLen; omega) (by omega) (by decide) W (hr.stays hW) hby)
            (fun W hW => ref_good ad l c P 8 (z.take l) hxl (by unfold maxLen; omega) (by omega) (by decide) W (hr.stays hW) hby)
end Go.Proofs.Ytamjlknfgppofaa
