/- The walk of the law WordsTexts: called with any bytes, place and number it returns true, and nothing that lay in memory is another. No conditions beyond the kinds. -/
import Derived.Test.YtamjlknfgppofaaText
namespace Go.Proofs.Ytamjlknfgppofaa
open Go.RowKit
set_option linter.unusedVariables false
set_option linter.unusedSimpArgs false
set_option maxHeartbeats 1600000 in
theorem texts_law (a : Option Addr) (l c : Nat) (p n : Int) (S : ByteArray) (B : Bool) (w : World) (hl : l ≤ 10000) (wn : -9223372036854775808 ≤ n ∧ n ≤ 9223372036854775807)
    (h1 : ∀ W, Below w.heap.size w W → Calls Try.prog 13 #[.slice a l c, .int .i64 p] W fun e w' => e = .returned (.tuple #[.string S, .bool B]) ∧ W = w')
    (h2 : ∀ W, Below w.heap.size w W → Calls Try.prog 14 #[.slice a l c, .int .i64 p] W fun e w' => e = .returned (.tuple #[.string S, .bool B]) ∧ W = w') :
    Calls Try.prog 5 #[.slice a l c, .int .i64 p, .int .i64 n] w fun e w' => e = .returned (.bool true) ∧ Below w.heap.size w w' := by
  have hl' : decide (10000 < (l : Int)) = false := decide_eq_false (by omega)
  have e2 : (B == B) = true := by simp
  have H1 := Lib.hid h1
  have H2 := Lib.hid h2
  have HP := fun W => Lib.hid (pad_any n wn W)
  clear h1 h2
  by_cases hn : n < 0
  · have d1 : decide (n < 0) = true := decide_eq_true hn
    simp only [if_pos hn] at HP
    go_enter Try.func5, Try.ntmps5
    go_wp2_with fail
    refine (awake_any _).mono ?_
    rintro e w1 ⟨rfl, bw⟩
    have BW := Lib.hid bw
    clear bw
    go_wp2_with fail
    refine (H1.out _ BW.out).mono ?_
    rintro e w2 ⟨rfl, rfl⟩
    go_wp2_with fail
    refine (H2.out _ BW.out).mono ?_
    rintro e w2 ⟨rfl, rfl⟩
    go_wp2_with fail
    refine (HP _).out.mono ?_
    rintro e w2 ⟨rfl, rfl⟩
    go_wp2_with fail
    go_ret
    exact ⟨rfl, BW.out⟩
  · have d1 : decide (n < 0) = false := decide_eq_false hn
    have d2 : decide (0 ≤ n) = true := decide_eq_true (by omega)
    simp only [if_neg hn] at HP
    obtain ⟨q, hq⟩ : ∃ q, (4 - n % 4) % 4 = q := ⟨_, rfl⟩
    rw [hq] at HP
    have hq0 : 0 ≤ q := by omega
    have hq1 : q < 4 := by omega
    have d3 : decide (0 ≤ q) = true := decide_eq_true hq0
    have d4 : decide (q < 4) = true := decide_eq_true hq1
    have hs : (n + q) % 4 = 0 := by omega
    have hw : IntKind.u64.wrap (IntKind.i64.wrap (n + q)) = n + q := by rw [IntKind.wrap_u64, IntKind.wrap_i64]; omega
    have hw2 : IntKind.u64.wrap (n + q) = n + q := by rw [IntKind.wrap_u64]; omega
    have hw3 : IntKind.u64.wrap (wrap64 (n + q)) = n + q := by rw [IntKind.wrap_u64]; unfold wrap64; omega
    have hs3 : (n + q).tmod 4 = 0 := by rw [Int.tmod_eq_emod_of_nonneg (by omega)]; exact hs
    have hs4 : (IntKind.u64.wrap (wrap64 (n + q))).tmod 4 = 0 := by rw [hw3, hs3]
    clear hw hw2 hw3
    clear hq
    go_enter Try.func5, Try.ntmps5
    go_wp2_with fail
    refine (awake_any _).mono ?_
    rintro e w1 ⟨rfl, bw⟩
    have BW := Lib.hid bw
    clear bw
    go_wp2_with fail
    refine (H1.out _ BW.out).mono ?_
    rintro e w2 ⟨rfl, rfl⟩
    go_wp2_with fail
    refine (H2.out _ BW.out).mono ?_
    rintro e w2 ⟨rfl, rfl⟩
    go_wp2_with fail
    refine (HP _).out.mono ?_
    rintro e w2 ⟨rfl, rfl⟩
    go_wp2_with fail
    go_ret
    exact ⟨rfl, BW.out⟩
theorem texts_any (a : Option Addr) (l c : Nat) (z : List Int) (p n : Int) (w : World) (hz : IsRow .u8 w a l c z) (wp : (Lit.int .i64 p).wf = true) (wn : (Lit.int .i64 n).wf = true) :
    Calls Try.prog 5 #[.slice a l c, .int .i64 p, .int .i64 n] w fun e w' => e = .returned (.bool true) ∧ Below w.heap.size w w' := by
  obtain ⟨hp0, hp1⟩ := bounds_i64 wp
  have hn := bounds_i64 wn
  have hbd := hz.bound
  unfold maxLen at hbd
  by_cases hl : 10000 < l
  · have hl' : decide (10000 < (l : Int)) = true := decide_eq_true (by omega)
    go_enter Try.func5, Try.ntmps5
    go_wp2_with (go_at_call 7; refine (awake_any _).mono ?_; rintro e w1 ⟨rfl, hb1⟩)
    go_ret
    exact ⟨rfl, bw_trans (by assumption) hb1⟩
  · have bad : p < 0 ∨ (l : Int) ≤ p → _ := fun h => texts_law a l c p n ByteArray.empty false w (by omega) hn
      (fun W _ => text_out a l c p h (by omega) W) (fun W _ => ref_out a l c p h (by omega) W)
    rcases hz.split with ⟨rfl, rfl, rfl⟩ | ⟨ad, rfl, hlc, hcm, hr, hby, hxl⟩
    · exact bad (by omega)
    · by_cases hb : p < 0 ∨ (l : Int) ≤ p
      · exact bad hb
      · obtain ⟨P, rfl⟩ := Int.eq_ofNat_of_zero_le (show 0 ≤ p by omega)
        obtain ⟨r, hno, hix⟩ := nought (z.take l) P hby
        cases r with
        | none =>
          exact texts_law _ l c P n ByteArray.empty false w (by omega) hn
            (fun W hW => text_none ad l c P (z.take l) (by omega) hlc hcm hxl (by omega) W (hr.stays hW) hix)
            (fun W hW => ref_none ad l c P (z.take l) (by omega) hlc hcm hxl (by omega) W (hr.stays hW) hno)
        | some q =>
          have hq := hno.1
          exact texts_law _ l c P n _ true w (by omega) hn
            (fun W hW => text_some ad l c P q (z.take l) (by omega) hlc hcm hxl (by omega) W (hr.stays hW) hix)
            (fun W hW => ref_some ad l c P q (z.take l) (by omega) hlc hcm hxl (by omega) W (hr.stays hW) hno)
end Go.Proofs.Ytamjlknfgppofaa
