/- The walk of the law WordsCell. No conditions beyond the kinds. -/
import Derived.Test.YtamjlknfgppofaaCell
namespace Go.Proofs.Ytamjlknfgppofaa
open Go.RowKit
set_option linter.unusedVariables false
set_option linter.unusedSimpArgs false
set_option maxHeartbeats 1600000 in
theorem cell_law_bad (a : Option Addr) (l c : Nat) (p : Int) (v : Nat) (w : World) (hl : l ≤ 10000)
    (h1 : ∀ W, Below w.heap.size w W → Calls Try.prog 11 #[.slice a l c, .int .i64 p, .int .u32 v] W fun e w' => e = .returned (.tuple #[.slice none 0 0, .bool false]) ∧ W = w')
    (h3 : ∀ W, Below w.heap.size w W → Calls Try.prog 12 #[.slice a l c, .int .i64 p, .int .i64 4] W fun e w' => e = .returned (.tuple #[.int .u64 0, .bool false]) ∧ W = w') :
    Calls Try.prog 4 #[.slice a l c, .int .i64 p, .int .u32 v] w fun e w' => e = .returned (.bool true) ∧ Below w.heap.size w w' := by
  have hl' : decide (10000 < (l : Int)) = false := decide_eq_false (by omega)
  have H1 := Lib.hid h1
  have H3 := Lib.hid h3
  clear h1 h3
  go_enter Try.func4, Try.ntmps4
  go_wp2_with fail
  refine (awake_any _).mono ?_
  rintro e w1 ⟨rfl, bw⟩
  have BW := Lib.hid bw
  clear bw
  go_wp2_with fail
  refine (H1.out _ BW.out).mono ?_
  rintro e w2 ⟨rfl, rfl⟩
  go_wp2_with fail
  refine (H3.out _ BW.out).mono ?_
  rintro e w2 ⟨rfl, rfl⟩
  go_wp2_with fail
  go_ret
  exact ⟨rfl, BW.out⟩
set_option maxHeartbeats 1600000 in
theorem cell_law_good (ad : Addr) (l c p v : Nat) (xs : List Int) (hxl : xs.length = l) (hlc : l ≤ c) (hc : c ≤ maxLen) (hl : l ≤ 10000) (h : p + 4 ≤ l) (hv : v < 4294967296) (w : World) (hr : RowAt w ad xs) (hb : Bytes xs) :
    Calls Try.prog 4 #[.slice (some ad) l c, .int .i64 p, .int .u32 v] w fun e w' => e = .returned (.bool true) ∧ Below w.heap.size w w' := by
  have hl' : decide (10000 < (l : Int)) = false := decide_eq_false (by omega)
  have H1 := fun W (hW : Below w.heap.size w W) => Lib.hid (cell_good ad l c p v xs hxl hlc hc hl h hv W (hr.stays hW))
  have H3 := fun W (hW : Below w.heap.size w W) => Lib.hid (ref_good ad l c p 4 xs hxl (by unfold maxLen; omega) h (by decide) W (hr.stays hW) hb)
  unfold maxLen at hc
  go_enter Try.func4, Try.ntmps4
  go_wp2_with fail
  refine (awake_any _).mono ?_
  rintro e w1 ⟨rfl, bw⟩
  have BW := Lib.hid bw
  clear bw
  go_wp2_with fail
  refine (H1 _ BW.out).out.mono ?_
  rintro e w2 ⟨A2, c2, rfl, ow, bw⟩
  have SX := Lib.hid (Str.own ow)
  have BW2 := Lib.hid (bw_trans BW.out bw)
  clear ow bw
  go_wp2_with fail
  refine (H3 _ BW2.out).out.mono ?_
  rintro e w3 ⟨rfl, rfl⟩
  go_wp2_with fail
  have R4 := fun W => Lib.hid (ref_str4 v (by omega) W)
  have hr2 : RowAt w2 ad xs := hr.stays BW2.out
  have S0 : Hid (Str w2 (.slice (some ad) p c) (strOfNums (xs.take p))) := Lib.hid fun W hW => row_str (xs := xs.take p) (fun i hi => by
    have hi' : i < p := by simp at hi; omega
    rw [hr2.stays hW i (by simp at hi; omega)]
    simp [List.getD_eq_getElem?_getD, List.getElem?_take, hi']) p c (by simp; omega)
  have d4 : at4 xs (p + 4) (l - (p + 4)) = xs.drop (p + 4) := by unfold at4; exact List.take_of_length_le (by simp; omega)
  have a1 := str_app (xs.take p) (bt v 4)
  have a2 : strOfNums (xs.take p ++ bt v 4) ++ strOfNums (xs.drop (p + 4)) = strOfNums (ins xs p (bt v 4)) := by rw [str_app]; unfold ins; rw [bt_len]
  have n1 : (9223372036854775807 < (strOfNums (xs.take p)).size + (strOfNums (bt v 4)).size) = False := by rw [strOfNums_size, strOfNums_size, bt_len]; simp; omega
  have n2 : (9223372036854775807 < (strOfNums (xs.take p ++ bt v 4)).size + (strOfNums (xs.drop (p + 4))).size) = False := by rw [strOfNums_size, strOfNums_size]; simp [bt_len]; omega
  have hwv : IntKind.u64.wrap (v : Int) = v := by rw [IntKind.wrap_u64]; omega
  have S2a : p + 4 ≠ c → Str w2 (.slice (some (ad.add (p + 4))) (l - (p + 4)) (c - (p + 4))) (strOfNums (xs.drop (p + 4))) := fun _ W hW => by
    have := (hr2.stays hW).part (p := p + 4) (n := l - (p + 4)) (by omega)
    rw [d4] at this
    exact row_str this _ _ (by simp; omega)
  have S2b : p + 4 = c → Str w2 (.slice (some ad) 0 0) (strOfNums (xs.drop (p + 4))) := fun hq W hW => by
    have e : xs.drop (p + 4) = [] := List.drop_eq_nil_of_le (by omega)
    rw [e]
    exact row_str (xs := []) (fun i hi => by simp at hi) _ _ rfl
  clear H1 H3 hr hr2 d4 hb BW hxl
  generalize strOfNums (ins xs p (bt v 4)) = sx at *
  generalize strOfNums (xs.take p ++ bt v 4) = s01 at *
  generalize strOfNums (bt v 4) = t1 at *
  generalize strOfNums (xs.take p) = s0 at *
  generalize strOfNums (xs.drop (p + 4)) = s2 at *
  have q1 : p ≤ l := by omega
  have q2 : p ≤ c := by omega
  obtain ⟨P, hP⟩ : ∃ P, p + 4 = P := ⟨_, rfl⟩
  have hPi : (p : Int) + 4 = P := by omega
  have q3 : P ≤ c := by omega
  have hw1 : wrap64 ((p : Int) + 4) = P := by unfold wrap64; omega
  have hw2 : IntKind.i64.wrap ((p : Int) + 4) = P := by rw [IntKind.wrap_i64]; omega
  have hw3 : wrap64 (P : Int) = P := by unfold wrap64; omega
  have hw4 : IntKind.i64.wrap (P : Int) = P := by rw [IntKind.wrap_i64]; omega
  have q5 : P ≤ l := by omega
  have q9 : ¬ l < P := by omega
  rw [hP] at S2a S2b
  clear hP h
  by_cases hq : P = c
  · have S2 := S2b hq
    obtain rfl := hq
    have q7 : P - P = 0 := by omega
    clear S2a S2b
    have SK : ∀ W, Below w2.heap.size w2 W → (Below w2.heap.size w2 W ∧ (convert 22 9 (.slice A2 l c2)).run Try.prog W = .ok (.string sx) W ∧ (convert 22 9 (.slice (some ad) p P)).run Try.prog W = .ok (.string s0) W ∧ (convert 22 9 (.slice (some ad) 0 0)).run Try.prog W = .ok (.string s2) W) := fun W hW => ⟨hW, SX.out W hW, S0.out W hW, S2 W hW⟩
    have SKH := Lib.hid SK
    clear SK S2
    go_region_held (fun W => Below w2.heap.size w2 W ∧ (convert 22 9 (.slice A2 l c2)).run Try.prog W = .ok (.string sx) W ∧ (convert 22 9 (.slice (some ad) p P)).run Try.prog W = .ok (.string s0) W ∧ (convert 22 9 (.slice (some ad) 0 0)).run Try.prog W = .ok (.string s2) W)
      (first | exact SKH.out _ (Below.refl _ _).drew | exact SKH.out _ (by assumption))
      (first
      | (go_at_call_of 10 (Value.int IntKind.i64 4); refine (R4 _).out.mono ?_; rintro e w4 ⟨rfl, f4, g4⟩; have f4 : Below w2.heap.size w2 w4 := ⟨f4.os, f4.tape, f4.output, f4.size, f4.block⟩; have Z4 : Hid (Str w4 (.slice (some ⟨w2.heap.size, 0, none⟩) 4 4) t1) := Lib.hid g4; clear g4; have z41 := Z4.out.now)
      | fail)
    all_goals
      go_wp2_with fail
      go_ret
      exact ⟨rfl, bw_trans BW2.out (by assumption)⟩
  · have S2 := S2a hq
    have q4 : ¬ c = P := fun h => hq h.symm
    have q7 : ¬ c - P = 0 := by omega
    have q8 : P < c := by omega
    clear S2a S2b
    have SK : ∀ W, Below w2.heap.size w2 W → (Below w2.heap.size w2 W ∧ (convert 22 9 (.slice A2 l c2)).run Try.prog W = .ok (.string sx) W ∧ (convert 22 9 (.slice (some ad) p c)).run Try.prog W = .ok (.string s0) W ∧ (convert 22 9 (.slice (some (ad.add P)) (l - P) (c - P))).run Try.prog W = .ok (.string s2) W) := fun W hW => ⟨hW, SX.out W hW, S0.out W hW, S2 W hW⟩
    have SKH := Lib.hid SK
    clear SK S2
    go_region_held (fun W => Below w2.heap.size w2 W ∧ (convert 22 9 (.slice A2 l c2)).run Try.prog W = .ok (.string sx) W ∧ (convert 22 9 (.slice (some ad) p c)).run Try.prog W = .ok (.string s0) W ∧ (convert 22 9 (.slice (some (ad.add P)) (l - P) (c - P))).run Try.prog W = .ok (.string s2) W)
      (first | exact SKH.out _ (Below.refl _ _).drew | exact SKH.out _ (by assumption))
      (first
      | (go_at_call_of 10 (Value.int IntKind.i64 4); refine (R4 _).out.mono ?_; rintro e w4 ⟨rfl, f4, g4⟩; have f4 : Below w2.heap.size w2 w4 := ⟨f4.os, f4.tape, f4.output, f4.size, f4.block⟩; have Z4 : Hid (Str w4 (.slice (some ⟨w2.heap.size, 0, none⟩) 4 4) t1) := Lib.hid g4; clear g4; have z41 := Z4.out.now)
      | fail)
    all_goals
      go_wp2_with fail
      go_ret
      exact ⟨rfl, bw_trans BW2.out (by assumption)⟩
theorem cells_any (a : Option Addr) (l c : Nat) (z : List Int) (p V : Int) (w : World) (hz : IsRow .u8 w a l c z) (wp : (Lit.int .i64 p).wf = true) (wv : (Lit.int .u32 V).wf = true) :
    Calls Try.prog 4 #[.slice a l c, .int .i64 p, .int .u32 V] w fun e w' => e = .returned (.bool true) ∧ Below w.heap.size w w' := by
  obtain ⟨hp0, hp1⟩ := bounds_i64 wp
  have hv := bounds_u32 wv
  have hbd := hz.bound
  unfold maxLen at hbd
  by_cases hl : 10000 < l
  · have hl' : decide (10000 < (l : Int)) = true := decide_eq_true (by omega)
    go_enter Try.func4, Try.ntmps4
    go_wp2_with (go_at_call 7; refine (awake_any _).mono ?_; rintro e w1 ⟨rfl, hb1⟩)
    go_ret
    exact ⟨rfl, bw_trans (by assumption) hb1⟩
  · obtain ⟨v, rfl⟩ := Int.eq_ofNat_of_zero_le hv.1
    have bad : p < 0 ∨ (l : Int) < p + 4 → _ := fun h => cell_law_bad a l c p v w (by omega)
      (fun W _ => cell_bad a l c p v W (by
        rcases Int.lt_or_le p 0 with h0 | h0
        · exact part_low a l c p 4 h0 W
        · obtain ⟨P, rfl⟩ := Int.eq_ofNat_of_zero_le h0
          exact part_high a l c P 4 (by omega) W (by unfold maxLen; omega) (by omega)))
      (fun W _ => ref_bad a l c p 4 (by unfold maxLen; omega) h (by decide) W)
    rcases hz.split with ⟨rfl, rfl, rfl⟩ | ⟨ad, rfl, hlc, hcm, hr, hby, hxl⟩
    · exact bad (by omega)
    · by_cases hb : p < 0 ∨ (l : Int) < p + 4
      · exact bad hb
      · obtain ⟨P, rfl⟩ := Int.eq_ofNat_of_zero_le (show 0 ≤ p by omega)
        exact cell_law_good ad l c P v (z.take l) hxl hlc hcm (by omega) (by omega) (by omega) w hr hby
end Go.Proofs.Ytamjlknfgppofaa
