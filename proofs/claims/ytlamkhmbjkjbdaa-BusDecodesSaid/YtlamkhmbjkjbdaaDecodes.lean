/- The walk of the law BusDecodes (layer 21). Conditions: rows of less than 2^47 entries. -/
import Derived.Test.YtlamkhmbjkjbdaaFew
import Derived.Test.YtlamkhmbjkjbdaaTheirs
import Derived.Test.YtlamkhmbjkjbdaaRDec
namespace Go.Proofs.Ytlamkhmbjkjbdaa
open Go.RowKit Go.Sort
set_option linter.unusedVariables false
theorem decodes_few (A : Option Addr) (c : Nat) (F : Fb) (hL : F.length ≤ 140737488355328) (hR : ∀ es ∈ F, es.length ≤ 140737488355328) (t b : Int) (w : World) (hF : Fab w A F) (hf : fewB F = false) :
    Calls Try.prog 3 #[.slice A F.length c, .int .u64 t, .int .i64 b] w fun e w' => e = .returned (.bool true) ∧ Below w.heap.size w w' := by
  have HF := Lib.hid hF
  have K := fun (W : World) h => Lib.hid (few_any A c F hL hR W h)
  rw [hf] at K
  clear hF hf hR
  generalize F.length = L at *
  go_enter Try.func3, Try.ntmps3
  go_wp2_with fail
  refine (awake_any _).mono ?_
  rintro e w1 ⟨rfl, g1⟩
  have G1 := Lib.hid g1
  clear g1
  go_wp2_with fail
  refine ((K _ (HF.out.stays G1.out)).out).mono ?_
  rintro e w2 ⟨rfl, rfl⟩
  go_wp2_with fail
  refine (awake_any _).mono ?_
  rintro e w3 ⟨rfl, g3⟩
  have G3 := Lib.hid (bw_trans G1.out g3)
  clear g3
  go_wp2_with fail
  go_ret
  exact ⟨rfl, G3.out⟩
set_option maxHeartbeats 1600000 in
set_option maxRecDepth 100000 in
theorem decodes_wrong (A : Option Addr) (c : Nat) (F : Fb) (hL : F.length ≤ 140737488355328) (hR : ∀ es ∈ F, es.length ≤ 140737488355328) (t wd : Int) (ht : U t) (w : World) (hF : Fab w A F) (hf : fewB F = true) (hr : rightB F = false) :
    Calls Try.prog 3 #[.slice A F.length c, .int .u64 t, .int .i64 wd] w fun e w' => e = .returned (.bool true) ∧ Below w.heap.size w w' := by
  have HF := Lib.hid hF
  have K := fun (W : World) h => Lib.hid (few_any A c F hL hR W h)
  rw [hf] at K
  have hf' : tot F ≤ 600 := of_decide_eq_true hf
  have h6 : F.length ≤ 600 := Nat.le_trans (tot_len F) hf'
  have h6R : ∀ es ∈ F, es.length ≤ 600 := fun es he => by have := tot_mem he; omega
  have hm : F.length ≤ maxLen := by unfold maxLen; omega
  have KT := fun (W : World) h => Lib.hid (theirs_any A c F h6 h6R W h)
  have KR := fun (W : World) h => Lib.hid (rright_any A c F hm W h)
  have KS := fun B c (W : World) h => Lib.hid (right_any B c F hm W h)
  rw [hr] at KR KS
  have KD := fun B c (W : World) h => Lib.hid (decode_wrong B c F hm t wd W h hr)
  clear hF hf hR h6R hf' hr hm
  unfold TheirsPost at KT
  generalize F.length = L at *
  go_enter Try.func3, Try.ntmps3
  go_wp2_with fail
  refine (awake_any _).mono ?_
  rintro e w1 ⟨rfl, g1⟩
  have G1 := Lib.hid g1
  clear g1
  go_wp2_with fail
  refine ((K _ (HF.out.stays G1.out)).out).mono ?_
  rintro e w2 ⟨rfl, rfl⟩
  go_wp2_with fail
  refine ((KT _ (HF.out.stays G1.out)).out).mono ?_
  rintro e w3 ⟨A3, c3, rfl, f3, g3⟩
  have F3 := Lib.hid f3
  have G3 := Lib.hid (bw_trans G1.out g3)
  clear g3 f3
  go_wp2_with fail
  refine ((KD _ _ _ F3.out).out).mono ?_
  rintro e w4 ⟨rfl, g4⟩
  have G4 := Lib.hid (bw_alloc (bw_trans G3.out g4) (.cells #[.int .i64 0, .int .u64 0, .int .i64 0] 27))
  have K4 := Lib.hid (Bk.new w4 27 #[.int .i64 0, .int .u64 0, .int .i64 0])
  clear g4 F3
  go_wp2_with fail
  refine ((KR _ (HF.out.stays G4.out)).out).mono ?_
  rintro e w5 ⟨rfl, g5⟩
  have G5 := Lib.hid (bw_trans G4.out g5)
  have K5 := Lib.hid (K4.out.below g5)
  clear g5 K4
  go_wp2_with fail
  refine ((KT _ (HF.out.stays G5.out)).out).mono ?_
  rintro e w6 ⟨A6, c6, rfl, f6, g6⟩
  have F6 := Lib.hid f6
  have G6 := Lib.hid (bw_trans G5.out g6)
  have K6 := Lib.hid (K5.out.below g6)
  clear g6 f6 K5
  go_wp2_with fail
  refine ((KS _ _ _ F6.out).out).mono ?_
  rintro e w7 ⟨rfl, g7⟩
  have G7 := Lib.hid (bw_trans G6.out g7)
  have K7 := Lib.hid (K6.out.below g7)
  clear g7 K6 F6
  have c0 := K7.out.cell 0
  have c1 := K7.out.cell 1
  have c2 := K7.out.cell 2
  simp at c0 c1 c2
  go_wp2_with fail
  go_ret
  exact ⟨rfl, G7.out⟩
set_option maxHeartbeats 1600000 in
set_option maxRecDepth 100000 in
theorem decodes_width (A : Option Addr) (c : Nat) (F : Fb) (hL : F.length ≤ 140737488355328) (hR : ∀ es ∈ F, es.length ≤ 140737488355328) (t wd : Int) (ht : U t) (w : World) (hF : Fab w A F) (hf : fewB F = true) (hr : rightB F = true) (hw : wd ≠ 1 ∧ wd ≠ 2 ∧ wd ≠ 4 ∧ wd ≠ 8) :
    Calls Try.prog 3 #[.slice A F.length c, .int .u64 t, .int .i64 wd] w fun e w' => e = .returned (.bool true) ∧ Below w.heap.size w w' := by
  have HF := Lib.hid hF
  have K := fun (W : World) h => Lib.hid (few_any A c F hL hR W h)
  rw [hf] at K
  have hf' : tot F ≤ 600 := of_decide_eq_true hf
  have h6 : F.length ≤ 600 := Nat.le_trans (tot_len F) hf'
  have h6R : ∀ es ∈ F, es.length ≤ 600 := fun es he => by have := tot_mem he; omega
  have hm : F.length ≤ maxLen := by unfold maxLen; omega
  have KT := fun (W : World) h => Lib.hid (theirs_any A c F h6 h6R W h)
  have KR := fun (W : World) h => Lib.hid (rright_any A c F hm W h)
  have KS := fun B c (W : World) h => Lib.hid (right_any B c F hm W h)
  rw [hr] at KR KS
  have KD := fun B c (W : World) h => Lib.hid (decode_width B c F hm t wd W h hr hw)
  have a1 : (wd != 1) = true := by simp [hw]
  have a2 : (wd != 2) = true := by simp [hw]
  have a3 : (wd != 4) = true := by simp [hw]
  have a4 : (wd != 8) = true := by simp [hw]
  clear hw
  clear hF hf hR h6R hf' hr hm
  unfold TheirsPost at KT
  generalize F.length = L at *
  go_enter Try.func3, Try.ntmps3
  go_wp2_with fail
  refine (awake_any _).mono ?_
  rintro e w1 ⟨rfl, g1⟩
  have G1 := Lib.hid g1
  clear g1
  go_wp2_with fail
  refine ((K _ (HF.out.stays G1.out)).out).mono ?_
  rintro e w2 ⟨rfl, rfl⟩
  go_wp2_with fail
  refine ((KT _ (HF.out.stays G1.out)).out).mono ?_
  rintro e w3 ⟨A3, c3, rfl, f3, g3⟩
  have F3 := Lib.hid f3
  have G3 := Lib.hid (bw_trans G1.out g3)
  clear g3 f3
  go_wp2_with fail
  refine ((KD _ _ _ F3.out).out).mono ?_
  rintro e w4 ⟨rfl, g4⟩
  have G4 := Lib.hid (bw_alloc (bw_trans G3.out g4) (.cells #[.int .i64 0, .int .u64 0, .int .i64 0] 27))
  have K4 := Lib.hid (Bk.new w4 27 #[.int .i64 0, .int .u64 0, .int .i64 0])
  clear g4 F3
  go_wp2_with fail
  refine ((KR _ (HF.out.stays G4.out)).out).mono ?_
  rintro e w5 ⟨rfl, g5⟩
  have G5 := Lib.hid (bw_trans G4.out g5)
  have K5 := Lib.hid (K4.out.below g5)
  clear g5 K4
  go_wp2_with fail
  refine ((KT _ (HF.out.stays G5.out)).out).mono ?_
  rintro e w6 ⟨A6, c6, rfl, f6, g6⟩
  have F6 := Lib.hid f6
  have G6 := Lib.hid (bw_trans G5.out g6)
  have K6 := Lib.hid (K5.out.below g6)
  clear g6 f6 K5
  go_wp2_with fail
  refine ((KS _ _ _ F6.out).out).mono ?_
  rintro e w7 ⟨rfl, g7⟩
  have G7 := Lib.hid (bw_trans G6.out g7)
  have K7 := Lib.hid (K6.out.below g7)
  clear g7 K6 F6
  have c0 := K7.out.cell 0
  have c1 := K7.out.cell 1
  have c2 := K7.out.cell 2
  simp at c0 c1 c2
  go_wp2_with fail
  go_ret
  exact ⟨rfl, G7.out⟩
set_option maxHeartbeats 3200000 in
set_option maxRecDepth 100000 in
theorem decodes_none (A : Option Addr) (c : Nat) (F : Fb) (hL : F.length ≤ 140737488355328) (hR : ∀ es ∈ F, es.length ≤ 140737488355328) (t wd : Int) (ht : U t) (w : World) (hF : Fab w A F) (hf : fewB F = true) (hr : rightB F = true) (hw : wd = 1 ∨ wd = 2 ∨ wd = 4 ∨ wd = 8) (hd : dec F wd F.length 0 t 0 = none) :
    Calls Try.prog 3 #[.slice A F.length c, .int .u64 t, .int .i64 wd] w fun e w' => e = .returned (.bool true) ∧ Below w.heap.size w w' := by
  have HF := Lib.hid hF
  have K := fun (W : World) h => Lib.hid (few_any A c F hL hR W h)
  rw [hf] at K
  have hf' : tot F ≤ 600 := of_decide_eq_true hf
  have h6 : F.length ≤ 600 := Nat.le_trans (tot_len F) hf'
  have h6R : ∀ es ∈ F, es.length ≤ 600 := fun es he => by have := tot_mem he; omega
  have hm : F.length ≤ maxLen := by unfold maxLen; omega
  have KT := fun (W : World) h => Lib.hid (theirs_any A c F h6 h6R W h)
  have KR := fun (W : World) h => Lib.hid (rright_any A c F hm W h)
  have KS := fun B c (W : World) h => Lib.hid (right_any B c F hm W h)
  rw [hr] at KR KS
  have KD := fun B c (W : World) h => Lib.hid (decode_loop B c F hm t wd ht W h hr hw)
  have KE := fun (W : World) h => Lib.hid (rdecode_any A c F hm t wd ht (by omega) W h hr)
  rw [hd] at KD KE
  unfold hitRes at KD
  unfold rhit at KE
  have hcase : (wd != 1) = false ∨ ((wd != 1) = true ∧ (wd != 2) = false) ∨ ((wd != 1) = true ∧ (wd != 2) = true ∧ (wd != 4) = false) ∨ ((wd != 1) = true ∧ (wd != 2) = true ∧ (wd != 4) = true ∧ (wd != 8) = false) := by
    rcases hw with rfl | rfl | rfl | rfl <;> simp
  clear hw hd
  clear hF hf hR h6R hf' hr hm
  unfold TheirsPost at KT
  generalize F.length = L at *
  rcases hcase with a1 | ⟨a1, a2⟩ | ⟨a1, a2, a3⟩ | ⟨a1, a2, a3, a4⟩
  all_goals
    go_enter Try.func3, Try.ntmps3
    go_wp2_with fail
    refine (awake_any _).mono ?_
    rintro e w1 ⟨rfl, g1⟩
    have G1 := Lib.hid g1
    clear g1
    go_wp2_with fail
    refine ((K _ (HF.out.stays G1.out)).out).mono ?_
    rintro e w2 ⟨rfl, rfl⟩
    go_wp2_with fail
    refine ((KT _ (HF.out.stays G1.out)).out).mono ?_
    rintro e w3 ⟨A3, c3, rfl, f3, g3⟩
    have F3 := Lib.hid f3
    have G3 := Lib.hid (bw_trans G1.out g3)
    clear g3 f3
    go_wp2_with fail
    refine ((KD _ _ _ F3.out).out).mono ?_
    rintro e w4 ⟨rfl, g4⟩
    have G4 := Lib.hid (bw_alloc (bw_trans G3.out g4) (.cells #[.int .i64 0, .int .u64 0, .int .i64 0] 27))
    have K4 := Lib.hid (Bk.new w4 27 #[.int .i64 0, .int .u64 0, .int .i64 0])
    clear g4 F3
    go_wp2_with fail
    refine ((KR _ (HF.out.stays G4.out)).out).mono ?_
    rintro e w5 ⟨rfl, g5⟩
    have G5 := Lib.hid (bw_trans G4.out g5)
    have K5 := Lib.hid (K4.out.below g5)
    clear g5 K4
    go_wp2_with fail
    refine ((KT _ (HF.out.stays G5.out)).out).mono ?_
    rintro e w6 ⟨A6, c6, rfl, f6, g6⟩
    have F6 := Lib.hid f6
    have G6 := Lib.hid (bw_trans G5.out g6)
    have K6 := Lib.hid (K5.out.below g6)
    clear g6 f6 K5
    go_wp2_with fail
    refine ((KS _ _ _ F6.out).out).mono ?_
    rintro e w7 ⟨rfl, g7⟩
    have G7 := Lib.hid (bw_trans G6.out g7)
    have K7 := Lib.hid (K6.out.below g7)
    clear g7 K6 F6
    go_wp2_with fail
    refine ((KE _ (HF.out.stays G7.out)).out).mono ?_
    rintro e w8 ⟨rfl, g8⟩
    have G8 := Lib.hid (bw_trans G7.out g8)
    have K8 := Lib.hid (K7.out.below g8)
    clear g8 K7
    have c0 := K8.out.cell 0
    have c1 := K8.out.cell 1
    have c2 := K8.out.cell 2
    simp at c0 c1 c2
    go_wp2_with fail
    go_ret
    exact ⟨rfl, G8.out⟩
set_option maxHeartbeats 3200000 in
set_option maxRecDepth 100000 in
theorem decodes_some (A : Option Addr) (c : Nat) (F : Fb) (hL : F.length ≤ 140737488355328) (hR : ∀ es ∈ F, es.length ≤ 140737488355328) (t wd : Int) (ht : U t) (w : World) (hF : Fab w A F) (hf : fewB F = true) (d o h : Int) (hr : rightB F = true) (hw : wd = 1 ∨ wd = 2 ∨ wd = 4 ∨ wd = 8) (hd : dec F wd F.length 0 t 0 = some (d, o, h)) :
    Calls Try.prog 3 #[.slice A F.length c, .int .u64 t, .int .i64 wd] w fun e w' => e = .returned (.bool true) ∧ Below w.heap.size w w' := by
  have HF := Lib.hid hF
  have K := fun (W : World) h => Lib.hid (few_any A c F hL hR W h)
  rw [hf] at K
  have hf' : tot F ≤ 600 := of_decide_eq_true hf
  have h6 : F.length ≤ 600 := Nat.le_trans (tot_len F) hf'
  have h6R : ∀ es ∈ F, es.length ≤ 600 := fun es he => by have := tot_mem he; omega
  have hm : F.length ≤ maxLen := by unfold maxLen; omega
  have KT := fun (W : World) h => Lib.hid (theirs_any A c F h6 h6R W h)
  have KR := fun (W : World) h => Lib.hid (rright_any A c F hm W h)
  have KS := fun B c (W : World) h => Lib.hid (right_any B c F hm W h)
  rw [hr] at KR KS
  have KD := fun B c (W : World) h => Lib.hid (decode_loop B c F hm t wd ht W h hr hw)
  have KE := fun (W : World) h => Lib.hid (rdecode_any A c F hm t wd ht (by omega) W h hr)
  rw [hd] at KD KE
  unfold hitRes at KD
  unfold rhit at KE
  have hcase : (wd != 1) = false ∨ ((wd != 1) = true ∧ (wd != 2) = false) ∨ ((wd != 1) = true ∧ (wd != 2) = true ∧ (wd != 4) = false) ∨ ((wd != 1) = true ∧ (wd != 2) = true ∧ (wd != 4) = true ∧ (wd != 8) = false) := by
    rcases hw with rfl | rfl | rfl | rfl <;> simp
  clear hw hd
  clear hF hf hR h6R hf' hr hm
  unfold TheirsPost at KT
  generalize F.length = L at *
  rcases hcase with a1 | ⟨a1, a2⟩ | ⟨a1, a2, a3⟩ | ⟨a1, a2, a3, a4⟩
  all_goals
    go_enter Try.func3, Try.ntmps3
    go_wp2_with fail
    refine (awake_any _).mono ?_
    rintro e w1 ⟨rfl, g1⟩
    have G1 := Lib.hid g1
    clear g1
    go_wp2_with fail
    refine ((K _ (HF.out.stays G1.out)).out).mono ?_
    rintro e w2 ⟨rfl, rfl⟩
    go_wp2_with fail
    refine ((KT _ (HF.out.stays G1.out)).out).mono ?_
    rintro e w3 ⟨A3, c3, rfl, f3, g3⟩
    have F3 := Lib.hid f3
    have G3 := Lib.hid (bw_trans G1.out g3)
    clear g3 f3
    go_wp2_with fail
    refine ((KD _ _ _ F3.out).out).mono ?_
    rintro e w4 ⟨rfl, g4⟩
    have G4 := Lib.hid (bw_alloc (bw_trans G3.out g4) (.cells #[.int .i64 d, .int .u64 o, .int .i64 h] 27))
    have K4 := Lib.hid (Bk.new w4 27 #[.int .i64 d, .int .u64 o, .int .i64 h])
    clear g4 F3
    go_wp2_with fail
    refine ((KR _ (HF.out.stays G4.out)).out).mono ?_
    rintro e w5 ⟨rfl, g5⟩
    have G5 := Lib.hid (bw_trans G4.out g5)
    have K5 := Lib.hid (K4.out.below g5)
    clear g5 K4
    go_wp2_with fail
    refine ((KT _ (HF.out.stays G5.out)).out).mono ?_
    rintro e w6 ⟨A6, c6, rfl, f6, g6⟩
    have F6 := Lib.hid f6
    have G6 := Lib.hid (bw_trans G5.out g6)
    have K6 := Lib.hid (K5.out.below g6)
    clear g6 f6 K5
    go_wp2_with fail
    refine ((KS _ _ _ F6.out).out).mono ?_
    rintro e w7 ⟨rfl, g7⟩
    have G7 := Lib.hid (bw_trans G6.out g7)
    have K7 := Lib.hid (K6.out.below g7)
    clear g7 K6 F6
    go_wp2_with fail
    refine ((KE _ (HF.out.stays G7.out)).out).mono ?_
    rintro e w8 ⟨rfl, g8⟩
    have G8 := Lib.hid (bw_trans G7.out g8)
    have K8 := Lib.hid (K7.out.below g8)
    clear g8 K7
    have c0 := K8.out.cell 0
    have c1 := K8.out.cell 1
    have c2 := K8.out.cell 2
    simp at c0 c1 c2
    go_wp2_with fail
    go_ret
    exact ⟨rfl, G8.out⟩
theorem decodes_any (A : Option Addr) (n c : Nat) (F : Fb) (hn : F.length = n) (hL : F.length ≤ 140737488355328) (hR : ∀ es ∈ F, es.length ≤ 140737488355328) (t wd : Int) (ht : U t) (w : World) (hF : Fab w A F) :
    Calls Try.prog 3 #[.slice A n c, .int .u64 t, .int .i64 wd] w fun e w' => e = .returned (.bool true) ∧ Below w.heap.size w w' := by
  subst hn
  cases hf : fewB F
  · exact decodes_few A c F hL hR t wd w hF hf
  cases hr : rightB F
  · exact decodes_wrong A c F hL hR t wd ht w hF hf hr
  by_cases hw : wd = 1 ∨ wd = 2 ∨ wd = 4 ∨ wd = 8
  · cases hd : dec F wd F.length 0 t 0 with
    | none => exact decodes_none A c F hL hR t wd ht w hF hf hr hw hd
    | some x =>
      obtain ⟨d, o, h⟩ := x
      exact decodes_some A c F hL hR t wd ht w hF hf d o h hr hw hd
  · exact decodes_width A c F hL hR t wd ht w hF hf hr (by omega)
open Go.Deep Go.ChangeShapes Go.WideShapes Go.Joins
theorem decodes_row (A : Option Addr) (n c : Nat) (F : Fb) (hn : F.length = n) (hL : F.length ≤ 140737488355328) (hR : ∀ es ∈ F, es.length ≤ 140737488355328) (t b : Int) (w : World) (hF : Fab w A F) (ht : (Lit.int .u64 t).wf = true) (hb : (Lit.int .i64 b).wf = true) :
    Calls Try.prog 3 #[.slice A n c, .int .u64 t, .int .i64 b] w fun e w' => e = .returned (.bool true) ∧ Below w.heap.size w w' := by
  have h1 := bounds_u64 ht
  exact decodes_any A n c F hn hL hR t b ⟨h1.1, Int.lt_of_le_of_lt h1.2 (by omega)⟩ w hF
end Go.Proofs.Ytlamkhmbjkjbdaa
