/- The law MergeTwice, walked (layer 10). Conditions: both nodes are of not more than 2^38 together. -/
import Derived.Test.YtkkpdeiooopifaaLays
import Derived.Test.YtkkpdeiooopifaaUq
namespace Go.Proofs.Ytkkpdeiooopifaa
open Go.RowKit Go.Sort
set_option linter.unusedVariables false
theorem sz_empty (d : Nat) (s : ByteArray) (hs : s.size = 0) : szN d (.mk s [] []) = 1 := by
  cases d with
  | zero => rfl
  | succ d => simp [szN, Nd.name, Nd.props, Nd.kids, tot_nil, hs]
theorem boxes3 {W : World} {g g' q : Nat} {nm nm' nq : ByteArray} {vp vk up uk xp xk : Value} (h : Bk W g 25 #[.string nm, vp, vk]) (k : Bk W g' 25 #[.string nm', up, uk]) (l : Bk W q 25 #[.string nq, xp, xk]) :
    W.cell? ⟨g, 0, none⟩ = some (.string nm) ∧ W.cell? ⟨g, 1, none⟩ = some vp ∧ W.cell? ⟨g, 2, none⟩ = some vk ∧ W.cell? ⟨g', 0, none⟩ = some (.string nm') ∧ W.cell? ⟨g', 1, none⟩ = some up ∧ W.cell? ⟨g', 2, none⟩ = some uk ∧ W.cell? ⟨q, 0, none⟩ = some (.string nq) ∧ W.cell? ⟨q, 1, none⟩ = some xp ∧ W.cell? ⟨q, 2, none⟩ = some xk :=
  ⟨by simpa using h.cell 0, by simpa using h.cell 1, by simpa using h.cell 2, by simpa using k.cell 0, by simpa using k.cell 1, by simpa using k.cell 2, by simpa using l.cell 0, by simpa using l.cell 1, by simpa using l.cell 2⟩
set_option maxHeartbeats 3200000 in
theorem twice_any (d : Nat) (nm nm' : ByteArray) (vp vk up uk : Value) (a b : Nd) (M : Nat) (w : World) (hM : M ≤ 1099511627776) (hs : szN d a + szN d b + szN d b + 1 ≤ M) (hna : nm = a.name) (ha : NdAt T w M d vp vk a) (hb : NdAt T w M d up uk b) :
    Calls Try.prog 4 #[.agg #[.string nm, vp, vk], .agg #[.string nm', up, uk]] w (TrueBelow w) := by
  have NA := Lib.hid ha
  have NB := Lib.hid hb
  have N0 : Hid (∀ W, NdAt T W M d (.slice none 0 0) (.slice none 0 0) nd0) := Lib.hid fun W => by
    cases d with
    | zero => cases ha
    | succ d => exact nd0_at _ _ _ _
  have HS := Lib.hid hs
  have HNA := Lib.hid hna
  obtain ⟨A, n1, c1, A', n1', c1', rfl, rfl⟩ := ha.form
  obtain ⟨B, n2, c2, B', n2', c2', rfl, rfl⟩ := hb.form
  clear ha hb hs hna
  have KA := Lib.hid awake_any
  have KFA := Lib.hid (fun W (hw : Below w.heap.size w W) => few_any d nm _ _ a T M W hM (NA.out.keep (Kp.below _ hw) (fun _ _ h => h) (Nat.le_refl _) (Nat.le_refl _)))
  have KFB := Lib.hid (fun W (hw : Below w.heap.size w W) => few_any d nm' _ _ b T M W hM (NB.out.keep (Kp.below _ hw) (fun _ _ h => h) (Nat.le_refl _) (Nat.le_refl _)))
  have KUA := Lib.hid (fun W (hw : Below w.heap.size w W) => unique_any d nm _ _ a T M W hM (NA.out.keep (Kp.below _ hw) (fun _ _ h => h) (Nat.le_refl _) (Nat.le_refl _)))
  have KUB := Lib.hid (fun W (hw : Below w.heap.size w W) => unique_any d nm' _ _ b T M W hM (NB.out.keep (Kp.below _ hw) (fun _ _ h => h) (Nat.le_refl _) (Nat.le_refl _)))
  have KM := Lib.hid (fun W (hw : Below w.heap.size w W) => merge_any d nm nm' _ _ _ _ a b T M W hM (by have := HS.out; omega) (fun _ _ => trivial) (NA.out.keep (Kp.below _ hw) (fun _ _ h => h) (Nat.le_refl _) (Nat.le_refl _)) (NB.out.keep (Kp.below _ hw) (fun _ _ h => h) (Nat.le_refl _) (Nat.le_refl _)))
  have KM0 := Lib.hid (fun W (hw : Below w.heap.size w W) => merge_any d nm ⟨#[]⟩ _ _ _ _ a nd0 T M W hM (by have := HS.out; have := sz_empty d ⟨#[]⟩ rfl; unfold nd0; have := szN_pos d b; omega) (fun _ _ => trivial) (NA.out.keep (Kp.below _ hw) (fun _ _ h => h) (Nat.le_refl _) (Nat.le_refl _)) (N0.out W))
  have E0 : Hid (mergeN d a nd0 = a) := Lib.hid (merge_none d a _)
  unfold MergeOut at KM KM0
  unfold SomeBool at KFA KFB
  unfold UniqOut at KUA KUB
  unfold TrueBelow at KA
  generalize hua : uqB d a = ua at KUA
  generalize hub : uqB d b = ub at KUB
  have HUA := Lib.hid hua
  have HUB := Lib.hid hub
  clear hua hub
  go_enter Try.func4, Try.ntmps4
  have HA0 : Hid (Bk ((w.alloc (.cells #[.string nm, .slice A n1 c1, .slice A' n1' c1'] 25)).alloc (.cells #[.string nm', .slice B n2 c2, .slice B' n2' c2'] 25)) w.heap.size 25 #[.string nm, .slice A n1 c1, .slice A' n1' c1']) := (Bk.new _ _ _).alloc _
  have HB0 : Hid (Bk ((w.alloc (.cells #[.string nm, .slice A n1 c1, .slice A' n1' c1'] 25)).alloc (.cells #[.string nm', .slice B n2 c2, .slice B' n2' c2'] 25)) (w.heap.size + 1) 25 #[.string nm', .slice B n2 c2, .slice B' n2' c2']) := Bk.new' _ _ _ (by simp)
  have BW0 : Hid (Below w.heap.size w ((w.alloc (.cells #[.string nm, .slice A n1 c1, .slice A' n1' c1'] 25)).alloc (.cells #[.string nm', .slice B n2 c2, .slice B' n2' c2'] 25))) := bw_alloc (bw_alloc (Below.refl _ _) _) _
  go_wp2_with fail
  generalize (w.alloc (.cells #[.string nm, .slice A n1 c1, .slice A' n1' c1'] 25)).alloc (.cells #[.string nm', .slice B n2 c2, .slice B' n2' c2'] 25) = V at *
  refine (KA.out V).mono ?_
  rintro e w1 ⟨rfl, b1⟩
  have HA1 := Lib.hid (HA0.out.below b1)
  have HB1 := Lib.hid (HB0.out.below b1)
  have BW1 := Lib.hid (bw_trans BW0.out b1)
  obtain ⟨x0, x1, x2⟩ := boxc HA1.out
  clear b1 HA0 HB0 BW0
  go_wp2_with fail
  clear x0 x1 x2
  refine (KFA.out _ BW1.out).mono ?_
  rintro e w2 ⟨f1, rfl, b2⟩
  have HA2 := Lib.hid (HA1.out.below b2)
  have HB2 := Lib.hid (HB1.out.below b2)
  have BW2 := Lib.hid (bw_trans BW1.out b2)
  clear b2 HA1 HB1 BW1
  cases f1
  · go_wp2_with fail
    refine (KA.out _).mono ?_
    rintro e w3 ⟨rfl, b3⟩
    have BW3 := Lib.hid (bw_trans BW2.out b3)
    clear b3
    go_wp2_with fail
    go_ret
    exact ⟨rfl, BW3.out⟩
  obtain ⟨x0, x1, x2⟩ := boxc HB2.out
  go_wp2_with fail
  clear x0 x1 x2
  refine (KFB.out _ BW2.out).mono ?_
  rintro e w3 ⟨f2, rfl, b3⟩
  have HA3 := Lib.hid (HA2.out.below b3)
  have HB3 := Lib.hid (HB2.out.below b3)
  have BW3 := Lib.hid (bw_trans BW2.out b3)
  clear b3 HA2 HB2 BW2
  cases f2
  · go_wp2_with fail
    refine (KA.out _).mono ?_
    rintro e w4 ⟨rfl, b4⟩
    have BW4 := Lib.hid (bw_trans BW3.out b4)
    clear b4
    go_wp2_with fail
    go_ret
    exact ⟨rfl, BW4.out⟩
  obtain ⟨x0, x1, x2⟩ := boxc HA3.out
  go_wp2_with fail
  clear x0 x1 x2
  refine (KUA.out _ BW3.out).mono ?_
  rintro e w4 ⟨rfl, g4⟩
  have b4 := g4.below
  have HA4 := Lib.hid (HA3.out.below b4)
  have HB4 := Lib.hid (HB3.out.below b4)
  have BW4 := Lib.hid (bw_trans BW3.out b4)
  clear b4 g4 HA3 HB3 BW3
  cases ua
  · go_wp2_with fail
    refine (KA.out _).mono ?_
    rintro e w5 ⟨rfl, b5⟩
    have BW5 := Lib.hid (bw_trans BW4.out b5)
    clear b5
    go_wp2_with fail
    go_ret
    exact ⟨rfl, BW5.out⟩
  obtain ⟨x0, x1, x2⟩ := boxc HB4.out
  go_wp2_with fail
  clear x0 x1 x2
  refine (KUB.out _ BW4.out).mono ?_
  rintro e w5 ⟨rfl, g5⟩
  have b5 := g5.below
  have HA5 := Lib.hid (HA4.out.below b5)
  have HB5 := Lib.hid (HB4.out.below b5)
  have BW5 := Lib.hid (bw_trans BW4.out b5)
  clear b5 g5 HA4 HB4 BW4
  cases ub
  · go_wp2_with fail
    refine (KA.out _).mono ?_
    rintro e w6 ⟨rfl, b6⟩
    have BW6 := Lib.hid (bw_trans BW5.out b6)
    clear b6
    go_wp2_with fail
    go_ret
    exact ⟨rfl, BW6.out⟩
  have UA := Lib.hid (uqB_of HUA.out)
  have UB := Lib.hid (uqB_of HUB.out)
  clear HUA HUB KUA KUB KFA KFB KA
  have E2 := Lib.hid (merge_twice UA.out UB.out)
  obtain ⟨x0, x1, x2⟩ := boxc HA5.out
  obtain ⟨y0, y1, y2⟩ := boxc HB5.out
  go_wp2_with fail
  clear x0 x1 x2 y0 y1 y2
  refine (KM.out _ BW5.out).mono ?_
  rintro e w6 ⟨xp, xk, rfl, m6, b6⟩
  obtain ⟨X, k6, d6, X', k6', d6', rfl, rfl⟩ := m6.form
  have HA6 := Lib.hid (HA5.out.below b6)
  have HB6 := Lib.hid (HB5.out.below b6)
  have BW6 := Lib.hid (bw_trans BW5.out b6)
  have M6 := Lib.hid m6
  clear b6 m6 HA5 HB5 BW5
  go_wp2_with fail
  have HA7 : Hid (Bk (w6.alloc (.cells #[.string nm, .slice X k6 d6, .slice X' k6' d6'] 25)) w.heap.size 25 #[.string nm, .slice A n1 c1, .slice A' n1' c1']) := HA6.out.alloc _
  have HB7 : Hid (Bk (w6.alloc (.cells #[.string nm, .slice X k6 d6, .slice X' k6' d6'] 25)) (w.heap.size + 1) 25 #[.string nm', .slice B n2 c2, .slice B' n2' c2']) := HB6.out.alloc _
  have HC7 : Hid (Bk (w6.alloc (.cells #[.string nm, .slice X k6 d6, .slice X' k6' d6'] 25)) w6.heap.size 25 #[.string nm, .slice X k6 d6, .slice X' k6' d6']) := Bk.new _ _ _
  have BW7 : Hid (Below w.heap.size w (w6.alloc (.cells #[.string nm, .slice X k6 d6, .slice X' k6' d6'] 25))) := bw_alloc BW6.out _
  have M7 : Hid (NdAt T (w6.alloc (.cells #[.string nm, .slice X k6 d6, .slice X' k6' d6'] 25)) M d (.slice X k6 d6) (.slice X' k6' d6') (mergeN d a b)) := M6.out.keep (Kp.below _ (bw_alloc (Below.refl _ _) _)) (fun _ _ h => h) (Nat.le_refl _) (Nat.le_refl _)
  clear HA6 HB6 BW6 M6
  generalize w6.alloc (.cells #[.string nm, .slice X k6 d6, .slice X' k6' d6'] 25) = w7 at *
  obtain ⟨C, hC⟩ : ∃ C, C = w6.heap.size := ⟨_, rfl⟩
  simp only [← hC]
  rw [← hC] at HC7
  clear hC
  have KM2 := Lib.hid (fun W (hw : Below w7.heap.size w7 W) => merge_any d nm nm' _ _ _ _ (mergeN d a b) b T M W hM (by have := HS.out; have := sz_merge d a b; omega) (fun _ _ => trivial) (M7.out.keep (Kp.below _ hw) (fun _ _ h => h) (Nat.le_refl _) (Nat.le_refl _)) (NB.out.keep (Kp.below _ (bw_trans BW7.out hw)) (fun _ _ h => h) (Nat.le_refl _) (Nat.le_refl _)))
  unfold MergeOut at KM2
  rw [E2.out] at KM2
  rw [E0.out] at KM0
  have DR : Hid (Below w7.heap.size w7 w7.drew) := Lib.hid (Below.drew (Below.refl _ _))
  go_region_held3 (fun w' => w'.cell? ⟨w.heap.size, 0, none⟩ = some (.string nm) ∧ w'.cell? ⟨w.heap.size, 1, none⟩ = some (.slice A n1 c1) ∧ w'.cell? ⟨w.heap.size, 2, none⟩ = some (.slice A' n1' c1') ∧ w'.cell? ⟨w.heap.size + 1, 0, none⟩ = some (.string nm') ∧ w'.cell? ⟨w.heap.size + 1, 1, none⟩ = some (.slice B n2 c2) ∧ w'.cell? ⟨w.heap.size + 1, 2, none⟩ = some (.slice B' n2' c2') ∧ w'.cell? ⟨C, 0, none⟩ = some (.string nm) ∧ w'.cell? ⟨C, 1, none⟩ = some (.slice X k6 d6) ∧ w'.cell? ⟨C, 2, none⟩ = some (.slice X' k6' d6'))
    (first | exact boxes3 (HA7.out.below BL4.out) (HB7.out.below BL4.out) (HC7.out.below BL4.out) | exact boxes3 (HA7.out.below BL3.out) (HB7.out.below BL3.out) (HC7.out.below BL3.out) | exact boxes3 (HA7.out.below BL2.out) (HB7.out.below BL2.out) (HC7.out.below BL2.out) | exact boxes3 (HA7.out.below BL1.out) (HB7.out.below BL1.out) (HC7.out.below BL1.out) | exact boxes3 (HA7.out.below DR.out) (HB7.out.below DR.out) (HC7.out.below DR.out))
    (first
      | (have hh := BL3; go_at_call 8; clear hh; refine (same_any d nm _ _ _ _ a T M _ hM M3.out (NA.out.keep (Kp.below _ (bw_trans BW7.out BL3.out)) (fun _ _ h => h) (Nat.le_refl _) (Nat.le_refl _))).mono ?_
         rintro e v4 ⟨rfl, g⟩
         have BL4 : Hid (Below w7.heap.size w7 v4) := Lib.hid (bw_trans BL3.out g.below)
         clear g)
      | (have hh := BL2; go_at_call 9; clear hh; refine (KM0.out _ (bw_trans BW7.out BL2.out)).mono ?_
         rintro e v3 ⟨xp, xk, rfl, m9, b9⟩; obtain ⟨Z, k9, d9, Z', k9', d9', rfl, rfl⟩ := m9.form
         have BL3 : Hid (Below w7.heap.size w7 v3) := Lib.hid (bw_trans BL2.out b9)
         have M3 := Lib.hid m9; clear m9 b9)
      | (have hh := BL1; go_at_call 8; clear hh; refine (same_any d nm _ _ _ _ (mergeN d a b) T M _ hM M1.out (M7.out.keep (Kp.below _ BL1.out) (fun _ _ h => h) (Nat.le_refl _) (Nat.le_refl _))).mono ?_
         rintro e v2 ⟨rfl, g⟩
         have BL2 : Hid (Below w7.heap.size w7 v2) := Lib.hid (bw_trans BL1.out g.below)
         clear g)
      | (go_at_call 9; refine (KM2.out _ DR.out).mono ?_
         rintro e v1 ⟨xp, xk, rfl, m9, b9⟩; obtain ⟨Y, k8, d8, Y', k8', d8', rfl, rfl⟩ := m9.form
         have BL1 : Hid (Below w7.heap.size w7 v1) := Lib.hid (bw_trans DR.out b9)
         have M1 := Lib.hid m9; clear m9 b9))
  all_goals
    have BW8 := Lib.hid (bw_trans BW7.out BL4.out)
    go_wp2_with fail
    go_ret
    exact ⟨rfl, BW8.out⟩
end Go.Proofs.Ytkkpdeiooopifaa
