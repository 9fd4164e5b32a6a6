/- The law MergeLays, walked (layer 10). Conditions: both nodes are of not more than 2^40 together. -/
import Derived.Test.YtkkpdeiooopifaaRmg
import Derived.Test.YtkkpdeiooopifaaSm
import Derived.Test.YtkkpdeiooopifaaFew
import Derived.Test.YtkkpdeiooopifaaAw
import Derived.Test.YtkkpdeiooopifaaOpen
namespace Go.Proofs.Ytkkpdeiooopifaa
open Go.RowKit Go.Sort
set_option linter.unusedVariables false
theorem boxc {W : World} {g : Nat} {nm : ByteArray} {vp vk : Value} (h : Bk W g 25 #[.string nm, vp, vk]) : W.cell? ⟨g, 0, none⟩ = some (.string nm) ∧ W.cell? ⟨g, 1, none⟩ = some vp ∧ W.cell? ⟨g, 2, none⟩ = some vk :=
  ⟨by simpa using h.cell 0, by simpa using h.cell 1, by simpa using h.cell 2⟩
theorem boxes2 {W : World} {g g' : Nat} {nm nm' : ByteArray} {vp vk up uk : Value} (h : Bk W g 25 #[.string nm, vp, vk]) (k : Bk W g' 25 #[.string nm', up, uk]) :
    W.cell? ⟨g, 0, none⟩ = some (.string nm) ∧ W.cell? ⟨g, 1, none⟩ = some vp ∧ W.cell? ⟨g, 2, none⟩ = some vk ∧ W.cell? ⟨g', 0, none⟩ = some (.string nm') ∧ W.cell? ⟨g', 1, none⟩ = some up ∧ W.cell? ⟨g', 2, none⟩ = some uk :=
  ⟨by simpa using h.cell 0, by simpa using h.cell 1, by simpa using h.cell 2, by simpa using k.cell 0, by simpa using k.cell 1, by simpa using k.cell 2⟩
set_option maxHeartbeats 3200000 in
theorem lays_any (d : Nat) (nm nm' : ByteArray) (vp vk up uk : Value) (a b : Nd) (M : Nat) (w : World) (hM : M ≤ 1099511627776) (hs : szN d a + szN d b ≤ M) (hna : nm = a.name) (ha : NdAt T w M d vp vk a) (hb : NdAt T w M d up uk b) :
    Calls Try.prog 3 #[.agg #[.string nm, vp, vk], .agg #[.string nm', up, uk]] w (TrueBelow w) := by
  have NA := Lib.hid ha
  have NB := Lib.hid hb
  have HS := Lib.hid hs
  have HNA := Lib.hid hna
  obtain ⟨A, n1, c1, A', n1', c1', rfl, rfl⟩ := ha.form
  obtain ⟨B, n2, c2, B', n2', c2', rfl, rfl⟩ := hb.form
  clear ha hb hs hna
  have KA := Lib.hid awake_any
  have KFA := Lib.hid (fun W (hw : Below w.heap.size w W) => few_any d nm _ _ a T M W hM (NA.out.keep (Kp.below _ hw) (fun _ _ h => h) (Nat.le_refl _) (Nat.le_refl _)))
  have KFB := Lib.hid (fun W (hw : Below w.heap.size w W) => few_any d nm' _ _ b T M W hM (NB.out.keep (Kp.below _ hw) (fun _ _ h => h) (Nat.le_refl _) (Nat.le_refl _)))
  have KM := Lib.hid (fun W (hw : Below w.heap.size w W) => merge_any d nm nm' _ _ _ _ a b T M W hM HS.out (fun _ _ => trivial) (NA.out.keep (Kp.below _ hw) (fun _ _ h => h) (Nat.le_refl _) (Nat.le_refl _)) (NB.out.keep (Kp.below _ hw) (fun _ _ h => h) (Nat.le_refl _) (Nat.le_refl _)))
  have KR := Lib.hid (fun W (hw : Below w.heap.size w W) => rmerge_any d nm nm' _ _ _ _ a b T M W hM HS.out (fun _ _ => trivial) (NA.out.keep (Kp.below _ hw) (fun _ _ h => h) (Nat.le_refl _) (Nat.le_refl _)) (NB.out.keep (Kp.below _ hw) (fun _ _ h => h) (Nat.le_refl _) (Nat.le_refl _)))
  unfold MergeOut at KM KR
  unfold SomeBool at KFA KFB
  unfold TrueBelow at KA
  go_enter Try.func3, Try.ntmps3
  have HA0 : Hid (Bk ((w.alloc (.cells #[.string nm, .slice A n1 c1, .slice A' n1' c1'] 25)).alloc (.cells #[.string nm', .slice B n2 c2, .slice B' n2' c2'] 25)) w.heap.size 25 #[.string nm, .slice A n1 c1, .slice A' n1' c1']) := (Bk.new _ _ _).alloc _
  have HB0 : Hid (Bk ((w.alloc (.cells #[.string nm, .slice A n1 c1, .slice A' n1' c1'] 25)).alloc (.cells #[.string nm', .slice B n2 c2, .slice B' n2' c2'] 25)) (w.heap.size + 1) 25 #[.string nm', .slice B n2 c2, .slice B' n2' c2']) := Bk.new' _ _ _ (by simp)
  have BW0 : Hid (Below w.heap.size w ((w.alloc (.cells #[.string nm, .slice A n1 c1, .slice A' n1' c1'] 25)).alloc (.cells #[.string nm', .slice B n2 c2, .slice B' n2' c2'] 25))) := bw_alloc (bw_alloc (Below.refl _ _) _) _
  go_wp2_with fail
  generalize (w.alloc (.cells #[.string nm, .slice A n1 c1, .slice A' n1' c1'] 25)).alloc (.cells #[.string nm', .slice B n2 c2, .slice B' n2' c2'] 25) = V at *
  refine (KA.out V).mono ?_
  rintro e w1 ⟨rfl, b1⟩
  have HA1 := Lib.hid (HA0.out.below b1)
  have HB1 := Lib.hid (HB0.out.below b1)
  have BW1 := Lib.hid (bw_trans BW0.out b1)
  obtain ⟨x0, x1, x2⟩ := boxc HA1.out
  clear b1 HA0 HB0 BW0
  go_wp2_with fail
  clear x0 x1 x2
  refine (KFA.out _ BW1.out).mono ?_
  rintro e w2 ⟨f1, rfl, b2⟩
  have HA2 := Lib.hid (HA1.out.below b2)
  have HB2 := Lib.hid (HB1.out.below b2)
  have BW2 := Lib.hid (bw_trans BW1.out b2)
  clear b2 HA1 HB1 BW1
  cases f1
  · go_wp2_with fail
    refine (KA.out _).mono ?_
    rintro e w3 ⟨rfl, b3⟩
    have BW3 := Lib.hid (bw_trans BW2.out b3)
    clear b3
    go_wp2_with fail
    go_ret
    exact ⟨rfl, BW3.out⟩
  · obtain ⟨x0, x1, x2⟩ := boxc HB2.out
    go_wp2_with fail
    clear x0 x1 x2
    refine (KFB.out _ BW2.out).mono ?_
    rintro e w3 ⟨f2, rfl, b3⟩
    have HA3 := Lib.hid (HA2.out.below b3)
    have HB3 := Lib.hid (HB2.out.below b3)
    have BW3 := Lib.hid (bw_trans BW2.out b3)
    clear b3 HA2 HB2 BW2
    cases f2
    · go_wp2_with fail
      refine (KA.out _).mono ?_
      rintro e w4 ⟨rfl, b4⟩
      have BW4 := Lib.hid (bw_trans BW3.out b4)
      clear b4
      go_wp2_with fail
      go_ret
      exact ⟨rfl, BW4.out⟩
    · go_wp2_with fail
      have DR : Hid (Below w3.heap.size w3 w3.drew) := Lib.hid (Below.drew (Below.refl _ _))
      go_region_held3 (fun w' => w'.cell? ⟨w.heap.size, 0, none⟩ = some (.string nm) ∧ w'.cell? ⟨w.heap.size, 1, none⟩ = some (.slice A n1 c1) ∧ w'.cell? ⟨w.heap.size, 2, none⟩ = some (.slice A' n1' c1') ∧ w'.cell? ⟨w.heap.size + 1, 0, none⟩ = some (.string nm') ∧ w'.cell? ⟨w.heap.size + 1, 1, none⟩ = some (.slice B n2 c2) ∧ w'.cell? ⟨w.heap.size + 1, 2, none⟩ = some (.slice B' n2' c2'))
        (first | exact boxes2 (HA3.out.below DR.out) (HB3.out.below DR.out) | exact boxes2 (HA3.out.below BL8.out) (HB3.out.below BL8.out) | exact boxes2 (HA3.out.below BL9.out) (HB3.out.below BL9.out) | exact boxes2 (HA3.out.below BL10.out) (HB3.out.below BL10.out))
        (first
          | (go_at_call 9; refine (KM.out _ (by first | exact bw_trans BW3.out DR.out | exact bw_trans BW3.out BL10.out)).mono ?_
             rintro e w9 ⟨xp, xk, rfl, m9, b9⟩; obtain ⟨X, k9, d9, X', k9', d9', rfl, rfl⟩ := m9.form
             have BL9 : Hid (Below w3.heap.size w3 w9) := Lib.hid (by first | exact bw_trans DR.out b9 | exact bw_trans BL10.out b9)
             have M9 := Lib.hid m9; have B9 := Lib.hid b9; clear m9 b9)
          | (go_at_call 10; refine (KR.out _ (by first | exact bw_trans BW3.out DR.out | exact bw_trans BW3.out BL9.out)).mono ?_
             rintro e w10 ⟨xp, xk, rfl, m9, b9⟩; obtain ⟨Y, k10, d10, Y', k10', d10', rfl, rfl⟩ := m9.form
             have BL10 : Hid (Below w3.heap.size w3 w10) := Lib.hid (by first | exact bw_trans DR.out b9 | exact bw_trans BL9.out b9)
             have M10 := Lib.hid m9; have B10 := Lib.hid b9; clear m9 b9)
          | (go_at_call 8; refine (same_any d nm _ _ _ _ (mergeN d a b) T M _ hM (by first | exact M9.out | exact M9.out.keep (Kp.below _ B10.out) (fun _ _ h => h) (Nat.le_refl _) (Nat.le_refl _)) (by first | exact M10.out | exact M10.out.keep (Kp.below _ B9.out) (fun _ _ h => h) (Nat.le_refl _) (Nat.le_refl _))).mono ?_
             rintro e w8 ⟨rfl, g8⟩
             have BL8 : Hid (Below w3.heap.size w3 w8) := Lib.hid (by first | exact bw_trans BL9.out g8.below | exact bw_trans BL10.out g8.below)
             clear g8))
      all_goals
        have BW8 := Lib.hid (bw_trans BW3.out BL8.out)
        go_wp2_with fail
        go_ret
        exact ⟨rfl, BW8.out⟩
end Go.Proofs.Ytkkpdeiooopifaa
