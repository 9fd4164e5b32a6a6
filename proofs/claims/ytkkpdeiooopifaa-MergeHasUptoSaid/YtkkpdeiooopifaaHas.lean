/- The law MergeHas, walked (layer 10). Conditions: both nodes are of not more than 2^40 together. -/
import Derived.Test.YtkkpdeiooopifaaTwice
namespace Go.Proofs.Ytkkpdeiooopifaa
open Go.RowKit Go.Sort
set_option linter.unusedVariables false
set_option maxHeartbeats 3200000 in
theorem has_any (d : Nat) (nm nm' : ByteArray) (vp vk up uk : Value) (a b : Nd) (M : Nat) (w : World) (hM : M ≤ 1099511627776) (hs : szN d a + szN d b ≤ M) (hna : nm = a.name) (ha : NdAt T w M d vp vk a) (hb : NdAt T w M d up uk b) :
    Calls Try.prog 5 #[.agg #[.string nm, vp, vk], .agg #[.string nm', up, uk]] w (TrueBelow w) := by
  have NA := Lib.hid ha
  have NB := Lib.hid hb
  have HS := Lib.hid hs
  have HNA := Lib.hid hna
  obtain ⟨d, rfl⟩ : ∃ e, d = e + 1 := ⟨d - 1, by
    cases d with
    | zero => cases ha
    | succ d => omega⟩
  obtain ⟨A, c1, rfl, la1, la2, la3⟩ := ha.1.form
  obtain ⟨A', c1', rfl, la4, la5, la6⟩ := ha.2.form
  obtain ⟨B, c2, rfl, lb1, lb2, lb3⟩ := hb.1.form
  obtain ⟨B', c2', rfl, lb4, lb5, lb6⟩ := hb.2.form
  unfold maxLen at la2 la5 lb2 lb5
  generalize hl1 : a.props.length = n1 at *
  generalize hl2 : a.kids.length = n1' at *
  generalize hl3 : b.props.length = n2 at *
  generalize hl4 : b.kids.length = n2' at *
  have L1 := Lib.hid hl1
  have L2 := Lib.hid hl2
  have L3 := Lib.hid hl3
  have L4 := Lib.hid hl4
  clear hl1 hl2 hl3 hl4
  clear ha hb hs hna
  have KA := Lib.hid awake_any
  have KFA := Lib.hid (fun W (hw : Below w.heap.size w W) => few_any (d + 1) nm _ _ a T M W hM (NA.out.keep (Kp.below _ hw) (fun _ _ h => h) (Nat.le_refl _) (Nat.le_refl _)))
  have KFB := Lib.hid (fun W (hw : Below w.heap.size w W) => few_any (d + 1) nm' _ _ b T M W hM (NB.out.keep (Kp.below _ hw) (fun _ _ h => h) (Nat.le_refl _) (Nat.le_refl _)))
  have KUA := Lib.hid (fun W (hw : Below w.heap.size w W) => unique_any (d + 1) nm _ _ a T M W hM (NA.out.keep (Kp.below _ hw) (fun _ _ h => h) (Nat.le_refl _) (Nat.le_refl _)))
  have KUB := Lib.hid (fun W (hw : Below w.heap.size w W) => unique_any (d + 1) nm' _ _ b T M W hM (NB.out.keep (Kp.below _ hw) (fun _ _ h => h) (Nat.le_refl _) (Nat.le_refl _)))
  have KM := Lib.hid (fun W (hw : Below w.heap.size w W) => merge_any (d + 1) nm nm' _ _ _ _ a b T M W hM HS.out (fun _ _ => trivial) (NA.out.keep (Kp.below _ hw) (fun _ _ h => h) (Nat.le_refl _) (Nat.le_refl _)) (NB.out.keep (Kp.below _ hw) (fun _ _ h => h) (Nat.le_refl _) (Nat.le_refl _)))
  unfold MergeOut at KM
  unfold SomeBool at KFA KFB
  unfold UniqOut at KUA KUB
  unfold TrueBelow at KA
  generalize hua : uqB (d + 1) a = ua at KUA
  generalize hub : uqB (d + 1) b = ub at KUB
  have HUA := Lib.hid hua
  have HUB := Lib.hid hub
  clear hua hub
  go_enter Try.func5, Try.ntmps5
  have HA0 : Hid (Bk ((w.alloc (.cells #[.string nm, .slice A n1 c1, .slice A' n1' c1'] 25)).alloc (.cells #[.string nm', .slice B n2 c2, .slice B' n2' c2'] 25)) w.heap.size 25 #[.string nm, .slice A n1 c1, .slice A' n1' c1']) := (Bk.new _ _ _).alloc _
  have HB0 : Hid (Bk ((w.alloc (.cells #[.string nm, .slice A n1 c1, .slice A' n1' c1'] 25)).alloc (.cells #[.string nm', .slice B n2 c2, .slice B' n2' c2'] 25)) (w.heap.size + 1) 25 #[.string nm', .slice B n2 c2, .slice B' n2' c2']) := Bk.new' _ _ _ (by simp)
  have BW0 : Hid (Below w.heap.size w ((w.alloc (.cells #[.string nm, .slice A n1 c1, .slice A' n1' c1'] 25)).alloc (.cells #[.string nm', .slice B n2 c2, .slice B' n2' c2'] 25))) := bw_alloc (bw_alloc (Below.refl _ _) _) _
  go_wp2_with fail
  generalize (w.alloc (.cells #[.string nm, .slice A n1 c1, .slice A' n1' c1'] 25)).alloc (.cells #[.string nm', .slice B n2 c2, .slice B' n2' c2'] 25) = V at *
  refine (KA.out V).mono ?_
  rintro e w1 ⟨rfl, b1⟩
  have HA1 := Lib.hid (HA0.out.below b1)
  have HB1 := Lib.hid (HB0.out.below b1)
  have BW1 := Lib.hid (bw_trans BW0.out b1)
  obtain ⟨x0, x1, x2⟩ := boxc HA1.out
  clear b1 HA0 HB0 BW0
  go_wp2_with fail
  clear x0 x1 x2
  refine (KFA.out _ BW1.out).mono ?_
  rintro e w2 ⟨f1, rfl, b2⟩
  have HA2 := Lib.hid (HA1.out.below b2)
  have HB2 := Lib.hid (HB1.out.below b2)
  have BW2 := Lib.hid (bw_trans BW1.out b2)
  clear b2 HA1 HB1 BW1
  cases f1
  · go_wp2_with fail
    refine (KA.out _).mono ?_
    rintro e w3 ⟨rfl, b3⟩
    have BW3 := Lib.hid (bw_trans BW2.out b3)
    clear b3
    go_wp2_with fail
    go_ret
    exact ⟨rfl, BW3.out⟩
  obtain ⟨x0, x1, x2⟩ := boxc HB2.out
  go_wp2_with fail
  clear x0 x1 x2
  refine (KFB.out _ BW2.out).mono ?_
  rintro e w3 ⟨f2, rfl, b3⟩
  have HA3 := Lib.hid (HA2.out.below b3)
  have HB3 := Lib.hid (HB2.out.below b3)
  have BW3 := Lib.hid (bw_trans BW2.out b3)
  clear b3 HA2 HB2 BW2
  cases f2
  · go_wp2_with fail
    refine (KA.out _).mono ?_
    rintro e w4 ⟨rfl, b4⟩
    have BW4 := Lib.hid (bw_trans BW3.out b4)
    clear b4
    go_wp2_with fail
    go_ret
    exact ⟨rfl, BW4.out⟩
  obtain ⟨x0, x1, x2⟩ := boxc HA3.out
  go_wp2_with fail
  clear x0 x1 x2
  refine (KUA.out _ BW3.out).mono ?_
  rintro e w4 ⟨rfl, g4⟩
  have b4 := g4.below
  have HA4 := Lib.hid (HA3.out.below b4)
  have HB4 := Lib.hid (HB3.out.below b4)
  have BW4 := Lib.hid (bw_trans BW3.out b4)
  clear b4 g4 HA3 HB3 BW3
  cases ua
  · go_wp2_with fail
    refine (KA.out _).mono ?_
    rintro e w5 ⟨rfl, b5⟩
    have BW5 := Lib.hid (bw_trans BW4.out b5)
    clear b5
    go_wp2_with fail
    go_ret
    exact ⟨rfl, BW5.out⟩
  obtain ⟨x0, x1, x2⟩ := boxc HB4.out
  go_wp2_with fail
  clear x0 x1 x2
  refine (KUB.out _ BW4.out).mono ?_
  rintro e w5 ⟨rfl, g5⟩
  have b5 := g5.below
  have HA5 := Lib.hid (HA4.out.below b5)
  have HB5 := Lib.hid (HB4.out.below b5)
  have BW5 := Lib.hid (bw_trans BW4.out b5)
  clear b5 g5 HA4 HB4 BW4
  cases ub
  · go_wp2_with fail
    refine (KA.out _).mono ?_
    rintro e w6 ⟨rfl, b6⟩
    have BW6 := Lib.hid (bw_trans BW5.out b6)
    clear b6
    go_wp2_with fail
    go_ret
    exact ⟨rfl, BW6.out⟩
  have UA := Lib.hid (uqB_of HUA.out)
  have UB := Lib.hid (uqB_of HUB.out)
  clear HUA HUB KUA KUB KFA KFB KA
  obtain ⟨x0, x1, x2⟩ := boxc HA5.out
  obtain ⟨y0, y1, y2⟩ := boxc HB5.out
  go_wp2_with fail
  clear x0 x1 x2 y0 y1 y2
  refine (KM.out _ BW5.out).mono ?_
  rintro e w6 ⟨xp, xk, rfl, m6, b6⟩
  obtain ⟨X, d6, rfl, lx1, lx2, lx3⟩ := m6.1.form
  obtain ⟨X', d6', rfl, lx4, lx5, lx6⟩ := m6.2.form
  unfold maxLen at lx2 lx5
  have HPR := Lib.hid (fun i p h => has_props UA.out UB.out i p h)
  have HKI := Lib.hid (fun i p h => has_kids UA.out UB.out i p h)
  have HTH := Lib.hid (fun p h => has_theirs UA.out UB.out p h)
  have HND := Lib.hid (fun k h => has_nodes UA.out UB.out k h)
  have HUQ := Lib.hid (uqB_true (merge_uniq UA.out UB.out))
  generalize mergeN (d + 1) a b = x at *
  generalize hl5 : x.props.length = k6 at *
  generalize hl6 : x.kids.length = k6' at *
  have L5 := Lib.hid hl5
  have L6 := Lib.hid hl6
  clear hl5 hl6
  have HA6 := Lib.hid (HA5.out.below b6)
  have HB6 := Lib.hid (HB5.out.below b6)
  have BW6 := Lib.hid (bw_trans BW5.out b6)
  have M6 := Lib.hid m6
  clear b6 m6 HA5 HB5 BW5 KM
  have HA7 : Hid (Bk (w6.alloc (.cells #[.string nm, .slice X k6 d6, .slice X' k6' d6'] 25)) w.heap.size 25 #[.string nm, .slice A n1 c1, .slice A' n1' c1']) := HA6.out.alloc _
  have HB7 : Hid (Bk (w6.alloc (.cells #[.string nm, .slice X k6 d6, .slice X' k6' d6'] 25)) (w.heap.size + 1) 25 #[.string nm', .slice B n2 c2, .slice B' n2' c2']) := HB6.out.alloc _
  have HC7 : Hid (Bk (w6.alloc (.cells #[.string nm, .slice X k6 d6, .slice X' k6' d6'] 25)) w6.heap.size 25 #[.string nm, .slice X k6 d6, .slice X' k6' d6']) := Bk.new _ _ _
  have BW7 : Hid (Below w.heap.size w (w6.alloc (.cells #[.string nm, .slice X k6 d6, .slice X' k6' d6'] 25))) := bw_alloc BW6.out _
  have M7 : Hid (NdAt T (w6.alloc (.cells #[.string nm, .slice X k6 d6, .slice X' k6' d6'] 25)) M (d + 1) (.slice X k6 d6) (.slice X' k6' d6') x) := M6.out.keep (Kp.below _ (bw_alloc (Below.refl _ _) _)) (fun _ _ h => h) (Nat.le_refl _) (Nat.le_refl _)
  have z1 : ∀ o, (w6.alloc o).cell? ⟨w.heap.size, 1, none⟩ = some (.slice A n1 c1) := fun o => by simpa using (HA6.out.alloc o).cell 1
  clear HA6 HB6 BW6 M6
  go_wp2_with fail
  clear z1
  generalize w6.alloc (.cells #[.string nm, .slice X k6 d6, .slice X' k6' d6'] 25) = w7 at *
  obtain ⟨C, hC⟩ : ∃ C, C = w6.heap.size := ⟨_, rfl⟩
  simp only [← hC]
  rw [← hC] at HC7
  clear hC
  go_loopg [40] n1 (fun gg s40 wr => ∃ k : Nat, k ≤ n1 ∧ n1 - k ≤ gg ∧ s40 = .int .i64 k ∧ Hid (Gr w7 wr))
  case atStart => exact ⟨0, Nat.zero_le _, by omega, rfl, Gr.refl _⟩
  case round =>
    obtain ⟨k, hk, hg, rfl, GW⟩ := hrel
    by_cases hlt : k < n1
    · have hq : a.props[k]? = some (a.props[k]'(by rw [L1.out]; exact hlt)) := List.getElem?_eq_getElem _
      generalize a.props[k]'(by rw [L1.out]; exact hlt) = q at hq
      obtain ⟨q', hq', hqq⟩ := HPR.out k q hq
      obtain ⟨ad, bv, rfl, _, c0, _⟩ := (NA.out.1.keep (Kp.below _ (bw_trans BW7.out GW.out.below)) (fun _ _ h => h) (Nat.le_refl _)).at_ hq
      obtain ⟨ad', bv', rfl, _, c0', _⟩ := (M7.out.1.keep (Kp.below _ GW.out.below) (fun _ _ h => h) (Nat.le_refl _)).at_ hq'
      rw [hqq] at c0'
      have hlx : k < k6 := by have := (List.getElem?_eq_some_iff.1 hq').1; have := L5.out; omega
      obtain ⟨s, y⟩ := q
      simp only at c0 c0'
      clear hq hq' hqq
      have a1 : wr.cell? ⟨w.heap.size, 1, none⟩ = some (.slice (some ad) n1 c1) := by simpa using (HA7.out.below GW.out.below).cell 1
      have a2 : wr.cell? ⟨C, 1, none⟩ = some (.slice (some ad') k6 d6) := by simpa using (HC7.out.below GW.out.below).cell 1
      have mixed : Try.prog.follows .mixedOrders = true := by kernel_rfl
      have C0 := fun m os => cell_grown (World.block_lt_of_cell? _ _ c0) c0 m os
      have C1 := fun m os => cell_grown (World.block_lt_of_cell? _ _ c0') c0' m os
      have A1 := fun m os => cell_grown (World.block_lt_of_cell? _ _ a1) a1 m os
      have A2 := fun m os => cell_grown (World.block_lt_of_cell? _ _ a2) a2 m os
      clear c0 c0' a1 a2
      go_wp2_with fail
      go_quiet_grown (fail)
      have GW4 : Hid (Gr w7 (grow (wr.drewN nq) osq)) := Lib.hid (GW.out.trans ⟨nq, osq, rfl⟩)
      generalize grow (wr.drewN nq) osq = w4 at *
      clear C0 C1 A1 A2
      go_wp2_with fail
      go_roundg (n1 - (k + 1))
      case measure => omega
      case rel => exact ⟨k + 1, by omega, by omega, by go_num, GW4⟩
    · obtain rfl : k = n1 := by omega
      have a2 : wr.cell? ⟨w.heap.size, 2, none⟩ = some (.slice A' n1' c1') := by simpa using (HA7.out.below GW.out.below).cell 2
      go_wp2_with fail
      clear a2
      obtain ⟨gk1, rfl⟩ : ∃ g, g = gk := ⟨_, rfl⟩
      obtain ⟨wo, rfl⟩ : ∃ wo : World, wo = wr := ⟨_, rfl⟩
      have GW1 := GW
      go_loopg [60] n1' (fun gg s60 wr => ∃ j : Nat, j ≤ n1' ∧ n1' - j ≤ gg ∧ s60 = .int .i64 j ∧ Hid (Gr w7 wr))
      case atStart => exact ⟨0, Nat.zero_le _, by omega, rfl, GW1⟩
      case round =>
        clear GW GW1 hg hlt
        obtain ⟨j, hj, hg, rfl, GW⟩ := hrel
        by_cases hlt : j < n1'
        · have hq : a.kids[j]? = some (a.kids[j]'(by rw [L2.out]; exact hlt)) := List.getElem?_eq_getElem _
          generalize a.kids[j]'(by rw [L2.out]; exact hlt) = q at hq
          obtain ⟨q', hq', hqq⟩ := HKI.out j q hq
          obtain ⟨ad, _, _, rfl, _, c0, _⟩ := (NA.out.2.keep (Kp.below _ (bw_trans BW7.out GW.out.below)) (fun _ _ h => h) (Nat.le_refl _) (Nat.le_refl _)).at_ hq
          obtain ⟨ad', _, _, rfl, _, c0', _⟩ := (M7.out.2.keep (Kp.below _ GW.out.below) (fun _ _ h => h) (Nat.le_refl _) (Nat.le_refl _)).at_ hq'
          rw [hqq] at c0'
          have hlx : j < k6' := by have := (List.getElem?_eq_some_iff.1 hq').1; have := L6.out; omega
          generalize q.name = s at c0 c0'
          clear hq hq' hqq
          have a1 : wr.cell? ⟨w.heap.size, 2, none⟩ = some (.slice (some ad) n1' c1') := by simpa using (HA7.out.below GW.out.below).cell 2
          have a2 : wr.cell? ⟨C, 2, none⟩ = some (.slice (some ad') k6' d6') := by simpa using (HC7.out.below GW.out.below).cell 2
          have mixed : Try.prog.follows .mixedOrders = true := by kernel_rfl
          have C0 := fun m os => cell_grown (World.block_lt_of_cell? _ _ c0) c0 m os
          have C1 := fun m os => cell_grown (World.block_lt_of_cell? _ _ c0') c0' m os
          have A1 := fun m os => cell_grown (World.block_lt_of_cell? _ _ a1) a1 m os
          have A2 := fun m os => cell_grown (World.block_lt_of_cell? _ _ a2) a2 m os
          clear c0 c0' a1 a2
          go_wp2_with fail
          go_quiet_grown (fail)
          have GW4 : Hid (Gr w7 (grow (wr.drewN nq) osq)) := Lib.hid (GW.out.trans ⟨nq, osq, rfl⟩)
          generalize grow (wr.drewN nq) osq = w4 at *
          clear C0 C1 A1 A2
          go_wp2_with fail
          go_roundg (n1' - (j + 1))
          case measure => omega
          case rel => exact ⟨j + 1, by omega, by omega, by go_num, GW4⟩
        · obtain rfl : j = n1' := by omega
          have a2 : wr.cell? ⟨w.heap.size + 1, 1, none⟩ = some (.slice B n2 c2) := by simpa using (HB7.out.below GW.out.below).cell 1
          go_wp2_with fail
          clear a2
          obtain ⟨gk2, rfl⟩ : ∃ g, g = gk := ⟨_, rfl⟩
          obtain ⟨wo2, rfl⟩ : ∃ wo : World, wo = wr := ⟨_, rfl⟩
          have GW1 := GW
          go_loopg [80] n2 (fun gg s80 wr => ∃ i : Nat, i ≤ n2 ∧ n2 - i ≤ gg ∧ s80 = .int .i64 i ∧ Hid (Gr w7 wr))
          case atStart => exact ⟨0, Nat.zero_le _, by omega, rfl, GW1⟩
          case round =>
            clear GW GW1 hg hlt
            obtain ⟨i, hi, hg, rfl, GW⟩ := hrel
            by_cases hlt : i < n2
            · have hq : b.props[i]? = some (b.props[i]'(by rw [L3.out]; exact hlt)) := List.getElem?_eq_getElem _
              generalize b.props[i]'(by rw [L3.out]; exact hlt) = q at hq
              obtain ⟨r, hr, hq'⟩ := HTH.out q (List.mem_of_getElem? hq)
              obtain ⟨ad, bv, rfl, _, c0, c1x, _, qb⟩ := (NB.out.1.keep (Kp.below _ (bw_trans BW7.out GW.out.below)) (fun _ _ h => h) (Nat.le_refl _)).at_ hq
              obtain ⟨ad', bv', rfl, _, c0', c1x', _, qb'⟩ := (M7.out.1.keep (Kp.below _ GW.out.below) (fun _ _ h => h) (Nat.le_refl _)).at_ hq'
              have hlx : r < k6 := by have := (List.getElem?_eq_some_iff.1 hq').1; have := L5.out; omega
              obtain ⟨s, y⟩ := q
              simp only at c0 c0' hr qb qb'
              obtain ⟨Ab, nb, cb, rfl⟩ := qb.form
              obtain ⟨Ab', nb', cb', rfl⟩ := qb'.form
              have KIX := Lib.hid (fun (m : Nat) (os : Array Obj) => find_any nm s (.slice (some ad') k6 d6) (.slice X' k6' d6') T M (by omega) x.props (grow (wr.drewN m) os) (M7.out.1.keep (Kp.below _ (bw_trans GW.out.below (Gr.below ⟨m, os, rfl⟩))) (fun _ _ h => h) (Nat.le_refl _)))
              rw [hr] at KIX
              clear hq hq' hr
              have x0 : wr.cell? ⟨C, 0, none⟩ = some (.string nm) := by simpa using (HC7.out.below GW.out.below).cell 0
              have x1 : wr.cell? ⟨C, 1, none⟩ = some (.slice (some ad') k6 d6) := by simpa using (HC7.out.below GW.out.below).cell 1
              have x2 : wr.cell? ⟨C, 2, none⟩ = some (.slice X' k6' d6') := by simpa using (HC7.out.below GW.out.below).cell 2
              have b1 : wr.cell? ⟨w.heap.size + 1, 1, none⟩ = some (.slice (some ad) n2 c2) := by simpa using (HB7.out.below GW.out.below).cell 1
              have mixed : Try.prog.follows .mixedOrders = true := by kernel_rfl
              have C0 := fun m os => cell_grown (World.block_lt_of_cell? _ _ c0) c0 m os
              have X0 := fun m os => cell_grown (World.block_lt_of_cell? _ _ x0) x0 m os
              have X1 := fun m os => cell_grown (World.block_lt_of_cell? _ _ x1) x1 m os
              have X2 := fun m os => cell_grown (World.block_lt_of_cell? _ _ x2) x2 m os
              have B1 := fun m os => cell_grown (World.block_lt_of_cell? _ _ b1) b1 m os
              have CC0 := Lib.hid c0
              have CC1 := Lib.hid c1x
              have CC0' := Lib.hid c0'
              have CC1' := Lib.hid c1x'
              have QB := Lib.hid qb
              have QB' := Lib.hid qb'
              clear c0 c0' c1x c1x' x0 x1 x2 b1 qb qb'
              go_wp2_with fail
              go_quiet_grown ((go_at_call 12; exact Calls.grown_of (KIX.out _ _)))
              have BEL4 : Hid (Below wr.heap.size wr (grow (wr.drewN nq) osq)) := Gr.below ⟨nq, osq, rfl⟩
              have GW4 : Hid (Gr w7 (grow (wr.drewN nq) osq)) := Lib.hid (GW.out.trans ⟨nq, osq, rfl⟩)
              generalize grow (wr.drewN nq) osq = w4 at *
              have q1 := cell_stays BEL4.out CC1.out
              have q1' := cell_stays BEL4.out CC1'.out
              have V0 := fun (m : Nat) (os : Array Obj) => by_str (QB.out.keep (Kp.below _ (bw_trans BEL4.out (Gr.below ⟨m, os, rfl⟩ : Below w4.heap.size w4 (grow (w4.drewN m) os)))) (fun _ _ h => h) (Nat.le_refl _))
              have V1 := fun (m : Nat) (os : Array Obj) => by_str (QB'.out.keep (Kp.below _ (bw_trans BEL4.out (Gr.below ⟨m, os, rfl⟩ : Below w4.heap.size w4 (grow (w4.drewN m) os)))) (fun _ _ h => h) (Nat.le_refl _))
              clear C0 X0 X1 X2 B1 KIX CC0 CC0' CC1 CC1' QB QB' BEL4 GW
              have x1 : w4.cell? ⟨C, 1, none⟩ = some (.slice (some ad') k6 d6) := by simpa using (HC7.out.below GW4.out.below).cell 1
              have b1 : w4.cell? ⟨w.heap.size + 1, 1, none⟩ = some (.slice (some ad) n2 c2) := by simpa using (HB7.out.below GW4.out.below).cell 1
              have X1 := fun m os => cell_grown (World.block_lt_of_cell? _ _ x1) x1 m os
              have B1 := fun m os => cell_grown (World.block_lt_of_cell? _ _ b1) b1 m os
              have Q1 := fun m os => cell_grown (World.block_lt_of_cell? _ _ q1) q1 m os
              have Q1' := fun m os => cell_grown (World.block_lt_of_cell? _ _ q1') q1' m os
              have hr0 : decide ((r : Int) < 0) = false := by simp
              clear q1 q1' x1 b1
              go_wp2_with fail
              go_quiet_grown (fail)
              have GW5 : Hid (Gr w7 (grow (w4.drewN nq) osq)) := Lib.hid (GW4.out.trans ⟨nq, osq, rfl⟩)
              generalize grow (w4.drewN nq) osq = w5 at *
              clear X1 B1 Q1 Q1' V0 V1 GW4 hr0
              go_wp2_with fail
              go_roundg (n2 - (i + 1))
              case measure => omega
              case rel => exact ⟨i + 1, by omega, by omega, by go_num, GW5⟩
            · obtain rfl : i = n2 := by omega
              have a2 : wr.cell? ⟨w.heap.size + 1, 2, none⟩ = some (.slice B' n2' c2') := by simpa using (HB7.out.below GW.out.below).cell 2
              go_wp2_with fail
              clear a2
              obtain ⟨gk3, rfl⟩ : ∃ g, g = gk := ⟨_, rfl⟩
              obtain ⟨wo3, rfl⟩ : ∃ wo : World, wo = wr := ⟨_, rfl⟩
              have GW1 := GW
              go_loopg [114] n2' (fun gg s114 wr => ∃ i : Nat, i ≤ n2' ∧ n2' - i ≤ gg ∧ s114 = .int .i64 i ∧ Hid (Gr w7 wr))
              case atStart => exact ⟨0, Nat.zero_le _, by omega, rfl, GW1⟩
              case round =>
                clear GW GW1 hg hlt
                obtain ⟨v, hv, hg, rfl, GW⟩ := hrel
                by_cases hlt : v < n2'
                · have hq : b.kids[v]? = some (b.kids[v]'(by rw [L4.out]; exact hlt)) := List.getElem?_eq_getElem _
                  generalize b.kids[v]'(by rw [L4.out]; exact hlt) = q at hq
                  have hr := HND.out q (List.mem_of_getElem? hq)
                  obtain ⟨ad, _, _, rfl, _, c0, _⟩ := (NB.out.2.keep (Kp.below _ (bw_trans BW7.out GW.out.below)) (fun _ _ h => h) (Nat.le_refl _) (Nat.le_refl _)).at_ hq
                  generalize q.name = s at c0 hr
                  have KIX := Lib.hid (fun (m : Nat) (os : Array Obj) => kid_any nm s (.slice X k6 d6) (.slice X' k6' d6') _ T M (by omega) x.kids (grow (wr.drewN m) os) (M7.out.2.keep (Kp.below _ (bw_trans GW.out.below (Gr.below ⟨m, os, rfl⟩))) (fun _ _ h => h) (Nat.le_refl _) (Nat.le_refl _)))
                  generalize at_ Nd.name s x.kids = r at KIX hr
                  have hr0 : decide (r < 0) = false := by simp; omega
                  clear hq
                  have x0 : wr.cell? ⟨C, 0, none⟩ = some (.string nm) := by simpa using (HC7.out.below GW.out.below).cell 0
                  have x1 : wr.cell? ⟨C, 1, none⟩ = some (.slice X k6 d6) := by simpa using (HC7.out.below GW.out.below).cell 1
                  have x2 : wr.cell? ⟨C, 2, none⟩ = some (.slice X' k6' d6') := by simpa using (HC7.out.below GW.out.below).cell 2
                  have b1 : wr.cell? ⟨w.heap.size + 1, 2, none⟩ = some (.slice (some ad) n2' c2') := by simpa using (HB7.out.below GW.out.below).cell 2
                  have mixed : Try.prog.follows .mixedOrders = true := by kernel_rfl
                  have C0 := fun m os => cell_grown (World.block_lt_of_cell? _ _ c0) c0 m os
                  have X0 := fun m os => cell_grown (World.block_lt_of_cell? _ _ x0) x0 m os
                  have X1 := fun m os => cell_grown (World.block_lt_of_cell? _ _ x1) x1 m os
                  have X2 := fun m os => cell_grown (World.block_lt_of_cell? _ _ x2) x2 m os
                  have B1 := fun m os => cell_grown (World.block_lt_of_cell? _ _ b1) b1 m os
                  clear c0 x0 x1 x2 b1
                  go_wp2_with fail
                  go_quiet_grown ((go_at_call 13; exact Calls.grown_of (KIX.out _ _)))
                  have GW4 : Hid (Gr w7 (grow (wr.drewN nq) osq)) := Lib.hid (GW.out.trans ⟨nq, osq, rfl⟩)
                  generalize grow (wr.drewN nq) osq = w4 at *
                  clear C0 X0 X1 X2 B1 KIX GW
                  go_wp2_with fail
                  go_roundg (n2' - (v + 1))
                  case measure => omega
                  case rel => exact ⟨v + 1, by omega, by omega, by go_num, GW4⟩
                · have x0 : wr.cell? ⟨C, 0, none⟩ = some (.string nm) := by simpa using (HC7.out.below GW.out.below).cell 0
                  have x1 : wr.cell? ⟨C, 1, none⟩ = some (.slice X k6 d6) := by simpa using (HC7.out.below GW.out.below).cell 1
                  have x2 : wr.cell? ⟨C, 2, none⟩ = some (.slice X' k6' d6') := by simpa using (HC7.out.below GW.out.below).cell 2
                  have a0 : wr.cell? ⟨w.heap.size, 0, none⟩ = some (.string nm) := by simpa using (HA7.out.below GW.out.below).cell 0
                  have KU := Lib.hid (unique_any (d + 1) nm _ _ x T M wr hM (M7.out.keep (Kp.below _ GW.out.below) (fun _ _ h => h) (Nat.le_refl _) (Nat.le_refl _)))
                  unfold UniqOut at KU
                  rw [HUQ.out] at KU
                  go_wp2_with fail
                  refine KU.out.mono ?_
                  rintro e w9 ⟨rfl, g9⟩
                  have BW9 := Lib.hid (bw_trans BW7.out (GW.out.trans g9).below)
                  clear g9 KU
                  go_wp2_with fail
                  go_ret
                  exact ⟨rfl, BW9.out⟩
end Go.Proofs.Ytkkpdeiooopifaa
