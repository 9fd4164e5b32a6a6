/- The contracts of arboretlaw03.size and Few, and arboretlaw10.few: some answer, and what was there is as it was (layers 3 and 10). Conditions: not more than 2^47 of anything. -/
import Derived.Test.YtkkpdeiooopifaaMg
namespace Go.Proofs.Ytkkpdeiooopifaa
open Go.RowKit Go.Sort
set_option linter.unusedVariables false
def SomeInt (w : World) (e : Ending) (w' : World) : Prop := ∃ z : Int, e = .returned (.int .i64 z) ∧ Below w.heap.size w w'
def SomeBool (w : World) (e : Ending) (w' : World) : Prop := ∃ b : Bool, e = .returned (.bool b) ∧ Below w.heap.size w w'
set_option maxHeartbeats 1600000 in
theorem size_any (d : Nat) : ∀ (nm : ByteArray) (vp vk : Value) (n : Nd) (φ : Nat → Prop) (M : Nat) (z : Int) (w : World), M ≤ 1099511627776 → NdAt φ w M d vp vk n →
    Calls Try.prog 20 #[.agg #[.string nm, vp, vk], .int .i64 z] w (SomeInt w) := by
  induction d with
  | zero => intro nm vp vk n φ M z w hM h; cases h
  | succ d ih =>
    intro nm vp vk n φ M z w hM h
    have IH := Lib.hid ih
    clear ih
    have hp := h.1
    have hk := h.2
    obtain ⟨A, c, rfl, h1, h2, h3⟩ := hp.form
    obtain ⟨Ak, ck, rfl, k1, k2, k3⟩ := hk.form
    have HP := Lib.hid hp
    have HK := Lib.hid hk
    clear hp hk h
    unfold maxLen at h2 k2
    generalize hN : n.props.length = N at *
    generalize hKN : n.kids.length = KN at *
    have HN := Lib.hid hN
    have HKN := Lib.hid hKN
    clear hN hKN
    go_enter Try.func20, Try.ntmps20
    go_wp2_with fail
    go_loopg [5, 15] N (fun gg s5 s15 wr => ∃ (k : Nat) (x : Int), k ≤ N ∧ N - k ≤ gg ∧ s5 = .int .i64 x ∧ s15 = .int .i64 k ∧ Hid (Below w.heap.size w wr) ∧ Hid (Bk wr w.heap.size 25 #[.string nm, .slice A N c, .slice Ak KN ck]))
    case atStart => exact ⟨0, _, Nat.zero_le _, by omega, rfl, rfl, bw_alloc (Below.refl _ _) _, Bk.new _ _ _⟩
    case round =>
      obtain ⟨k, x, hk, hg, rfl, rfl, BW, HA⟩ := hrel
      by_cases hlt : k < N
      · have hq : n.props[k]? = some (n.props[k]'(by rw [HN.out]; exact hlt)) := List.getElem?_eq_getElem _
        generalize n.props[k]'(by rw [HN.out]; exact hlt) = q at hq
        obtain ⟨ad, bv, rfl, _, c0, c1, qs, qb⟩ := (HP.out.keep (Kp.below φ BW.out) (fun _ _ h => h) (Nat.le_refl _)).at_ hq
        obtain ⟨Ab, nb, cb, rfl⟩ := qb.form
        have a1 : wr.cell? ⟨w.heap.size, 1, none⟩ = some (.slice (some ad) N c) := by simpa using HA.out.cell 1
        clear qs qb hq
        generalize q.1 = s at c0
        have mixed : Try.prog.follows .mixedOrders = true := by kernel_rfl
        have C0 := fun m os => cell_grown (World.block_lt_of_cell? _ _ c0) c0 m os
        have C1 := fun m os => cell_grown (World.block_lt_of_cell? _ _ c1) c1 m os
        have A1 := fun m os => cell_grown (World.block_lt_of_cell? _ _ a1) a1 m os
        clear c0 c1 a1
        go_wp2_with fail
        go_quiet_grown (fail)
        have BEL4 : Hid (Below wr.heap.size wr (grow (wr.drewN nq) osq)) := Gr.below ⟨nq, osq, rfl⟩
        generalize grow (wr.drewN nq) osq = w4 at *
        have BW4 := Lib.hid (bw_trans BW.out BEL4.out)
        have HA4 := Lib.hid (HA.out.below BEL4.out)
        clear C0 C1 A1
        go_wp2_with fail
        go_roundg (N - (k + 1))
        case measure => omega
        case rel => exact ⟨k + 1, _, by omega, by omega, rfl, by go_num, BW4, HA4⟩
      · obtain rfl : k = N := by omega
        have a2 : wr.cell? ⟨w.heap.size, 2, none⟩ = some (.slice Ak KN ck) := by simpa using HA.out.cell 2
        go_wp2_with fail
        clear a2
        obtain ⟨gk1, rfl⟩ : ∃ g, g = gk := ⟨_, rfl⟩
        obtain ⟨wo, rfl⟩ : ∃ wo : World, wo = wr := ⟨_, rfl⟩
        have BW1 := BW
        have HA1 := HA
        go_loopg [5, 40] KN (fun gg s5 s40 wr => ∃ (j : Nat) (x : Int), j ≤ KN ∧ KN - j ≤ gg ∧ s5 = .int .i64 x ∧ s40 = .int .i64 j ∧ Hid (Below w.heap.size w wr) ∧ Hid (Bk wr w.heap.size 25 #[.string nm, .slice A k c, .slice Ak KN ck]))
        case atStart => exact ⟨0, _, Nat.zero_le _, by omega, rfl, rfl, BW1, HA1⟩
        case round =>
          clear BW HA BW1 HA1 hg hlt
          obtain ⟨j, x, hj, hg, rfl, rfl, BW, HA⟩ := hrel
          by_cases hlt : j < KN
          · have hq : n.kids[j]? = some (n.kids[j]'(by rw [HKN.out]; exact hlt)) := List.getElem?_eq_getElem _
            generalize n.kids[j]'(by rw [HKN.out]; exact hlt) = q at hq
            obtain ⟨ad, qp, qk, rfl, _, c0, c1, c2, qs, qn⟩ := (HK.out.keep (Kp.below φ BW.out) (fun _ _ h => h) (Nat.le_refl _) (Nat.le_refl _)).at_ hq
            have a2 : wr.cell? ⟨w.heap.size, 2, none⟩ = some (.slice (some ad) KN ck) := by simpa using HA.out.cell 2
            have K := Lib.hid (fun z => IH.out q.name qp qk q φ M z wr hM qn)
            clear qs qn hq
            generalize q.name = s at c0 K
            unfold SomeInt at K
            by_cases t1 : 20 < z
            · have t1' : decide (20 < z) = true := decide_eq_true t1
              go_wp2_with fail
              go_ret
              exact ⟨_, rfl, BW.out⟩
            · have t1' : decide (20 < z) = false := decide_eq_false t1
              by_cases t2 : 100000 < x
              · have t2' : decide (100000 < x) = true := decide_eq_true t2
                go_wp2_with fail
                go_ret
                exact ⟨_, rfl, BW.out⟩
              · have t2' : decide (100000 < x) = false := decide_eq_false t2
                go_wp2_with fail
                refine (K.out _).mono ?_
                rintro e w4 ⟨zz, rfl, bel4⟩
                have BW4 := Lib.hid (bw_trans BW.out bel4)
                have HA4 := Lib.hid (HA.out.below bel4)
                clear bel4
                go_wp2_with fail
                go_roundg (KN - (j + 1))
                case measure => omega
                case rel => exact ⟨j + 1, _, by omega, by omega, rfl, by go_num, BW4, HA4⟩
          · go_wp2_with fail
            go_ret
            exact ⟨_, rfl, BW.out⟩
set_option maxHeartbeats 1600000 in
theorem few_tree (d : Nat) (nm : ByteArray) (vp vk : Value) (n : Nd) (φ : Nat → Prop) (M : Nat) (w : World) (hM : M ≤ 1099511627776) (h : NdAt φ w M d vp vk n) :
    Calls Try.prog 14 #[.agg #[.int .u32 0, .slice none 0 0, .string nm, vp, vk]] w (SomeBool w) := by
  have K := Lib.hid (fun W (hb : Below w.heap.size w W) => size_any d nm vp vk n φ M 0 W hM (h.keep (Kp.below φ hb) (fun _ _ h => h) (Nat.le_refl _) (Nat.le_refl _)))
  obtain ⟨A, n1, c, A', n1', c', rfl, rfl⟩ := h.form
  clear h
  unfold SomeInt at K
  go_enter Try.func14, Try.ntmps14
  go_wp2_with fail
  refine (K.out _ (bw_alloc (Below.refl _ _) _)).mono ?_
  rintro e w1 ⟨z, rfl, b1⟩
  have B1 := Lib.hid (bw_trans (bw_alloc (Below.refl w.heap.size w) _) b1)
  have HT := Lib.hid ((Bk.new w 38 #[.int .u32 0, .slice none 0 0, .string nm, .slice A n1 c, .slice A' n1' c']).below b1)
  clear b1 K
  have t1 : w1.cell? ⟨w.heap.size, 1, none⟩ = some (.slice none 0 0) := by simpa using HT.out.cell 1
  by_cases hz : z ≤ 100000
  · have hz' : decide (z ≤ 100000) = true := decide_eq_true hz
    go_wp2_with fail
    go_ret
    exact ⟨_, rfl, B1.out⟩
  · have hz' : decide (z ≤ 100000) = false := decide_eq_false hz
    go_wp2_with fail
    go_ret
    exact ⟨_, rfl, B1.out⟩
set_option maxHeartbeats 1600000 in
theorem few_any (d : Nat) (nm : ByteArray) (vp vk : Value) (n : Nd) (φ : Nat → Prop) (M : Nat) (w : World) (hM : M ≤ 1099511627776) (h : NdAt φ w M d vp vk n) :
    Calls Try.prog 7 #[.agg #[.string nm, vp, vk]] w (SomeBool w) := by
  have K := Lib.hid (fun W (hb : Below w.heap.size w W) => few_tree d nm vp vk n φ M W hM (h.keep (Kp.below φ hb) (fun _ _ h => h) (Nat.le_refl _) (Nat.le_refl _)))
  obtain ⟨A, n1, c, A', n1', c', rfl, rfl⟩ := h.form
  clear h
  unfold SomeBool at K
  go_enter Try.func7, Try.ntmps7
  go_wp2_with fail
  refine (K.out _ (bw_alloc (Below.refl _ _) _)).mono ?_
  rintro e w1 ⟨z, rfl, b1⟩
  have B1 := Lib.hid (bw_trans (bw_alloc (Below.refl w.heap.size w) _) b1)
  clear b1 K
  go_wp2_with fail
  go_ret
  exact ⟨_, rfl, B1.out⟩
end Go.Proofs.Ytkkpdeiooopifaa
