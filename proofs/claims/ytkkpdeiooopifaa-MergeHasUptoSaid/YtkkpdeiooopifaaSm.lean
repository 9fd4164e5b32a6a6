/- The contract of the reference's Same: two nodes that are the same are found so (layer 3). Conditions: not more than 2^40 of anything. -/
import Derived.Test.YtkkpdeiooopifaaMg
namespace Go.Proofs.Ytkkpdeiooopifaa
open Go.RowKit Go.Sort
set_option linter.unusedVariables false
def TrueOut (w : World) (e : Ending) (w' : World) : Prop := e = .returned (.bool true) ∧ Gr w w'
set_option maxHeartbeats 3200000 in
theorem same_any (d : Nat) : ∀ (nm : ByteArray) (vp vk up uk : Value) (n : Nd) (φ : Nat → Prop) (M : Nat) (w : World), M ≤ 1099511627776 → NdAt φ w M d vp vk n → NdAt φ w M d up uk n →
    Calls Try.prog 8 #[.agg #[.string nm, vp, vk], .agg #[.string nm, up, uk]] w (TrueOut w) := by
  induction d with
  | zero => intro nm vp vk up uk n φ M w hM h; cases h
  | succ d ih =>
    intro nm vp vk up uk n φ M w hM h h'
    have IH := Lib.hid ih
    clear ih
    have hp := h.1
    have hk := h.2
    have gp := h'.1
    have gk' := h'.2
    obtain ⟨A, c, rfl, h1, h2, h3⟩ := hp.form
    obtain ⟨Ak, ck, rfl, k1, k2, k3⟩ := hk.form
    obtain ⟨A2, c2, rfl, h1', h2', h3'⟩ := gp.form
    obtain ⟨Ak2, ck2, rfl, k1', k2', k3'⟩ := gk'.form
    have HP := Lib.hid hp
    have HK := Lib.hid hk
    have GP := Lib.hid gp
    have GK := Lib.hid gk'
    clear hp hk h h' gp gk'
    unfold maxLen at h2 k2 h2' k2'
    generalize hN : n.props.length = N at *
    generalize hKN : n.kids.length = KN at *
    have HN := Lib.hid hN
    have HKN := Lib.hid hKN
    have l1 : ((N : Int) == (N : Int)) = true := by simp
    have l2 : ((N : Int) != (N : Int)) = false := by simp
    have l3 : ((KN : Int) == (KN : Int)) = true := by simp
    have l4 : ((KN : Int) != (KN : Int)) = false := by simp
    clear hN hKN
    go_enter Try.func8, Try.ntmps8
    go_wp2_with fail
    clear l1 l2 l3 l4
    go_loopg [33] N (fun gg s33 wr => ∃ (k : Nat), k ≤ N ∧ N - k ≤ gg ∧ s33 = .int .i64 k ∧ Hid (Gr w wr) ∧ Hid (Bk wr w.heap.size 25 #[.string nm, .slice A N c, .slice Ak KN ck]) ∧ Hid (Bk wr (w.heap.size + 1) 25 #[.string nm, .slice A2 N c2, .slice Ak2 KN ck2]))
    case atStart => exact ⟨0, Nat.zero_le _, by omega, rfl, ((Gr.refl _).alloc _).alloc _, (Bk.new _ _ _).alloc _, by have := Bk.new (w.alloc (.cells #[.string nm, .slice A N c, .slice Ak KN ck] 25)) 25 #[.string nm, .slice A2 N c2, .slice Ak2 KN ck2]; rw [World.size_alloc] at this; exact this⟩
    case round =>
      obtain ⟨k, hk, hg, rfl, BW, HA, HB⟩ := hrel
      by_cases hlt : k < N
      · have hq : n.props[k]? = some (n.props[k]'(by rw [HN.out]; exact hlt)) := List.getElem?_eq_getElem _
        generalize n.props[k]'(by rw [HN.out]; exact hlt) = q at hq
        obtain ⟨ad, bv, rfl, _, c0, c1, _, qb⟩ := (HP.out.keep (Kp.below φ BW.out.below) (fun _ _ h => h) (Nat.le_refl _)).at_ hq
        obtain ⟨ad2, bv2, rfl, _, d0, d1, _, qb2⟩ := (GP.out.keep (Kp.below φ BW.out.below) (fun _ _ h => h) (Nat.le_refl _)).at_ hq
        obtain ⟨Ab, nb, cb, rfl⟩ := qb.form
        obtain ⟨Ab2, nb2, cb2, rfl⟩ := qb2.form
        have a1 : wr.cell? ⟨w.heap.size, 1, none⟩ = some (.slice (some ad) N c) := by simpa using HA.out.cell 1
        have b1 : wr.cell? ⟨w.heap.size + 1, 1, none⟩ = some (.slice (some ad2) N c2) := by simpa using HB.out.cell 1
        clear hq
        obtain ⟨s, y⟩ := q
        simp only at c0 d0 qb qb2
        have V0 := fun (m : Nat) (os : Array Obj) => by_str (qb.keep (Kp.below φ (Gr.below ⟨m, os, rfl⟩ : Below wr.heap.size wr (grow (wr.drewN m) os))) (fun _ _ h => h) (Nat.le_refl _))
        have V1 := fun (m : Nat) (os : Array Obj) => by_str (qb2.keep (Kp.below φ (Gr.below ⟨m, os, rfl⟩ : Below wr.heap.size wr (grow (wr.drewN m) os))) (fun _ _ h => h) (Nat.le_refl _))
        have mixed : Try.prog.follows .mixedOrders = true := by kernel_rfl
        have C0 := fun m os => cell_grown (World.block_lt_of_cell? _ _ c0) c0 m os
        have C1 := fun m os => cell_grown (World.block_lt_of_cell? _ _ c1) c1 m os
        have D0 := fun m os => cell_grown (World.block_lt_of_cell? _ _ d0) d0 m os
        have D1 := fun m os => cell_grown (World.block_lt_of_cell? _ _ d1) d1 m os
        have A1 := fun m os => cell_grown (World.block_lt_of_cell? _ _ a1) a1 m os
        have B1 := fun m os => cell_grown (World.block_lt_of_cell? _ _ b1) b1 m os
        clear c0 c1 d0 d1 a1 b1 qb qb2
        go_wp2_with fail
        go_quiet_grown (fail)
        have G4 : Gr wr (grow (wr.drewN nq) osq) := ⟨nq, osq, rfl⟩
        have BW4 := Lib.hid (BW.out.trans G4)
        have HA4 := Lib.hid (HA.out.below G4.below)
        have HB4 := Lib.hid (HB.out.below G4.below)
        clear G4
        generalize grow (wr.drewN nq) osq = w4 at *
        clear C0 C1 D0 D1 A1 B1 V0 V1
        go_wp2_with fail
        go_roundg (N - (k + 1))
        case measure => omega
        case rel => exact ⟨k + 1, by omega, by omega, by go_num, BW4, HA4, HB4⟩
      · obtain rfl : k = N := by omega
        have a2 : wr.cell? ⟨w.heap.size, 2, none⟩ = some (.slice Ak KN ck) := by simpa using HA.out.cell 2
        go_wp2_with fail
        clear a2
        obtain ⟨gk1, rfl⟩ : ∃ g, g = gk := ⟨_, rfl⟩
        obtain ⟨wo, rfl⟩ : ∃ wo : World, wo = wr := ⟨_, rfl⟩
        have BW1 := BW
        have HA1 := HA
        have HB1 := HB
        go_loopg [70] KN (fun gg s70 wr => ∃ (j : Nat), j ≤ KN ∧ KN - j ≤ gg ∧ s70 = .int .i64 j ∧ Hid (Gr w wr) ∧ Hid (Bk wr w.heap.size 25 #[.string nm, .slice A k c, .slice Ak KN ck]) ∧ Hid (Bk wr (w.heap.size + 1) 25 #[.string nm, .slice A2 k c2, .slice Ak2 KN ck2]))
        case atStart => exact ⟨0, Nat.zero_le _, by omega, rfl, BW1, HA1, HB1⟩
        case round =>
          clear BW HA BW1 HA1 hg hlt HB HB1
          obtain ⟨j, hj, hg, rfl, BW, HA, HB⟩ := hrel
          by_cases hlt : j < KN
          · have hq : n.kids[j]? = some (n.kids[j]'(by rw [HKN.out]; exact hlt)) := List.getElem?_eq_getElem _
            generalize n.kids[j]'(by rw [HKN.out]; exact hlt) = q at hq
            obtain ⟨ad, qp, qk, rfl, _, c0, c1, c2', _, qn⟩ := (HK.out.keep (Kp.below φ BW.out.below) (fun _ _ h => h) (Nat.le_refl _) (Nat.le_refl _)).at_ hq
            obtain ⟨ad2, qp2, qk2, rfl, _, d0, d1, d2, _, qn2⟩ := (GK.out.keep (Kp.below φ BW.out.below) (fun _ _ h => h) (Nat.le_refl _) (Nat.le_refl _)).at_ hq
            have a2 : wr.cell? ⟨w.heap.size, 2, none⟩ = some (.slice (some ad) KN ck) := by simpa using HA.out.cell 2
            have b2 : wr.cell? ⟨w.heap.size + 1, 2, none⟩ = some (.slice (some ad2) KN ck2) := by simpa using HB.out.cell 2
            obtain ⟨Ab, nb, cb, Ac, nc, cc, rfl, rfl⟩ := qn.form
            obtain ⟨Ab2, nb2, cb2, Ac2, nc2, cc2, rfl, rfl⟩ := qn2.form
            obtain ⟨s, hs⟩ : ∃ s, s = q.name := ⟨_, rfl⟩
            rw [← hs] at c0 d0
            clear hs
            have KU := Lib.hid (fun (m : Nat) (os : Array Obj) => IH.out s (.slice Ab nb cb) (.slice Ac nc cc) (.slice Ab2 nb2 cb2) (.slice Ac2 nc2 cc2) q φ M (grow (wr.drewN m) os) hM (qn.keep (Kp.below φ (Gr.below ⟨m, os, rfl⟩)) (fun _ _ h => h) (Nat.le_refl _) (Nat.le_refl _)) (qn2.keep (Kp.below φ (Gr.below ⟨m, os, rfl⟩)) (fun _ _ h => h) (Nat.le_refl _) (Nat.le_refl _)))
            unfold TrueOut at KU
            clear hq qn qn2
            have mixed : Try.prog.follows .mixedOrders = true := by kernel_rfl
            have C0 := fun m os => cell_grown (World.block_lt_of_cell? _ _ c0) c0 m os
            have C1 := fun m os => cell_grown (World.block_lt_of_cell? _ _ c1) c1 m os
            have C2 := fun m os => cell_grown (World.block_lt_of_cell? _ _ c2') c2' m os
            have D0 := fun m os => cell_grown (World.block_lt_of_cell? _ _ d0) d0 m os
            have D1 := fun m os => cell_grown (World.block_lt_of_cell? _ _ d1) d1 m os
            have D2 := fun m os => cell_grown (World.block_lt_of_cell? _ _ d2) d2 m os
            have A2' := fun m os => cell_grown (World.block_lt_of_cell? _ _ a2) a2 m os
            have B2' := fun m os => cell_grown (World.block_lt_of_cell? _ _ b2) b2 m os
            clear c0 c1 c2' d0 d1 d2 a2 b2
            go_wp2_with fail
            go_quiet_grown ((go_at_call 8; exact Calls.grown_of (KU.out _ _)))
            have G4 : Gr wr (grow (wr.drewN nq) osq) := ⟨nq, osq, rfl⟩
            have BW4 := Lib.hid (BW.out.trans G4)
            have HA4 := Lib.hid (HA.out.below G4.below)
            have HB4 := Lib.hid (HB.out.below G4.below)
            clear G4
            generalize grow (wr.drewN nq) osq = w4 at *
            clear C0 C1 C2 D0 D1 D2 A2' B2' KU
            go_wp2_with fail
            go_roundg (KN - (j + 1))
            case measure => omega
            case rel => exact ⟨j + 1, by omega, by omega, by go_num, BW4, HA4, HB4⟩
          · go_wp2_with fail
            go_ret
            exact ⟨rfl, BW.out⟩
end Go.Proofs.Ytkkpdeiooopifaa
