/- The contract of arboretlaw10.unique: whether no name is there twice (layer 10). Conditions: not more than 2^40 of anything. -/
import Derived.Test.YtkkpdeiooopifaaMg
namespace Go.Proofs.Ytkkpdeiooopifaa
open Go.RowKit Go.Sort
set_option linter.unusedVariables false
open Classical in
/-- Is no name there twice? -/
noncomputable def uqB (d : Nat) (n : Nd) : Bool := decide (uniqN d n)
open Classical in
theorem uqB_true {d : Nat} {n : Nd} (h : uniqN d n) : uqB d n = true := by unfold uqB; exact decide_eq_true h
open Classical in
theorem uqB_false {d : Nat} {n : Nd} (h : ¬ uniqN d n) : uqB d n = false := by unfold uqB; exact decide_eq_false h
open Classical in
theorem uqB_of {d : Nat} {n : Nd} (h : uqB d n = true) : uniqN d n := by unfold uqB at h; exact of_decide_eq_true h
open Classical in
theorem uqB_not {d : Nat} {n : Nd} (h : uqB d n = false) : ¬ uniqN d n := by unfold uqB at h; exact of_decide_eq_false h
def UniqOut (w : World) (d : Nat) (n : Nd) (e : Ending) (w' : World) : Prop := e = .returned (.bool (uqB d n)) ∧ Gr w w'
theorem uniq_no_props {d : Nat} {n : Nd} {k : Nat} {q : ByteArray × ByteArray} (h : n.props[k]? = some q) (hne : at_ Prod.fst q.1 n.props ≠ k) : ¬ uniqN (d + 1) n :=
  fun hu => hne ((uq_nodup Prod.fst n.props).2 hu.1 k q h)
theorem uniq_no_kids {d : Nat} {n : Nd} {k : Nat} {q : Nd} (h : n.kids[k]? = some q) (hne : at_ Nd.name q.name n.kids ≠ k) : ¬ uniqN (d + 1) n :=
  fun hu => hne ((uq_nodup Nd.name n.kids).2 hu.2.1 k q h)
theorem uniq_no_kid {d : Nat} {n : Nd} {k : Nat} {q : Nd} (h : n.kids[k]? = some q) (hne : ¬ uniqN d q) : ¬ uniqN (d + 1) n :=
  fun hu => hne (hu.2.2 q (List.mem_of_getElem? h))
theorem uniq_yes {d : Nat} {n : Nd} (h1 : ∀ (i : Nat) q, n.props[i]? = some q → at_ Prod.fst q.1 n.props = (i : Int)) (h2 : ∀ (i : Nat) q, n.kids[i]? = some q → at_ Nd.name q.name n.kids = (i : Int) ∧ uniqN d q) : uniqN (d + 1) n :=
  ⟨(uq_nodup Prod.fst n.props).1 h1, (uq_nodup Nd.name n.kids).1 (fun i q h => (h2 i q h).1), fun q hq => by
    obtain ⟨i, hi⟩ := List.getElem?_of_mem hq
    exact (h2 i q hi).2⟩
set_option maxHeartbeats 3200000 in
theorem unique_any (d : Nat) : ∀ (nm : ByteArray) (vp vk : Value) (n : Nd) (φ : Nat → Prop) (M : Nat) (w : World), M ≤ 1099511627776 → NdAt φ w M d vp vk n →
    Calls Try.prog 11 #[.agg #[.string nm, vp, vk]] w (UniqOut w d n) := by
  induction d with
  | zero => intro nm vp vk n φ M w hM h; cases h
  | succ d ih =>
    intro nm vp vk n φ M w hM h
    have IH := Lib.hid ih
    clear ih
    have hp := h.1
    have hk := h.2
    obtain ⟨A, c, rfl, h1, h2, h3⟩ := hp.form
    obtain ⟨Ak, ck, rfl, k1, k2, k3⟩ := hk.form
    have HP := Lib.hid hp
    have HK := Lib.hid hk
    clear hp hk h
    unfold maxLen at h2 k2
    generalize hN : n.props.length = N at *
    generalize hKN : n.kids.length = KN at *
    have HN := Lib.hid hN
    have HKN := Lib.hid hKN
    clear hN hKN
    go_enter Try.func11, Try.ntmps11
    go_wp2_with fail
    go_loopg [8] N (fun gg s8 wr => ∃ (k : Nat), k ≤ N ∧ N - k ≤ gg ∧ s8 = .int .i64 k ∧ Hid (Gr w wr) ∧ Hid (Bk wr w.heap.size 25 #[.string nm, .slice A N c, .slice Ak KN ck]) ∧ Hid (∀ (i : Nat) q, i < k → n.props[i]? = some q → at_ Prod.fst q.1 n.props = (i : Int)))
    case atStart => exact ⟨0, Nat.zero_le _, by omega, rfl, (Gr.refl _).alloc _, Bk.new _ _ _, (show Hid _ from fun i q hi => absurd hi (Nat.not_lt_zero _))⟩
    case round =>
      obtain ⟨k, hk, hg, rfl, BW, HA, AF⟩ := hrel
      by_cases hlt : k < N
      · have hq : n.props[k]? = some (n.props[k]'(by rw [HN.out]; exact hlt)) := List.getElem?_eq_getElem _
        generalize n.props[k]'(by rw [HN.out]; exact hlt) = q at hq
        obtain ⟨ad, bv, rfl, _, c0, _, _, _⟩ := (HP.out.keep (Kp.below φ BW.out.below) (fun _ _ h => h) (Nat.le_refl _)).at_ hq
        have a0 : wr.cell? ⟨w.heap.size, 0, none⟩ = some (.string nm) := by simpa using HA.out.cell 0
        have a1 : wr.cell? ⟨w.heap.size, 1, none⟩ = some (.slice (some ad) N c) := by simpa using HA.out.cell 1
        have a2 : wr.cell? ⟨w.heap.size, 2, none⟩ = some (.slice Ak KN ck) := by simpa using HA.out.cell 2
        have HQ := Lib.hid hq
        clear hq
        obtain ⟨s, y⟩ := q
        simp only at c0
        have KIX := Lib.hid (fun (m : Nat) (os : Array Obj) => find_any nm s (.slice (some ad) N c) (.slice Ak KN ck) φ M (by omega) n.props (grow (wr.drewN m) os) (HP.out.keep (Kp.below φ (bw_trans BW.out.below (Gr.below ⟨m, os, rfl⟩))) (fun _ _ h => h) (Nat.le_refl _)))
        generalize hr : at_ Prod.fst s n.props = r at KIX
        have HR := Lib.hid hr
        clear hr
        have mixed : Try.prog.follows .mixedOrders = true := by kernel_rfl
        have C0 := fun m os => cell_grown (World.block_lt_of_cell? _ _ c0) c0 m os
        have A0 := fun m os => cell_grown (World.block_lt_of_cell? _ _ a0) a0 m os
        have A1 := fun m os => cell_grown (World.block_lt_of_cell? _ _ a1) a1 m os
        have A2 := fun m os => cell_grown (World.block_lt_of_cell? _ _ a2) a2 m os
        clear c0 a0 a1 a2
        go_wp2_with fail
        go_quiet_grown ((go_at_call 12; exact Calls.grown_of (KIX.out _ _)))
        have G4 : Gr wr (grow (wr.drewN nq) osq) := ⟨nq, osq, rfl⟩
        have BW4 := Lib.hid (BW.out.trans G4)
        have HA4 := Lib.hid (HA.out.below G4.below)
        clear G4
        generalize grow (wr.drewN nq) osq = w4 at *
        clear C0 A0 A1 A2 KIX
        by_cases hrk : r = k
        · have hrk1 : (r == (k : Int)) = true := beq_iff_eq.2 hrk
          have hrk2 : (r != (k : Int)) = false := by rw [bne, hrk1]; rfl
          have AF2 : Hid (∀ (i : Nat) q, i < k + 1 → n.props[i]? = some q → at_ Prod.fst q.1 n.props = (i : Int)) := Lib.hid fun i q hi hiq => by
            by_cases e : i = k
            · subst e
              have := HQ.out
              rw [hiq] at this
              injection this with this
              subst this
              exact HR.out.trans hrk
            · exact AF.out i q (by omega) hiq
          clear hrk
          go_wp2_with fail
          go_roundg (N - (k + 1))
          case measure => omega
          case rel => exact ⟨k + 1, by omega, by omega, by go_num, BW4, HA4, AF2⟩
        · have hrk1 : (r == (k : Int)) = false := beq_eq_false_iff_ne.2 hrk
          have hrk2 : (r != (k : Int)) = true := by rw [bne, hrk1]; rfl
          have NO : Hid (¬ uniqN (d + 1) n) := Lib.hid (uniq_no_props HQ.out (by show at_ Prod.fst s n.props ≠ _; rw [HR.out]; exact hrk))
          clear hrk
          go_wp2_with fail
          go_ret
          exact ⟨by rw [uqB_false NO.out]; rfl, BW4.out⟩
      · obtain rfl : k = N := by omega
        have a2 : wr.cell? ⟨w.heap.size, 2, none⟩ = some (.slice Ak KN ck) := by simpa using HA.out.cell 2
        go_wp2_with fail
        clear a2
        obtain ⟨gk1, rfl⟩ : ∃ g, g = gk := ⟨_, rfl⟩
        obtain ⟨wo, rfl⟩ : ∃ wo : World, wo = wr := ⟨_, rfl⟩
        have BW1 := BW
        have HA1 := HA
        go_loopg [25] KN (fun gg s25 wr => ∃ (j : Nat), j ≤ KN ∧ KN - j ≤ gg ∧ s25 = .int .i64 j ∧ Hid (Gr w wr) ∧ Hid (Bk wr w.heap.size 25 #[.string nm, .slice A k c, .slice Ak KN ck]) ∧ Hid (∀ (i : Nat) q, i < j → n.kids[i]? = some q → at_ Nd.name q.name n.kids = (i : Int) ∧ uniqN d q))
        case atStart => exact ⟨0, Nat.zero_le _, by omega, rfl, BW1, HA1, (show Hid _ from fun i q hi => absurd hi (Nat.not_lt_zero _))⟩
        case round =>
          clear BW HA BW1 HA1 hg hlt
          obtain ⟨j, hj, hg, rfl, BW, HA, AK⟩ := hrel
          by_cases hlt : j < KN
          · have hq : n.kids[j]? = some (n.kids[j]'(by rw [HKN.out]; exact hlt)) := List.getElem?_eq_getElem _
            generalize n.kids[j]'(by rw [HKN.out]; exact hlt) = q at hq
            obtain ⟨ad, qp, qk, rfl, _, c0, c1, c2, qs, qn⟩ := (HK.out.keep (Kp.below φ BW.out.below) (fun _ _ h => h) (Nat.le_refl _) (Nat.le_refl _)).at_ hq
            have a0 : wr.cell? ⟨w.heap.size, 0, none⟩ = some (.string nm) := by simpa using HA.out.cell 0
            have a1 : wr.cell? ⟨w.heap.size, 1, none⟩ = some (.slice A k c) := by simpa using HA.out.cell 1
            have a2 : wr.cell? ⟨w.heap.size, 2, none⟩ = some (.slice (some ad) KN ck) := by simpa using HA.out.cell 2
            obtain ⟨Ab, nb, cb, Ac, nc, cc, rfl, rfl⟩ := qn.form
            have HQ := Lib.hid hq
            obtain ⟨s, hs⟩ : ∃ s, s = q.name := ⟨_, rfl⟩
            have HSN := Lib.hid hs
            rw [← hs] at c0
            clear hs
            have KIX := Lib.hid (fun (m : Nat) (os : Array Obj) => kid_any nm s (.slice A k c) (.slice (some ad) KN ck) _ φ M (by omega) n.kids (grow (wr.drewN m) os) (HK.out.keep (Kp.below φ (bw_trans BW.out.below (Gr.below ⟨m, os, rfl⟩))) (fun _ _ h => h) (Nat.le_refl _) (Nat.le_refl _)))
            have KU := Lib.hid (fun (m : Nat) (os : Array Obj) => IH.out s (.slice Ab nb cb) (.slice Ac nc cc) q φ M (grow (wr.drewN m) os) hM (qn.keep (Kp.below φ (Gr.below ⟨m, os, rfl⟩)) (fun _ _ h => h) (Nat.le_refl _) (Nat.le_refl _)))
            unfold UniqOut at KU
            clear hq qs qn
            generalize hr : at_ Nd.name s n.kids = r at KIX
            have HR := Lib.hid hr
            clear hr
            have mixed : Try.prog.follows .mixedOrders = true := by kernel_rfl
            have C0 := fun m os => cell_grown (World.block_lt_of_cell? _ _ c0) c0 m os
            have C1 := fun m os => cell_grown (World.block_lt_of_cell? _ _ c1) c1 m os
            have C2 := fun m os => cell_grown (World.block_lt_of_cell? _ _ c2) c2 m os
            have A0 := fun m os => cell_grown (World.block_lt_of_cell? _ _ a0) a0 m os
            have A1 := fun m os => cell_grown (World.block_lt_of_cell? _ _ a1) a1 m os
            have A2 := fun m os => cell_grown (World.block_lt_of_cell? _ _ a2) a2 m os
            clear c0 c1 c2 a0 a1 a2
            by_cases hrk : r = j
            · have hrk1 : (r == (j : Int)) = true := beq_iff_eq.2 hrk
              have hrk2 : (r != (j : Int)) = false := by rw [bne, hrk1]; rfl
              have HAT : Hid (at_ Nd.name q.name n.kids = (j : Int)) := Lib.hid (by rw [← HSN.out]; exact HR.out.trans hrk)
              clear hrk
              generalize hub : uqB d q = ub at KU
              have HUB := Lib.hid hub
              clear hub
              cases ub
              · have NO : Hid (¬ uniqN (d + 1) n) := Lib.hid (uniq_no_kid HQ.out (uqB_not HUB.out))
                go_wp2_with fail
                go_quiet_grown (first | (go_at_call 13; exact Calls.grown_of (KIX.out _ _)) | (go_at_call 11; exact Calls.grown_of (KU.out _ _)))
                have G4 : Gr wr (grow (wr.drewN nq) osq) := ⟨nq, osq, rfl⟩
                have BW4 := Lib.hid (BW.out.trans G4)
                clear G4
                generalize grow (wr.drewN nq) osq = w4 at *
                go_wp2_with fail
                go_ret
                exact ⟨by rw [uqB_false NO.out]; rfl, BW4.out⟩
              · go_wp2_with fail
                go_quiet_grown (first | (go_at_call 13; exact Calls.grown_of (KIX.out _ _)) | (go_at_call 11; exact Calls.grown_of (KU.out _ _)))
                have G4 : Gr wr (grow (wr.drewN nq) osq) := ⟨nq, osq, rfl⟩
                have BW4 := Lib.hid (BW.out.trans G4)
                have HA4 := Lib.hid (HA.out.below G4.below)
                clear G4
                generalize grow (wr.drewN nq) osq = w4 at *
                have AK2 : Hid (∀ (i : Nat) q, i < j + 1 → n.kids[i]? = some q → at_ Nd.name q.name n.kids = (i : Int) ∧ uniqN d q) := Lib.hid fun i q' hi hiq => by
                  by_cases e : i = j
                  · subst e
                    have := HQ.out
                    rw [hiq] at this
                    injection this with this
                    subst this
                    exact ⟨HAT.out, uqB_of HUB.out⟩
                  · exact AK.out i q' (by omega) hiq
                clear C0 C1 C2 A0 A1 A2 KIX KU
                go_wp2_with fail
                go_roundg (KN - (j + 1))
                case measure => omega
                case rel => exact ⟨j + 1, by omega, by omega, by go_num, BW4, HA4, AK2⟩
            · have hrk1 : (r == (j : Int)) = false := beq_eq_false_iff_ne.2 hrk
              have hrk2 : (r != (j : Int)) = true := by rw [bne, hrk1]; rfl
              have NO : Hid (¬ uniqN (d + 1) n) := Lib.hid (uniq_no_kids HQ.out (by show at_ Nd.name q.name n.kids ≠ _; rw [← HSN.out, HR.out]; exact hrk))
              clear hrk
              go_wp2_with fail
              go_quiet_grown (first | (go_at_call 13; exact Calls.grown_of (KIX.out _ _)) | (go_at_call 11; exact Calls.grown_of (KU.out _ _)))
              have G4 : Gr wr (grow (wr.drewN nq) osq) := ⟨nq, osq, rfl⟩
              have BW4 := Lib.hid (BW.out.trans G4)
              clear G4
              generalize grow (wr.drewN nq) osq = w4 at *
              go_wp2_with fail
              go_ret
              exact ⟨by rw [uqB_false NO.out]; rfl, BW4.out⟩
          · go_wp2_with fail
            go_ret
            exact ⟨by rw [uqB_true (uniq_yes (fun i q h => AF.out i q (by have := (List.getElem?_eq_some_iff.1 h).1; have := HN.out; omega) h) (fun i q h => AK.out i q (by have := (List.getElem?_eq_some_iff.1 h).1; have := HKN.out; omega) h))]; rfl, BW.out⟩
end Go.Proofs.Ytkkpdeiooopifaa
