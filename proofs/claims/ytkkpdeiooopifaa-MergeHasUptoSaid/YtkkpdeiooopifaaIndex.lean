/- The contracts of slices.IndexFunc at properties and at nodes, with the closures of merge.Merge and of tree.Kid; tree.Kid's (layers 3 and 10). Condition: not more than 2^47 of them. -/
import Derived.Test.YtkkpdeiooopifaaFind
import Derived.Shelf.GgClosure.Gives
namespace Go.Proofs.Ytkkpdeiooopifaa
open Go.RowKit Go.Sort
set_option linter.unusedVariables false
theorem same_prop (nm s : ByteArray) (bv : Value) (b : Nat) (w : World) (h : w.cell? ⟨b, 0, none⟩ = some (.string s)) :
    Calls Try.prog 18 #[.agg #[.string nm, bv], .pointer (some ⟨b, 0, none⟩)] w fun e w' => e = .returned (.bool (decide (nm = s))) ∧ Gr w w' := by
  have hlt := World.block_lt_of_cell? _ _ h
  have h2 : (w.alloc (.cells #[.string nm, bv] 32)).cell? ⟨b, 0, none⟩ = some (.string s) := ((bw_alloc (Below.refl w.heap.size w) _).cell hlt).trans h
  by_cases he : nm = s
  · have hb := str_eq he
    rw [decide_eq_true he]
    go_enter Try.func18, Try.ntmps18
    go_wp2_with fail
    go_ret
    exact ⟨rfl, (Gr.refl _).alloc _⟩
  · have hb := str_ne he
    rw [decide_eq_false he]
    go_enter Try.func18, Try.ntmps18
    go_wp2_with fail
    go_ret
    exact ⟨rfl, (Gr.refl _).alloc _⟩
theorem same_node (nm s : ByteArray) (vp vk : Value) (b : Nat) (w : World) (h : w.cell? ⟨b, 0, none⟩ = some (.string s)) :
    Calls Try.prog 22 #[.agg #[.string nm, vp, vk], .pointer (some ⟨b, 0, none⟩)] w fun e w' => e = .returned (.bool (decide (nm = s))) ∧ Gr w w' := by
  have hlt := World.block_lt_of_cell? _ _ h
  have h2 : (w.alloc (.cells #[.string nm, vp, vk] 25)).cell? ⟨b, 0, none⟩ = some (.string s) := ((bw_alloc (Below.refl w.heap.size w) _).cell hlt).trans h
  by_cases he : nm = s
  · have hb := str_eq he
    rw [decide_eq_true he]
    go_enter Try.func22, Try.ntmps22
    go_wp2_with fail
    go_ret
    exact ⟨rfl, (Gr.refl _).alloc _⟩
  · have hb := str_ne he
    rw [decide_eq_false he]
    go_enter Try.func22, Try.ntmps22
    go_wp2_with fail
    go_ret
    exact ⟨rfl, (Gr.refl _).alloc _⟩
set_option maxHeartbeats 1600000 in
theorem index_props (s : ByteArray) (v : Value) (b : Nat) (φ : Nat → Prop) (M : Nat) (hM : M ≤ 140737488355328) (props : List (ByteArray × ByteArray)) (w : World) (h : PrAt φ w M v props) (hc : w.cell? ⟨b, 0, none⟩ = some (.string s)) :
    Calls Try.prog 17 #[v, .func (.func 18) #[] #[.pointer (some ⟨b, 0, none⟩)]] w fun e w' => e = .returned (.int .i64 (at_ Prod.fst s props)) ∧ Gr w w' := by
  obtain ⟨A, c, rfl, h1, h2, h3⟩ := h.form
  have HP := Lib.hid h
  have HC := Lib.hid hc
  have eg := enters_of Try.func18 (by kernel_rfl) rfl
  clear h hc
  generalize hN : props.length = N at *
  have HN := Lib.hid hN
  clear hN
  unfold maxLen at h2
  go_enter Try.func17, Try.ntmps17
  go_wp2_with fail
  go_loopg [5, 8] N (fun gg _ s8 wr => ∃ k : Nat, k ≤ N ∧ N - k ≤ gg ∧ s8 = .int .i64 k ∧ Hid (Gr w wr) ∧ Hid (∀ (j : Nat) y, j < k → props[j]? = some y → Prod.fst y ≠ s))
  case atStart => exact ⟨0, Nat.zero_le _, by omega, rfl, Gr.refl _, fun j _ hj => absurd hj (Nat.not_lt_zero _)⟩
  case round =>
    obtain ⟨k, hk, hg, rfl, GW, AF⟩ := hrel
    by_cases hlt : k < N
    · have hq : props[k]? = some (props[k]'(by rw [HN.out]; exact hlt)) := List.getElem?_eq_getElem _
      generalize props[k]'(by rw [HN.out]; exact hlt) = q at hq
      obtain ⟨ad, bv, rfl, _, c0, c1, _, _⟩ := (HP.out.keep (Kp.below φ GW.out.below) (fun _ _ h => h) (Nat.le_refl _)).at_ hq
      generalize hqn : q.1 = qn at c0
      have HQN : Hid (Prod.fst q = qn) := Lib.hid hqn
      clear hqn
      have HQ := Lib.hid hq
      clear hq
      have hw := (GW.out.below.cell (World.block_lt_of_cell? _ _ HC.out)).trans HC.out
      have K := Lib.hid (same_prop qn s bv b wr hw)
      clear hw
      have HHB : Hid (decide (qn = s) = decide (qn = s)) := Lib.hid rfl
      by_cases he : qn = s
      · rw [decide_eq_true he] at K
        have HE := Lib.hid he
        clear he
        go_wp2_with fail
        refine K.out.mono ?_
        rintro e w' ⟨rfl, hb'⟩
        have HB' := Lib.hid hb'
        clear hb'
        go_wp2_with fail
        go_ret
        refine ⟨?_, GW.out.trans HB'.out⟩
        rw [at_hit HQ.out (HQN.out.trans HE.out) (fun j y hj hy => AF.out j y hj hy)]
        rfl
      · rw [decide_eq_false he] at K
        have HE := Lib.hid he
        clear he
        go_wp2_with fail
        refine K.out.mono ?_
        rintro e w' ⟨rfl, hb'⟩
        have HB' := Lib.hid hb'
        clear hb'
        go_wp2_with fail
        go_roundg (N - (k + 1))
        case measure => omega
        case rel =>
          refine ⟨k + 1, by omega, by omega, by go_num, GW.out.trans HB'.out, (show Hid _ from fun j y hj hy => ?_)⟩
          by_cases e : j = k
          · subst e
            have := HQ.out
            rw [hy] at this
            injection this with this
            subst this
            rw [HQN.out]
            exact HE.out
          · exact AF.out j y (by omega) hy
    · go_wp2_with fail
      go_ret
      refine ⟨?_, GW.out⟩
      rw [at_miss (fun j y hy => AF.out j y (by have := (List.getElem?_eq_some_iff.1 hy).1; have := HN.out; omega) hy)]
      rfl
set_option maxHeartbeats 1600000 in
theorem index_kids (s : ByteArray) (v : Value) (b : Nat) (R : Value → Value → Nd → Prop) (φ : Nat → Prop) (M : Nat) (hM : M ≤ 140737488355328) (kids : List Nd) (w : World) (h : KiAt R φ w M v kids) (hc : w.cell? ⟨b, 0, none⟩ = some (.string s)) :
    Calls Try.prog 21 #[v, .func (.func 22) #[] #[.pointer (some ⟨b, 0, none⟩)]] w fun e w' => e = .returned (.int .i64 (at_ Nd.name s kids)) ∧ Gr w w' := by
  obtain ⟨A, c, rfl, h1, h2, h3⟩ := h.form
  have HP := Lib.hid h
  have HC := Lib.hid hc
  have eg := enters_of Try.func22 (by kernel_rfl) rfl
  clear h hc
  generalize hN : kids.length = N at *
  have HN := Lib.hid hN
  clear hN
  unfold maxLen at h2
  go_enter Try.func21, Try.ntmps21
  go_wp2_with fail
  go_loopg [5, 8] N (fun gg _ s8 wr => ∃ k : Nat, k ≤ N ∧ N - k ≤ gg ∧ s8 = .int .i64 k ∧ Hid (Gr w wr) ∧ Hid (∀ (j : Nat) y, j < k → kids[j]? = some y → Nd.name y ≠ s))
  case atStart => exact ⟨0, Nat.zero_le _, by omega, rfl, Gr.refl _, fun j _ hj => absurd hj (Nat.not_lt_zero _)⟩
  case round =>
    obtain ⟨k, hk, hg, rfl, GW, AF⟩ := hrel
    by_cases hlt : k < N
    · have hq : kids[k]? = some (kids[k]'(by rw [HN.out]; exact hlt)) := List.getElem?_eq_getElem _
      generalize kids[k]'(by rw [HN.out]; exact hlt) = q at hq
      obtain ⟨ad, vp, vk, rfl, _, c0, c1, c2, _, _⟩ := KiAt.at_ (R := fun _ _ _ => True) (φ := φ) (w := wr) (M := M) (by
        obtain ⟨ks, a1, a2, a3⟩ := HP.out
        exact ⟨ks, a1.keep (Kp.below φ GW.out.below) (fun _ _ h => h), a2, a3.mono fun _ _ _ hr => ⟨hr.1, hr.2.1, trivial⟩⟩) hq
      generalize hqn : q.name = qn at c0
      have HQN : Hid (Nd.name q = qn) := Lib.hid hqn
      clear hqn
      have HQ := Lib.hid hq
      clear hq
      have hw := (GW.out.below.cell (World.block_lt_of_cell? _ _ HC.out)).trans HC.out
      have K := Lib.hid (same_node qn s vp vk b wr hw)
      clear hw
      have HHB : Hid (decide (qn = s) = decide (qn = s)) := Lib.hid rfl
      by_cases he : qn = s
      · rw [decide_eq_true he] at K
        have HE := Lib.hid he
        clear he
        go_wp2_with fail
        refine K.out.mono ?_
        rintro e w' ⟨rfl, hb'⟩
        have HB' := Lib.hid hb'
        clear hb'
        go_wp2_with fail
        go_ret
        refine ⟨?_, GW.out.trans HB'.out⟩
        rw [at_hit HQ.out (HQN.out.trans HE.out) (fun j y hj hy => AF.out j y hj hy)]
        rfl
      · rw [decide_eq_false he] at K
        have HE := Lib.hid he
        clear he
        go_wp2_with fail
        refine K.out.mono ?_
        rintro e w' ⟨rfl, hb'⟩
        have HB' := Lib.hid hb'
        clear hb'
        go_wp2_with fail
        go_roundg (N - (k + 1))
        case measure => omega
        case rel =>
          refine ⟨k + 1, by omega, by omega, by go_num, GW.out.trans HB'.out, (show Hid _ from fun j y hj hy => ?_)⟩
          by_cases e : j = k
          · subst e
            have := HQ.out
            rw [hy] at this
            injection this with this
            subst this
            rw [HQN.out]
            exact HE.out
          · exact AF.out j y (by omega) hy
    · go_wp2_with fail
      go_ret
      refine ⟨?_, GW.out⟩
      rw [at_miss (fun j y hy => AF.out j y (by have := (List.getElem?_eq_some_iff.1 hy).1; have := HN.out; omega) hy)]
      rfl
theorem tkid_any (nm s : ByteArray) (vp vk : Value) (R : Value → Value → Nd → Prop) (φ : Nat → Prop) (M : Nat) (hM : M ≤ 140737488355328) (kids : List Nd) (w : World) (h : KiAt R φ w M vk kids) :
    Calls Try.prog 19 #[.agg #[.string nm, vp, vk], .string s] w fun e w' => e = .returned (.int .i64 (at_ Nd.name s kids)) ∧ Gr w w' := by
  have g0 := ((Gr.refl w).alloc (.cells #[.string nm, vp, vk] 25)).alloc (.cells #[.string s] 9)
  have K := Lib.hid (index_kids s vk (w.heap.size + 1) (fun _ _ _ => True) φ M hM kids ((w.alloc (.cells #[.string nm, vp, vk] 25)).alloc (.cells #[.string s] 9)) (by
    obtain ⟨ks, a1, a2, a3⟩ := h
    exact ⟨ks, a1.keep (Kp.below φ g0.below) (fun _ _ h => h), a2, a3.mono fun _ _ _ hr => ⟨hr.1, hr.2.1, trivial⟩⟩) (by simp))
  have G0 := Lib.hid g0
  clear g0 h
  go_enter Try.func19, Try.ntmps19
  go_wp2_with fail
  refine K.out.mono ?_
  rintro e w1 ⟨rfl, g1⟩
  have G1 := Lib.hid g1
  clear g1
  go_wp2_with fail
  go_ret
  exact ⟨rfl, G0.out.trans G1.out⟩
end Go.Proofs.Ytkkpdeiooopifaa
