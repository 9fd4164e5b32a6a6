/- The contracts of the reference's Find and Kid: the place of a name (layer 10). Condition: not more than 2^47 of them. -/
import Derived.Test.YtkkpdeiooopifaaMem
import Derived.Lib.SlicesS
namespace Go.Proofs.Ytkkpdeiooopifaa
open Go.RowKit Go.Sort
set_option linter.unusedVariables false
theorem at_hit {α : Type} {key : α → ByteArray} {s : ByteArray} {l : List α} {k : Nat} {x : α} (h : l[k]? = some x) (h1 : key x = s) (h0 : ∀ j y, j < k → l[j]? = some y → key y ≠ s) : at_ key s l = k := by
  obtain ⟨hk, e⟩ := List.getElem?_eq_some_iff.1 h
  refine idx_hit _ l k hk ?_ ?_
  · rw [e]; exact decide_eq_true h1
  · intro j hj
    exact decide_eq_false (h0 j _ hj (List.getElem?_eq_getElem _))
theorem at_miss {α : Type} {key : α → ByteArray} {s : ByteArray} {l : List α} (h0 : ∀ (j : Nat) y, l[j]? = some y → key y ≠ s) : at_ key s l = -1 :=
  idx_miss _ l fun j hj => decide_eq_false (h0 j _ (List.getElem?_eq_getElem _))
theorem at_bounds {α : Type} (key : α → ByteArray) (s : ByteArray) (l : List α) : -1 ≤ at_ key s l ∧ at_ key s l < l.length := idx_bounds _ l
theorem str_ne {a b : ByteArray} (h : ¬ a = b) : (a.toList == b.toList) = false := (Lib.bytes_beq_false_iff a b).2 h
theorem str_eq {a b : ByteArray} (h : a = b) : (a.toList == b.toList) = true := (Lib.bytes_beq_iff a b).2 h
set_option maxHeartbeats 1600000 in
theorem find_any (nm s : ByteArray) (vp vk : Value) (φ : Nat → Prop) (M : Nat) (hM : M ≤ 140737488355328) (props : List (ByteArray × ByteArray)) (w : World) (h : PrAt φ w M vp props) :
    Calls Try.prog 12 #[.agg #[.string nm, vp, vk], .string s] w fun e w' => e = .returned (.int .i64 (at_ Prod.fst s props)) ∧ Gr w w' := by
  obtain ⟨A, c, rfl, h1, h2, h3⟩ := h.form
  have HP := Lib.hid h
  clear h
  generalize hN : props.length = N at *
  have HN := Lib.hid hN
  clear hN
  unfold maxLen at h2
  go_enter Try.func12, Try.ntmps12
  go_wp2_with fail
  go_loopg [5, 9] N (fun gg _ s9 wr => ∃ k : Nat, k ≤ N ∧ N - k ≤ gg ∧ s9 = .int .i64 k ∧ Hid (Gr (w.alloc (.cells #[.string nm, .slice A N c, vk] 25)) wr) ∧ Hid (∀ (j : Nat) y, j < k → props[j]? = some y → y.1 ≠ s))
  case atStart => exact ⟨0, Nat.zero_le _, by omega, rfl, Gr.refl _, fun j _ hj => absurd hj (Nat.not_lt_zero _)⟩
  case round =>
    obtain ⟨k, hk, hg, rfl, GW, AF⟩ := hrel
    by_cases hlt : k < N
    · have hq : props[k]? = some (props[k]'(by rw [HN.out]; exact hlt)) := List.getElem?_eq_getElem _
      generalize props[k]'(by rw [HN.out]; exact hlt) = q at hq
      have hb := (bw_alloc (Below.refl w.heap.size w) (.cells #[.string nm, .slice A N c, vk] 25))
      obtain ⟨ad, bv, rfl, _, c0, _, _, _⟩ := (HP.out.keep (Kp.below φ (bw_trans hb GW.out.below)) (fun _ _ h => h) (Nat.le_refl _)).at_ hq
      have d1 : wr.cell? ⟨w.heap.size, 1, none⟩ = some (.slice (some ad) N c) := (GW.out.below.cell (by simp)).trans (by simp)
      have HQ := Lib.hid hq
      clear hq hb
      by_cases he : q.1 = s
      · have hb := str_eq he
        go_wp2_with fail
        go_ret
        refine ⟨?_, ?_⟩
        · rw [at_hit HQ.out he (fun j y hj hy => AF.out j y hj hy)]
          rfl
        · exact ((Gr.refl w).alloc _).trans GW.out
      · have hb := str_ne he
        go_wp2_with fail
        go_roundg (N - (k + 1))
        case measure => omega
        case rel =>
          refine ⟨k + 1, by omega, by omega, by go_num, GW, (show Hid _ from fun j y hj hy => ?_)⟩
          by_cases e : j = k
          · subst e
            have := HQ.out
            rw [hy] at this
            injection this with this
            subst this
            exact he
          · exact AF.out j y (by omega) hy
    · go_wp2_with fail
      go_ret
      refine ⟨?_, ((Gr.refl w).alloc _).trans GW.out⟩
      rw [at_miss (fun j y hy => AF.out j y (by have := (List.getElem?_eq_some_iff.1 hy).1; have := HN.out; omega) hy)]
      rfl
set_option maxHeartbeats 1600000 in
theorem kid_any (nm s : ByteArray) (vp vk : Value) (R : Value → Value → Nd → Prop) (φ : Nat → Prop) (M : Nat) (hM : M ≤ 140737488355328) (kids : List Nd) (w : World) (h : KiAt R φ w M vk kids) :
    Calls Try.prog 13 #[.agg #[.string nm, vp, vk], .string s] w fun e w' => e = .returned (.int .i64 (at_ Nd.name s kids)) ∧ Gr w w' := by
  obtain ⟨A, c, rfl, h1, h2, h3⟩ := h.form
  have HP : Hid (KiAt (fun _ _ _ => True) φ w M (.slice A kids.length c) kids) := by
    obtain ⟨ks, a1, a2, a3⟩ := h
    exact ⟨ks, a1, a2, a3.mono fun _ _ _ hr => ⟨hr.1, hr.2.1, trivial⟩⟩
  clear h
  generalize hN : kids.length = N at *
  have HN := Lib.hid hN
  clear hN
  unfold maxLen at h2
  go_enter Try.func13, Try.ntmps13
  go_wp2_with fail
  go_loopg [5, 9] N (fun gg _ s9 wr => ∃ k : Nat, k ≤ N ∧ N - k ≤ gg ∧ s9 = .int .i64 k ∧ Hid (Gr (w.alloc (.cells #[.string nm, vp, .slice A N c] 25)) wr) ∧ Hid (∀ (j : Nat) y, j < k → kids[j]? = some y → y.name ≠ s))
  case atStart => exact ⟨0, Nat.zero_le _, by omega, rfl, Gr.refl _, fun j _ hj => absurd hj (Nat.not_lt_zero _)⟩
  case round =>
    obtain ⟨k, hk, hg, rfl, GW, AF⟩ := hrel
    by_cases hlt : k < N
    · have hq : kids[k]? = some (kids[k]'(by rw [HN.out]; exact hlt)) := List.getElem?_eq_getElem _
      generalize kids[k]'(by rw [HN.out]; exact hlt) = q at hq
      have hb := (bw_alloc (Below.refl w.heap.size w) (.cells #[.string nm, vp, .slice A N c] 25))
      obtain ⟨ad, _, _, rfl, _, c0, _, _, _, _⟩ := KiAt.at_ (R := fun _ _ _ => True) (φ := φ) (w := wr) (M := M) (by
        obtain ⟨ks, a1, a2, a3⟩ := HP.out
        exact ⟨ks, a1.keep (Kp.below φ (bw_trans hb GW.out.below)) (fun _ _ h => h), a2, a3⟩) hq
      have d1 : wr.cell? ⟨w.heap.size, 2, none⟩ = some (.slice (some ad) N c) := (GW.out.below.cell (by simp)).trans (by simp)
      have HQ := Lib.hid hq
      clear hq hb
      generalize hqn : q.name = qn at c0
      have HQN := Lib.hid hqn
      clear hqn
      by_cases he : qn = s
      · have hb := str_eq he
        go_wp2_with fail
        go_ret
        refine ⟨?_, ?_⟩
        · rw [at_hit HQ.out (HQN.out.trans he) (fun j y hj hy => AF.out j y hj hy)]
          rfl
        · exact ((Gr.refl w).alloc _).trans GW.out
      · have hb := str_ne he
        go_wp2_with fail
        go_roundg (N - (k + 1))
        case measure => omega
        case rel =>
          refine ⟨k + 1, by omega, by omega, by go_num, GW, (show Hid _ from fun j y hj hy => ?_)⟩
          by_cases e : j = k
          · subst e
            have := HQ.out
            rw [hy] at this
            injection this with this
            subst this
            rw [HQN.out]
            exact he
          · exact AF.out j y (by omega) hy
    · go_wp2_with fail
      go_ret
      refine ⟨?_, ((Gr.refl w).alloc _).trans GW.out⟩
      rw [at_miss (fun j y hy => AF.out j y (by have := (List.getElem?_eq_some_iff.1 hy).1; have := HN.out; omega) hy)]
      rfl
end Go.Proofs.Ytkkpdeiooopifaa
