/- The contracts of few and awake (layer 21's law). Conditions: rows of less than 2^47 entries. -/
import Derived.Test.YtlamkhmbjkjbdaaDec
namespace Go.Proofs.Ytlamkhmbjkjbdaa
open Go.RowKit Go.Sort
set_option linter.unusedVariables false
def tot (F : Fb) : Nat := (F.map fun es => 1 + es.length).sum
theorem tot_take (F : Fb) (k : Nat) (h : k < F.length) : tot (F.take (k + 1)) = tot (F.take k) + (1 + F[k].length) := by
  unfold tot
  rw [List.take_succ_eq_append_getElem h, List.map_append, List.sum_append]
  simp
theorem tot_le (F : Fb) (k : Nat) : tot (F.take k) ≤ tot F := by
  unfold tot
  conv => rhs; rw [← List.take_append_drop k F]
  rw [List.map_append, List.sum_append]
  omega
theorem tot_mem {F : Fb} {es : List En} (h : es ∈ F) : es.length + 1 ≤ tot F := by
  unfold tot
  induction F with
  | nil => cases h
  | cons x xs ih =>
    simp only [List.map_cons, List.sum_cons]
    rcases List.mem_cons.1 h with rfl | h
    · omega
    · have := ih h; omega
theorem tot_len (F : Fb) : F.length ≤ tot F := by
  unfold tot
  induction F with
  | nil => simp
  | cons x xs ih => simp only [List.map_cons, List.sum_cons, List.length_cons]; omega
def fewB (F : Fb) : Bool := decide (tot F ≤ 600)
set_option maxHeartbeats 800000 in
theorem few_any (A : Option Addr) (c : Nat) (F : Fb) (hL : F.length ≤ 140737488355328) (hR : ∀ es ∈ F, es.length ≤ 140737488355328) (w : World) (hF : Fab w A F) :
    Calls Try.prog 7 #[.slice A F.length c] w fun e w' => e = .returned (.bool (fewB F)) ∧ w = w' := by
  have HF := Lib.hid hF
  have HR := Lib.hid hR
  clear hF hR
  unfold fewB
  obtain ⟨L, hLL⟩ : ∃ L, L = F.length := ⟨_, rfl⟩
  have HL := Lib.hid hLL
  rw [← hLL] at hL ⊢
  clear hLL
  go_enter Try.func7, Try.ntmps7
  go_wp2_with fail
  go_loop [2, 3, 4, 7] (fun _ s3 _ s7 => ∃ k n : Nat, k ≤ L ∧ n ≤ 600 ∧ s7 = .int .i64 k ∧ s3 = .int .i64 n ∧ Hid (n = tot (F.take k))) (fun _ _ _ s7 => L - (intOf s7).toNat)
  case atStart => exact ⟨0, 0, Nat.zero_le _, by omega, rfl, rfl, by show 0 = tot (F.take 0); rfl⟩
  case round =>
    obtain ⟨k, n, hk, hn, rfl, rfl, HT⟩ := hrel
    by_cases hlt : k < L
    · obtain ⟨ad, B, c1, rfl, hc, hl1, hl2, hE⟩ := HF.out k (by rw [← HL.out]; exact hlt)
      have hes := HR.out _ (List.getElem_mem (by rw [← HL.out]; exact hlt) : F[k]'(by rw [← HL.out]; exact hlt) ∈ F)
      have HS := Lib.hid (tot_take F k (by rw [← HL.out]; exact hlt))
      generalize F[k]'(by rw [← HL.out]; exact hlt) = es at hc hes HS
      generalize hN : es.length = N at hc hes
      have HN := Lib.hid hN
      clear hN hl1 hl2 hE
      by_cases hbig : 600 < n + 1 + N
      · have hb1 : (600 : Int) < (n : Int) + 1 + N := by omega
        have hno : Hid (decide (tot F ≤ 600) = false) := by
          refine decide_eq_false ?_
          have h1 := HS.out
          have h2 := HT.out
          have h3 := HN.out
          have := tot_le F (k + 1)
          omega
        go_wp2_with fail
        go_ret
        exact ⟨by rw [hno.out]; rfl, rfl⟩
      · have hb1 : ¬ (600 : Int) < (n : Int) + 1 + N := by omega
        go_wp2_with fail
        go_round
        case rel => exact ⟨k + 1, n + 1 + N, by omega, by omega, by go_num, by go_num, by show _ = _; rw [HS.out, ← HT.out, HN.out]; omega⟩
        case measure => simp [intOf]; omega
    · obtain rfl : k = L := by omega
      have hyes : Hid (decide (tot F ≤ 600) = true) := by
        refine decide_eq_true ?_
        have h2 := HT.out
        rw [HL.out, List.take_length] at h2
        omega
      go_wp2_with fail
      go_ret
      exact ⟨by rw [hyes.out]; rfl, rfl⟩
def F0 : Fb := [[]]
theorem f0_fab (w : World) : Fab (w.alloc (.cells #[.slice none 0 0] 46)) (some ⟨w.heap.size, 0, none⟩) F0 := by
  intro i hi
  have hi' : i < 1 := hi
  obtain rfl : i = 0 := by omega
  refine ⟨_, none, 0, rfl, ?_, by simp [F0], by simp [maxLen], fun j hj => ?_⟩
  · have h := (Bk.new w 46 #[.slice none 0 0]).cell 0
    exact h
  · have hj' : j < 0 := hj
    omega
theorem f0_right : rightB F0 = true := by decide
set_option maxHeartbeats 800000 in
theorem awake_any (w : World) : Calls Try.prog 6 #[] w fun e w' => e = .returned (.bool true) ∧ Below w.heap.size w w' := by
  have K1 := fun W => Lib.hid (decode_loop (some ⟨W.heap.size, 0, none⟩) 1 F0 (by simp [F0, maxLen]) 0 4 ⟨by omega, by omega⟩ (W.alloc (.cells #[.slice none 0 0] 46)) (f0_fab W) f0_right (by omega))
  have K2 := fun (W : World) (H : Nat) (h : W.heap.size = H) => Lib.hid (right_any (some ⟨H, 0, none⟩) 1 F0 (by simp [F0, maxLen]) (W.alloc (.cells #[.slice none 0 0] 46)) (by rw [← h]; exact f0_fab W))
  rw [f0_right] at K2
  have hd : dec F0 4 F0.length 0 0 0 = none := rfl
  rw [hd] at K1
  clear hd
  have e : F0.length = 1 := rfl
  rw [e] at K1 K2
  clear e
  unfold hitRes at K1
  go_enter Try.func6, Try.ntmps6
  go_wp2_with fail
  refine (K1 _).out.mono ?_
  rintro e w1 ⟨rfl, g1⟩
  have B1 := Lib.hid (bw_trans (bw_alloc (Below.refl w.heap.size w) (.cells #[.slice none 0 0] 46)) g1)
  clear g1
  go_wp2_with fail
  refine (K2 _ _ (by simp)).out.mono ?_
  rintro e w2 ⟨rfl, g2⟩
  have B2 := Lib.hid (bw_trans (bw_alloc (bw_alloc B1.out (.cells #[.int .i64 0, .int .u64 0, .int .i64 0] 27)) (.cells #[.slice none 0 0] 46)) g2)
  clear g2
  go_wp2_with fail
  go_ret
  exact ⟨rfl, B2.out⟩
end Go.Proofs.Ytlamkhmbjkjbdaa
