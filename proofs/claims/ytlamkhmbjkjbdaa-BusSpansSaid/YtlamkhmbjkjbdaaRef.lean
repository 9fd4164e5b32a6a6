/- Contracts of the reference's windows (layer 12). Conditions: numbers of 64 bits; windows that hold a byte and do not go beyond the last address. -/
import Derived.Test.YtlamkhmbjkjbdaaWin
namespace Go.Proofs.Ytlamkhmbjkjbdaa
open Go.RowKit Go.Sort
set_option linter.unusedVariables false
theorem rwhole_any (x s : Int) (hx : U x) (hs : U s) (w : World) :
    Calls Try.prog 19 #[.int .u64 x, .int .u64 s] w fun e w' => e = .returned (.bool (wholeV x s)) ∧ w = w' := by
  obtain ⟨hx0, hx1⟩ := hx
  obtain ⟨hs0, hs1⟩ := hs
  unfold wholeV
  by_cases h0 : s = 0
  · subst h0
    go_enter Try.func19, Try.ntmps19
    go_wp2_with fail
    go_ret
    exact ⟨rfl, rfl⟩
  · have hz : (s == 0) = false := by simpa using h0
    have h1 : 1 ≤ s := by omega
    go_enter Try.func19, Try.ntmps19
    go_wp2_with fail
    go_ret
    exact ⟨by rw [hz]; rfl, rfl⟩
set_option maxHeartbeats 800000 in
theorem rmeet_any (x s y t : Int) (h : Win x s) (hs : U s) (k : Win y t) (ht : U t) (w : World) :
    Calls Try.prog 20 #[.agg #[.int .u64 x, .int .u64 s], .agg #[.int .u64 y, .int .u64 t]] w fun e w' => e = .returned (.bool (meetV x s y t)) ∧ Gr w w' := by
  have c1 := fun W => rwhole_any x s h.ux hs W
  have c2 := fun W => rwhole_any y t k.ux ht W
  rw [wholeV_win h] at c1
  rw [wholeV_win k] at c2
  have K1 := Lib.hid c1
  have K2 := Lib.hid c2
  have a0 := h.x0
  have a1 := h.s0
  have a2 := h.end_
  have b0 := k.x0
  have b1 := k.s0
  have b2 := k.end_
  have hs1 := hs.2
  have ht1 := ht.2
  clear h hs k ht c1 c2
  have a3 : 0 < s := by omega
  have b3 : 0 < t := by omega
  have a4 : (s == 0) = false := by simp; omega
  have b4 : (t == 0) = false := by simp; omega
  unfold meetV
  by_cases h1 : x ≤ y + (t - 1)
  · rw [decide_eq_true h1]
    go_enter Try.func20, Try.ntmps20
    go_wp2_with fail
    refine (K1.out _).mono ?_
    rintro e w1 ⟨rfl, rfl⟩
    go_wp2_with fail
    refine (K2.out _).mono ?_
    rintro e w1 ⟨rfl, rfl⟩
    go_wp2_with fail
    go_ret
    exact ⟨rfl, ((Gr.refl _).alloc _).alloc _⟩
  · have h1' : decide (x ≤ y + (t - 1)) = false := decide_eq_false h1
    rw [h1']
    go_enter Try.func20, Try.ntmps20
    go_wp2_with fail
    refine (K1.out _).mono ?_
    rintro e w1 ⟨rfl, rfl⟩
    go_wp2_with fail
    refine (K2.out _).mono ?_
    rintro e w1 ⟨rfl, rfl⟩
    go_wp2_with fail
    go_ret
    exact ⟨rfl, ((Gr.refl _).alloc _).alloc _⟩
theorem inside_win {x s p n : Int} (h : Win x s) (hn : 0 < n) : insideV x s p n = (wholeV p n && (decide (x ≤ p) && decide (p + (n - 1) ≤ x + (s - 1)))) := by
  unfold insideV
  rw [wholeV_win h, decide_eq_true hn]
  have : (decide (p - x < s) && decide (n ≤ s - (p - x))) = decide (p + (n - 1) ≤ x + (s - 1)) := by
    rw [Bool.eq_iff_iff]; simp; omega
  rw [this]
  simp
set_option maxHeartbeats 800000 in
theorem rinside_any (x s p n : Int) (h : Win x s) (hs : U s) (hp : U p) (hn : U n) (hn0 : 0 < n) (w : World) :
    Calls Try.prog 22 #[.agg #[.int .u64 x, .int .u64 s], .int .u64 p, .int .u64 n] w fun e w' => e = .returned (.bool (insideV x s p n)) ∧ Gr w w' := by
  rw [inside_win h hn0]
  have c1 := fun W => rwhole_any p n hp hn W
  have c2 := fun W => rwhole_any x s h.ux hs W
  rw [wholeV_win h] at c2
  have K1 := Lib.hid c1
  have K2 := Lib.hid c2
  have a0 := h.x0
  have a1 := h.s0
  have a2 := h.end_
  have hs1 := hs.2
  have hp0 := hp.1
  have hp1 := hp.2
  have hn1 := hn.2
  clear h hs hn hp c1 c2
  have a4 : (s == 0) = false := by simp; omega
  have b4 : (n == 0) = false := by simp; omega
  have hW : wholeV p n = true → p + (n - 1) < 18446744073709551616 := by unfold wholeV; simp; omega
  have HW := Lib.hid hW
  clear hW
  generalize hb : wholeV p n = b at *
  clear hb
  cases b
  · clear HW
    go_enter Try.func22, Try.ntmps22
    go_wp2_with fail
    refine (K1.out _).mono ?_
    rintro e w1 ⟨rfl, rfl⟩
    go_wp2_with fail
    go_ret
    exact ⟨rfl, (Gr.refl _).alloc _⟩
  · have hov := HW.out rfl
    clear HW
    by_cases h1 : x ≤ p
    · rw [decide_eq_true h1]
      go_enter Try.func22, Try.ntmps22
      go_wp2_with fail
      refine (K1.out _).mono ?_
      rintro e w1 ⟨rfl, rfl⟩
      go_wp2_with fail
      refine (K2.out _).mono ?_
      rintro e w1 ⟨rfl, rfl⟩
      go_wp2_with fail
      go_ret
      exact ⟨rfl, (Gr.refl _).alloc _⟩
    · rw [decide_eq_false h1]
      have h2 : decide (x ≤ p) = false := decide_eq_false h1
      go_enter Try.func22, Try.ntmps22
      go_wp2_with fail
      refine (K1.out _).mono ?_
      rintro e w1 ⟨rfl, rfl⟩
      go_wp2_with fail
      refine (K2.out _).mono ?_
      rintro e w1 ⟨rfl, rfl⟩
      go_wp2_with fail
      go_ret
      exact ⟨rfl, (Gr.refl _).alloc _⟩
end Go.Proofs.Ytlamkhmbjkjbdaa
