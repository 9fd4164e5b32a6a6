/- Contracts of windows of addresses (layer 12) and entries' windows (layer 21). Conditions: numbers of 64 bits. -/
import Derived.Test.YtlamkhmbjkjbdaaBase
import Derived.Deep.RegionWith
import Derived.Shelf.SlSortCmp.QuietGrown
namespace Go.Proofs.Ytlamkhmbjkjbdaa
open Go.RowKit Go.Sort
set_option linter.unusedVariables false
/-- A number of 64 bits. -/
def U (x : Int) : Prop := 0 ≤ x ∧ x < 18446744073709551616
/-- Do size bytes from x on not go beyond the last address? -/
def wholeV (x s : Int) : Bool := s == 0 || decide (s - 1 ≤ 18446744073709551615 - x)
/-- Behind w: some draws, and some new blocks. -/
def Gr (w w' : World) : Prop := ∃ q os, w' = grow (w.drewN q) os
theorem Gr.refl (w : World) : Gr w w := ⟨0, #[], by simp [grow_empty]; rfl⟩
theorem Gr.alloc {v w : World} (h : Gr v w) (o : Obj) : Gr v (w.alloc o) := by
  obtain ⟨q, os, rfl⟩ := h
  exact ⟨q, os ++ #[o], by rw [alloc_eq_grow, grow_grow]⟩
theorem Gr.drewN {v w : World} (h : Gr v w) (n : Nat) : Gr v (w.drewN n) := by
  obtain ⟨q, os, rfl⟩ := h
  exact ⟨q + n, os, by rw [← World.drewN_drewN]; rfl⟩
theorem Gr.drew {v w : World} (h : Gr v w) : Gr v w.drew := h.drewN 1
theorem Gr.trans {u v w : World} (h : Gr u v) (k : Gr v w) : Gr u w := by
  obtain ⟨q, os, rfl⟩ := h
  obtain ⟨r, os', rfl⟩ := k
  exact ⟨q + r, os ++ os', by rw [← grow_grow, ← World.drewN_drewN]; rfl⟩
theorem Gr.below {v w : World} (h : Gr v w) : Below v.heap.size v w := by
  obtain ⟨q, os, rfl⟩ := h
  exact ⟨rfl, rfl, rfl, by rw [size_grow]; exact Nat.le_add_right _ _, fun i hi => heap_grow_old _ _ hi⟩
theorem whole_any (x s : Int) (hx : U x) (hs : U s) (w : World) :
    Calls Try.prog 28 #[.agg #[.int .u64 x, .int .u64 s]] w fun e w' => e = .returned (.bool (wholeV x s)) ∧ Gr w w' := by
  obtain ⟨hx0, hx1⟩ := hx
  obtain ⟨hs0, hs1⟩ := hs
  unfold wholeV
  by_cases h0 : s = 0
  · subst h0
    go_enter Try.func28, Try.ntmps28
    go_wp2_with fail
    go_ret
    exact ⟨rfl, (Gr.refl _).alloc _⟩
  · have hz : (s == 0) = false := by simpa using h0
    have h1 : 1 ≤ s := by omega
    go_enter Try.func28, Try.ntmps28
    go_wp2_with fail
    go_ret
    exact ⟨by rw [hz]; rfl, (Gr.refl _).alloc _⟩
/-- Does a window hold size bytes from p on? -/
def insideV (x s p n : Int) : Bool := wholeV x s && (wholeV p n && (decide (0 < n) && (decide (x ≤ p) && (decide (p - x < s) && decide (n ≤ s - (p - x))))))
set_option maxHeartbeats 1600000 in
theorem inside_any (x s p n : Int) (hx : U x) (hs : U s) (hp : U p) (hn : U n) (w : World) :
    Calls Try.prog 17 #[.agg #[.int .u64 x, .int .u64 s], .int .u64 p, .int .u64 n] w fun e w' => e = .returned (.bool (insideV x s p n)) ∧ Gr w w' := by
  have H1 := fun W => whole_any x s hx hs W
  have H2 := fun W => whole_any p n hp hn W
  unfold insideV
  obtain ⟨hx0, hx1⟩ := hx
  obtain ⟨hs0, hs1⟩ := hs
  obtain ⟨hp0, hp1⟩ := hp
  obtain ⟨hn0, hn1⟩ := hn
  generalize wholeV x s = b1 at *
  generalize wholeV p n = b2 at *
  cases b1
  · have K1 := Lib.hid H1
    clear H1 H2
    go_enter Try.func17, Try.ntmps17
    go_wp2_with fail
    refine (K1.out _).mono ?_
    rintro e w1 ⟨rfl, gg1⟩
    have bb1 := gg1.below
    have B1 := Lib.hid gg1
    clear bb1 gg1
    go_wp2_with fail
    go_ret
    exact ⟨rfl, ((Gr.refl _).alloc _).trans B1.out⟩
  have K1 := Lib.hid H1
  have K2 := Lib.hid H2
  clear H1 H2
  cases b2
  · go_enter Try.func17, Try.ntmps17
    go_wp2_with fail
    refine (K1.out _).mono ?_
    rintro e w1 ⟨rfl, gg1⟩
    have bb1 := gg1.below
    have B1 := Lib.hid gg1
    clear bb1 gg1
    go_wp2_with fail
    refine (K2.out _).mono ?_
    rintro e w2 ⟨rfl, gg2⟩
    have bb2 := gg2.below
    have B2 := Lib.hid gg2
    clear bb2 gg2
    go_wp2_with fail
    go_ret
    exact ⟨rfl, (((Gr.refl _).alloc _).trans B1.out).trans B2.out⟩
  have key : ∀ (d1 d2 d3 d4 : Bool), decide (0 < n) = d1 → decide (x ≤ p) = d2 → decide (p - x < s) = d3 → decide (n ≤ s - (p - x)) = d4 →
      Calls Try.prog 17 #[.agg #[.int .u64 x, .int .u64 s], .int .u64 p, .int .u64 n] w fun e w' => e = .returned (.bool (true && (true && (d1 && (d2 && (d3 && d4)))))) ∧ Gr w w' := by
    intro d1 d2 d3 d4 f1 f2 f3 f4
    have G1 := Lib.hid f1
    have G2 := Lib.hid f2
    have G3 := Lib.hid f3
    have G4 := Lib.hid f4
    clear f1 f2 f3 f4
    go_enter Try.func17, Try.ntmps17
    go_wp2_with fail
    refine (K1.out _).mono ?_
    rintro e w1 ⟨rfl, gg1⟩
    have bb1 := gg1.below
    have c0 := bb1.cell (p := ⟨w.heap.size, 0, none⟩) (by simp)
    have c1 := bb1.cell (p := ⟨w.heap.size, 1, none⟩) (by simp)
    have B1 := Lib.hid gg1
    have z1 : w.heap.size < w1.heap.size := by have := bb1.size; simp at this; omega
    clear bb1 gg1
    simp at c0 c1
    go_wp2_with fail
    refine (K2.out _).mono ?_
    rintro e w2 ⟨rfl, gg2⟩
    have bb2 := gg2.below
    have c0' := (bb2.cell (p := ⟨w.heap.size, 0, none⟩) z1).trans c0
    have c1' := (bb2.cell (p := ⟨w.heap.size, 1, none⟩) z1).trans c1
    have B2 := Lib.hid gg2
    clear bb2 gg2 c0 c1 z1 K1 K2
    cases d1
    · have g1 := G1.out
      clear G1 G2 G3 G4
      go_wp2_with fail
      go_ret
      exact ⟨rfl, (((Gr.refl _).alloc _).trans B1.out).trans B2.out⟩
    have g1 : 0 < n := of_decide_eq_true G1.out
    clear G1
    cases d2
    · have g2 := G2.out
      clear G2 G3 G4
      go_wp2_with fail
      go_ret
      exact ⟨rfl, (((Gr.refl _).alloc _).trans B1.out).trans B2.out⟩
    have g2 : x ≤ p := of_decide_eq_true G2.out
    clear G2
    have g2' : 0 ≤ p - x := by omega
    cases d3
    · have g3 := G3.out
      clear G3 G4
      go_wp2_with fail
      go_ret
      exact ⟨rfl, (((Gr.refl _).alloc _).trans B1.out).trans B2.out⟩
    have g3 : p - x < s := of_decide_eq_true G3.out
    clear G3
    have g3' : 0 ≤ s - (p - x) := by omega
    cases d4
    all_goals
      have g4 := G4.out
      clear G4
      go_wp2_with fail
      go_ret
      exact ⟨rfl, (((Gr.refl _).alloc _).trans B1.out).trans B2.out⟩
  exact key _ _ _ _ rfl rfl rfl rfl
/-- A window that holds a byte, and does not go beyond the last address. -/
structure Win (x s : Int) : Prop where
  x0 : 0 ≤ x
  s0 : 1 ≤ s
  end_ : x + s ≤ 18446744073709551616
theorem Win.ux {x s : Int} (h : Win x s) : U x := ⟨h.x0, by have := h.s0; have := h.end_; omega⟩
theorem Win.us {x s : Int} (h : Win x s) : U s ∨ (x = 0 ∧ s = 18446744073709551616) := by
  have := h.x0; have := h.end_; have := h.s0
  unfold U
  omega
theorem wholeV_win {x s : Int} (h : Win x s) : wholeV x s = true := by
  have := h.end_
  unfold wholeV
  simp
  omega
theorem last_any (x s : Int) (h : Win x s) (hs : U s) (w : World) :
    Calls Try.prog 37 #[.agg #[.int .u64 x, .int .u64 s]] w fun e w' => e = .returned (.int .u64 (x + (s - 1))) ∧ Gr w w' := by
  have c := fun W => whole_any x s h.ux hs W
  rw [wholeV_win h] at c
  have K := Lib.hid c
  clear c
  have hx0 := h.x0
  have hs0 := h.s0
  have he := h.end_
  have hs1 := hs.2
  clear h hs
  go_enter Try.func37, Try.ntmps37
  go_wp2_with fail
  refine (K.out _).mono ?_
  rintro e w1 ⟨rfl, gg1⟩
  have bb1 := gg1.below
  have c0 := bb1.cell (p := ⟨w.heap.size, 0, none⟩) (by simp)
  have c1 := bb1.cell (p := ⟨w.heap.size, 1, none⟩) (by simp)
  simp at c0 c1
  have B1 := Lib.hid gg1
  clear bb1 gg1
  go_wp2_with fail
  go_ret
  exact ⟨rfl, ((Gr.refl _).alloc _).trans B1.out⟩
/-- Is a byte in both windows? -/
def meetV (x s y t : Int) : Bool := decide (x ≤ y + (t - 1)) && decide (y ≤ x + (s - 1))
set_option maxHeartbeats 1600000 in
theorem meet_any (x s y t : Int) (h : Win x s) (hs : U s) (k : Win y t) (ht : U t) (w : World) :
    Calls Try.prog 32 #[.agg #[.int .u64 x, .int .u64 s], .agg #[.int .u64 y, .int .u64 t]] w fun e w' => e = .returned (.bool (meetV x s y t)) ∧ Gr w w' := by
  have K1 := Lib.hid (fun W => last_any x s h hs W)
  have K2 := Lib.hid (fun W => last_any y t k ht W)
  have a0 := h.x0
  have a1 := h.s0
  have a2 := h.end_
  have b0 := k.x0
  have b1 := k.s0
  have b2 := k.end_
  have hs1 := hs.2
  have ht1 := ht.2
  clear h hs k ht
  have a3 : 0 < s := by omega
  have b3 : 0 < t := by omega
  unfold meetV
  by_cases h1 : x ≤ y + (t - 1)
  · rw [decide_eq_true h1]
    go_enter Try.func32, Try.ntmps32
    go_wp2_with fail
    generalize hw : ((w.alloc (.cells #[.int .u64 x, .int .u64 s] 51)).alloc (.cells #[.int .u64 y, .int .u64 t] 51)) = W
    have hz : w.heap.size + 1 < W.heap.size := by rw [← hw]; simp
    have e0 : ∀ n os, (grow (W.drewN n) os).cell? ⟨w.heap.size, 0, none⟩ = some (.int .u64 x) := fun n os => cell_grown (by simp; omega) (by rw [← hw]; simp) n os
    have e1 : ∀ n os, (grow (W.drewN n) os).cell? ⟨w.heap.size, 1, none⟩ = some (.int .u64 s) := fun n os => cell_grown (by simp; omega) (by rw [← hw]; simp) n os
    have e2 : ∀ n os, (grow (W.drewN n) os).cell? ⟨w.heap.size + 1, 0, none⟩ = some (.int .u64 y) := fun n os => cell_grown (by simp; omega) (by rw [← hw]; simp) n os
    have e3 : ∀ n os, (grow (W.drewN n) os).cell? ⟨w.heap.size + 1, 1, none⟩ = some (.int .u64 t) := fun n os => cell_grown (by simp; omega) (by rw [← hw]; simp) n os
    have GW : Hid (Gr w W) := Lib.hid (by rw [← hw]; exact ((Gr.refl _).alloc _).alloc _)
    clear hw
    have mixed : Try.prog.follows .mixedOrders = true := by kernel_rfl
    go_quiet_grown (first | (go_at_call_of 37 x; exact Calls.grown_of (K1.out _)) | (go_at_call_of 37 y; exact Calls.grown_of (K2.out _)))
    go_wp2_with fail
    go_ret
    exact ⟨rfl, GW.out.trans ⟨nq, osq, rfl⟩⟩
  · have h1' : decide (x ≤ y + (t - 1)) = false := decide_eq_false h1
    rw [h1']
    go_enter Try.func32, Try.ntmps32
    go_wp2_with fail
    generalize hw : ((w.alloc (.cells #[.int .u64 x, .int .u64 s] 51)).alloc (.cells #[.int .u64 y, .int .u64 t] 51)) = W
    have hz : w.heap.size + 1 < W.heap.size := by rw [← hw]; simp
    have e0 : ∀ n os, (grow (W.drewN n) os).cell? ⟨w.heap.size, 0, none⟩ = some (.int .u64 x) := fun n os => cell_grown (by simp; omega) (by rw [← hw]; simp) n os
    have e1 : ∀ n os, (grow (W.drewN n) os).cell? ⟨w.heap.size, 1, none⟩ = some (.int .u64 s) := fun n os => cell_grown (by simp; omega) (by rw [← hw]; simp) n os
    have e2 : ∀ n os, (grow (W.drewN n) os).cell? ⟨w.heap.size + 1, 0, none⟩ = some (.int .u64 y) := fun n os => cell_grown (by simp; omega) (by rw [← hw]; simp) n os
    have e3 : ∀ n os, (grow (W.drewN n) os).cell? ⟨w.heap.size + 1, 1, none⟩ = some (.int .u64 t) := fun n os => cell_grown (by simp; omega) (by rw [← hw]; simp) n os
    have GW : Hid (Gr w W) := Lib.hid (by rw [← hw]; exact ((Gr.refl _).alloc _).alloc _)
    clear hw
    have mixed : Try.prog.follows .mixedOrders = true := by kernel_rfl
    go_quiet_grown (first | (go_at_call_of 37 x; exact Calls.grown_of (K1.out _)) | (go_at_call_of 37 y; exact Calls.grown_of (K2.out _)))
    go_wp2_with fail
    go_ret
    exact ⟨rfl, GW.out.trans ⟨nq, osq, rfl⟩⟩
/-- Is it a window? -/
def winB (x s : Int) : Bool := decide (0 < s) && decide (x + s ≤ 18446744073709551616)
theorem winB_iff {x s : Int} (hx : U x) (hs : U s) : winB x s = true ↔ Win x s := by
  unfold winB
  obtain ⟨_, _⟩ := hx
  obtain ⟨_, _⟩ := hs
  simp only [Bool.and_eq_true, decide_eq_true_eq]
  exact ⟨fun ⟨a, b⟩ => ⟨by omega, by omega, b⟩, fun h => ⟨by have := h.s0; omega, h.end_⟩⟩
theorem inside_self {x s : Int} (hx : U x) (hs : U s) (h : 0 < s) : insideV x s x s = winB x s := by
  obtain ⟨_, _⟩ := hx
  obtain ⟨_, _⟩ := hs
  unfold insideV winB wholeV
  have h0 : (s == 0) = false := by simp; omega
  rw [h0, decide_eq_true h, decide_eq_true (show x ≤ x by omega), decide_eq_true (show x - x < s by omega), decide_eq_true (show s ≤ s - (x - x) by omega)]
  simp
  omega
theorem bwhole_any (x s : Int) (hx : U x) (hs : U s) (w : World) :
    Calls Try.prog 29 #[.int .u64 x, .int .u64 s] w fun e w' => e = .returned (.bool (winB x s)) ∧ Gr w w' := by
  by_cases h0 : 0 < s
  · have K := fun W => inside_any x s x s hx hs hx hs W
    rw [inside_self hx hs h0] at K
    have K1 := Lib.hid K
    obtain ⟨hx0, hx1⟩ := hx
    obtain ⟨hs0, hs1⟩ := hs
    clear K
    go_enter Try.func29, Try.ntmps29
    go_wp2_with fail
    refine (K1.out _).mono ?_
    rintro e w1 ⟨rfl, gg1⟩
    go_wp2_with fail
    go_ret
    exact ⟨rfl, gg1⟩
  · have h0' : decide (0 < s) = false := decide_eq_false h0
    unfold winB
    rw [h0']
    go_enter Try.func29, Try.ntmps29
    go_wp2_with fail
    go_ret
    exact ⟨rfl, Gr.refl _⟩
theorem window_any (a s d b : Int) (y : Bool) (w : World) :
    Calls Try.prog 18 #[.agg #[.int .u64 a, .int .u64 s, .bool y, .int .i64 d, .int .u64 b]] w fun e w' => e = .returned (.agg #[.int .u64 a, .int .u64 s]) ∧ Gr w w' := by
  go_enter Try.func18, Try.ntmps18
  go_wp2_with fail
  exact bodyPost_ret (v := .agg #[.int .u64 a, .int .u64 s]) (by simp [results, Try.results18, go_sem]) rfl ⟨rfl, ((Gr.refl _).alloc _).alloc _⟩
end Go.Proofs.Ytlamkhmbjkjbdaa
