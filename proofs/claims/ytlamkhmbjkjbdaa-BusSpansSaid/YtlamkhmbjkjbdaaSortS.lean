/- The contract of slices.SortFunc at spans, by their addresses (layer 21). Conditions: a row of the call's own. -/
import Derived.Test.YtlamkhmbjkjbdaaSortL
import Derived.Test.YtlamkhmbjkjbdaaGath
namespace Go.Proofs.Ytlamkhmbjkjbdaa
open Go.RowKit Go.Sort
set_option linter.unusedVariables false
instance : Inhabited Sp := ⟨⟨0, 0, 0, 0⟩⟩
def cmpV (a b : Int) : Int := if a < b then -1 else if b < a then 1 else 0
theorem nan_any (x : Int) (w : World) : Calls Try.prog 36 #[.int .u64 x] w fun e w' => e = .returned (.bool false) ∧ w = w' := by
  go_enter Try.func36, Try.ntmps36
  go_wp2_with fail
  go_ret
  exact ⟨rfl, rfl⟩
theorem cmp_any (x y : Int) (w : World) : Calls Try.prog 27 #[.int .u64 x, .int .u64 y] w fun e w' => e = .returned (.int .i64 (cmpV x y)) ∧ w = w' := by
  unfold cmpV
  by_cases h1 : x < y
  · rw [if_pos h1]
    go_enter Try.func27, Try.ntmps27
    go_wp2_with fail
    refine (nan_any _ _).mono ?_
    rintro e w1 ⟨rfl, rfl⟩
    go_wp2_with fail
    refine (nan_any _ _).mono ?_
    rintro e w1 ⟨rfl, rfl⟩
    go_wp2_with fail
    go_ret
    exact ⟨rfl, rfl⟩
  · rw [if_neg h1]
    by_cases h2 : y < x
    · rw [if_pos h2]
      go_enter Try.func27, Try.ntmps27
      go_wp2_with fail
      refine (nan_any _ _).mono ?_
      rintro e w1 ⟨rfl, rfl⟩
      go_wp2_with fail
      refine (nan_any _ _).mono ?_
      rintro e w1 ⟨rfl, rfl⟩
      go_wp2_with fail
      go_ret
      exact ⟨rfl, rfl⟩
    · rw [if_neg h2]
      go_enter Try.func27, Try.ntmps27
      go_wp2_with fail
      refine (nan_any _ _).mono ?_
      rintro e w1 ⟨rfl, rfl⟩
      go_wp2_with fail
      refine (nan_any _ _).mono ?_
      rintro e w1 ⟨rfl, rfl⟩
      go_wp2_with fail
      go_ret
      exact ⟨rfl, rfl⟩
theorem closure_any (x y : Sp) (W : World) : Calls Try.prog 26 #[.agg x.cs.toArray, .agg y.cs.toArray] W fun e w' => e = .returned (.int .i64 (cmpV x.a y.a)) ∧ ∃ q os', w' = grow (W.drewN q) os' := by
  obtain ⟨xa, xs, xd, xo⟩ := x
  obtain ⟨ya, ys, yd, yo⟩ := y
  have K := fun W => cmp_any xa ya W
  show Calls Try.prog 26 #[.agg #[.int .u64 xa, .int .u64 xs, .int .i64 xd, .int .u64 xo], .agg #[.int .u64 ya, .int .u64 ys, .int .i64 yd, .int .u64 yo]] W fun e w' => e = .returned (.int .i64 (cmpV xa ya)) ∧ ∃ q os', w' = grow (W.drewN q) os'
  generalize cmpV xa ya = r at K ⊢
  have HK := Lib.hid K
  clear K
  go_enter Try.func26, Try.ntmps26
  go_wp2_with fail
  refine (HK.out _).mono ?_
  rintro e w1 ⟨rfl, rfl⟩
  go_wp2_with fail
  go_ret
  exact ⟨rfl, ((Gr.refl _).alloc _).alloc _⟩
theorem lt_cmp (x y : Sp) : ltOf (fun x y : Sp => cmpV x.a y.a) x y = decide (x.a < y.a) := by
  unfold ltOf cmpV
  by_cases h1 : x.a < y.a
  · simp [h1]
  · by_cases h2 : y.a < x.a <;> simp [h1, h2]
theorem swo_cmp : SWO (ltOf fun x y : Sp => cmpV x.a y.a) where
  irrefl x := by rw [lt_cmp]; simp
  trans x y z h1 h2 := by rw [lt_cmp] at *; simp at *; omega
  ntrans x y z h1 h2 := by rw [lt_cmp] at *; simp at *; omega
theorem spc_at (es : List Sp) (i : Nat) (h : i < es.length) (j : Nat) (hj : j < 4) : (spc es)[i * 4 + j]? = es[i].cs[j]? := by
  induction es generalizing i with
  | nil => simp at h
  | cons e es ih =>
    have hl : e.cs.length = 4 := rfl
    cases i with
    | zero =>
      simp only [spc, List.flatMap_cons]
      rw [List.getElem?_append_left (by omega)]
      simp
    | succ i =>
      simp only [spc, List.flatMap_cons]
      rw [List.getElem?_append_right (by omega), hl, show (i + 1) * 4 + j - 4 = i * 4 + j from by omega]
      exact ih i (by simpa using h)
theorem flat_at (l : List Sp) (t : Nat) (h : t < l.length * 4) : (spc l)[t]? = some ((flatK Sp.cs 4 l.toArray)[t]!) := by
  rw [get_flatK _ _ _ _ (by simpa using h)]
  have ht : t = t / 4 * 4 + t % 4 := by omega
  have h1 : t / 4 < l.length := by omega
  have h2 : t % 4 < 4 := by omega
  have e1 := spc_at l (t / 4) h1 (t % 4) h2
  rw [← ht] at e1
  rw [e1]
  have hl : l[t / 4].cs.length = 4 := rfl
  rw [List.getElem?_eq_getElem (by omega)]
  have e2 : (l.toArray[t / 4]! : Sp) = l[t / 4] := by simp [h1]
  rw [e2, getElem!_pos _ _ (by omega)]
theorem flat_eq (l : List Sp) : (flatK Sp.cs 4 l.toArray).toList = spc l := by
  apply List.ext_getElem?
  intro t
  by_cases h : t < l.length * 4
  · rw [flat_at l t h, Array.getElem?_toList, getElem!_pos _ _ (by rw [size_flatK]; simpa using h)]
    rw [Array.getElem?_eq_getElem]
  · rw [List.getElem?_eq_none (by rw [Array.length_toList, size_flatK]; simp; omega), List.getElem?_eq_none (by rw [spc_len]; omega)]
theorem take_put (F cur : Array Value) (h : F.size ≤ cur.size) : (putCells id 0 F cur).toList.take F.size = F.toList := by
  apply List.ext_getElem?
  intro j
  by_cases hj : j < F.size
  · rw [List.getElem?_take_of_lt hj, Array.getElem?_toList, Array.getElem?_toList]
    simp [putCells, hj, show j < cur.size by omega]
  · rw [List.getElem?_take_eq_none (by omega), List.getElem?_eq_none (by simp; omega)]
def Rising (l : List Sp) : Prop := l.Pairwise fun s t => s.a ≤ t.a
def SortPost (base : Nat) (A : Option Addr) (n c : Nat) (l : List Sp) (w : World) (e : Ending) (w' : World) : Prop :=
  e = .returned (.tuple #[]) ∧ ∃ l', l'.Perm l ∧ Rising l' ∧ w'.ownsRow base 43 4 (.slice A n c) n (spc l') ∧ w.grownBy w' (Value.slice A n c).ownBlock
theorem sort_any (base : Nat) (A : Option Addr) (n c : Nat) (l : List Sp) (hl : l.length = n) (h4 : n ≤ 100000) (w : World) (hown : w.ownsRow base 43 4 (.slice A n c) n (spc l)) :
    Calls Try.prog 25 #[.slice A n c, .func (.func 26) #[] #[]] w (SortPost base A n c l w) := by
  rcases Nat.eq_zero_or_pos n with h0 | hp
  · subst h0
    have hnil : l = [] := List.eq_nil_of_length_eq_zero hl
    subst hnil
    have h := AnyF.slices_SortFunc_none (P := Try.prog) Try.sortL A c (.func (.func 26) #[] #[]) w
    change Calls Try.prog 25 _ _ _ at h
    exact h.mono fun e w' ⟨he, hw⟩ => ⟨he, [], .refl _, .nil, by rw [hw]; exact hown, by rw [hw]; exact World.grownBy.refl _ _⟩
  · rcases hown.2 with ⟨_, hz⟩ | ⟨g, cap, cur, hv, hb, hg, hnc, hcm, hcs, ht⟩
    · omega
    injection hv with e1 _ e3
    subst e1 e3
    have hgl : g < w.heap.size := by
      rcases Nat.lt_or_ge g w.heap.size with h | h
      · exact h
      · rw [Array.getElem?_eq_none h] at hg; cases hg
    have hH : HoldsK Sp.cs 4 w g 0 l.toArray := by
      intro j hj
      rw [size_flatK] at hj
      have hj' : j < n * 4 := by simpa [hl] using hj
      refine ⟨?_, hown.frozenAt _⟩
      rw [Nat.zero_add, hown.cellAt j hj', flat_at l j (by omega)]
      rfl
    have h := AnyQ.slices_SortFunc (P := Try.prog) Try.sortL 4 Try.isAgg43 Try.sizeOf43 Sp.cs (fun _ => rfl) (fun x v hv => by simp [Sp.cs] at hv; rcases hv with rfl | rfl | rfl | rfl <;> rfl) (fun x y => cmpV x.a y.a) swo_cmp 26 #[] g 0 c l.toArray w (enters_of Try.func26 (by kernel_rfl) rfl)
      (fun _ _ _ _ x y => closure_any x y _) hH hgl (by simp; omega)
    change Calls Try.prog 25 _ _ _ at h
    rw [show l.toArray.size = n from by simpa using hl] at h
    refine h.mono fun e w' ⟨he, d', m, os, hp, hs, hw⟩ => ⟨he, d'.toList, ?_, ?_, ?_, ?_⟩
    · obtain ⟨p1, _, p3⟩ := hp
      have q1 : d'.size = n := by rw [p1]; simpa using hl
      rw [Array.extract_eq_self_of_le (by omega), Array.extract_eq_self_of_le (by simp; omega)] at p3
      simpa using p3
    · have q1 : d'.size = n := by rw [hp.1]; simpa using hl
      unfold Rising
      rw [List.pairwise_iff_getElem]
      intro i j hi hj hij
      have hi' : i < d'.size := by simpa using hi
      have hj' : j < d'.size := by simpa using hj
      have := hs i j (Nat.zero_le _) hij (by omega)
      rw [lt_cmp, decide_eq_false_iff_not, getElem!_pos d' i hi', getElem!_pos d' j hj'] at this
      simp only [Array.getElem_toList]
      omega
    · have q1 : d'.size = n := by rw [hp.1]; simpa using hl
      subst hw
      have hfl := flat_eq d'.toList
      rw [Array.toArray_toList] at hfl
      refine ⟨by rw [spc_len]; simpa using congrArg (· * 4) q1, .inr ⟨g, c, putCells id 0 (flatK Sp.cs 4 d') cur, rfl, hb, ?_, hnc, hcm, by simpa [putCells] using hcs, ?_⟩⟩
      · unfold sortWorldK
        rw [heap_grow_old _ _ (by simpa [putRowK, putRow, mapBlock, Sort.ahead] using hgl)]
        simp [putRowK, putRow, mapBlock, Sort.ahead, Array.getElem?_modify, hg, onCells]
      · rw [← hfl]
        have := take_put (flatK Sp.cs 4 d') cur (by rw [size_flatK, q1, hcs]; exact Nat.mul_le_mul_right _ hnc)
        rw [size_flatK, q1] at this
        exact this
    · subst hw
      refine ⟨rfl, rfl, rfl, by simp [sortWorldK, putRowK, putRow, mapBlock, Sort.ahead], fun k hk hne => ?_⟩
      unfold sortWorldK
      rw [heap_grow_old _ _ (by simpa [putRowK, putRow, mapBlock, Sort.ahead] using hk)]
      have : g ≠ k := fun e => hne (by rw [e]; rfl)
      simp [putRowK, putRow, mapBlock, Sort.ahead, Array.getElem?_modify, this]
end Go.Proofs.Ytlamkhmbjkjbdaa
