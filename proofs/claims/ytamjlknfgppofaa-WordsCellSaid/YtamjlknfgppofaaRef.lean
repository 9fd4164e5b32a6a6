/- The reference's Bytes, and rows of bytes as strings. Conditions: 4 or 8 bytes; rows of bytes. -/
import Derived.Test.YtamjlknfgppofaaGet
import Derived.Test.YtamjlknfgppofaaPut
import Derived.Test.YtamjlknfgppofaaLawGet
namespace Go.Proofs.Ytamjlknfgppofaa
open Go.RowKit
set_option linter.unusedVariables false
set_option linter.unusedSimpArgs false
theorem row_str {w : World} {ad : Addr} {xs : List Int} (h : RowAt w ad xs) (n cap : Nat) (hn : xs.length = n) :
    (convert 22 9 (.slice (some ad) n cap)).run Try.prog w = .ok (.string (strOfNums xs)) w := by
  subst hn
  have hl : (loadCells ad xs.length).run Try.prog w = .ok (xs.map (Value.int .u8)).toArray w := by
    have := run_loadCells_list (P := Try.prog) w ad (xs.map (Value.int .u8)) (fun j v hj => by
      have hjl : j < xs.length := by
        rcases Nat.lt_or_ge j xs.length with h | h
        · exact h
        · simp [List.getElem?_eq_none (show (xs.map (Value.int .u8)).length ≤ j by simpa using h)] at hj
      rw [h j hjl]
      simp [List.getElem?_eq_getElem hjl] at hj
      subst hj
      simp [List.getD, List.getElem?_eq_getElem hjl])
    simpa using this
  rw [run_convert_bytes_string w 22 9 _ _ xs.length cap Try.underlying22 Try.underlying5 Try.underlying9, run_bytesToString w _ xs.length cap xs hl, foldl_push_bytes]
  simp [strOfNums, ByteArray.empty, ByteArray.emptyWithCapacity]
  rfl
theorem own_rowAt {w : World} {B n : Nat} {A : Option Addr} {c : Nat} {xs : List Int} (h : w.ownsRow B 5 1 (.slice A n c) n (bs xs)) :
    (convert 22 9 (.slice A n c)).run Try.prog w = .ok (.string (strOfNums xs)) w := by
  have hl : xs.length = n := by have := h.1; rw [bs_len, Nat.mul_one] at this; exact this
  rcases h.2 with ⟨e, h0⟩ | ⟨g, cap, cur, e, _⟩
  · have hx : xs = [] := List.eq_nil_of_length_eq_zero (by omega)
    injection e with e1 e2 e3
    subst e1 e3 hx
    rw [h0]
    exact run_convert_bytes_nil w 22 5 Try.underlying22 Try.underlying5 0 0 9 Try.underlying9
  · injection e with e1 e2 e3
    subst e1
    exact row_str (fun i hi => h.cells (g := g) rfl i (.int .u8 (xs.getD i 0)) (by simp [bs, List.getElem?_eq_getElem hi, List.getD_eq_getElem?_getD])) n c hl
theorem str_app (xs ys : List Int) : strOfNums xs ++ strOfNums ys = strOfNums (xs ++ ys) := by
  apply ByteArray.ext
  simp [strOfNums]
/-- The reference's row behind j bytes written from the back. -/
def arr (v n j : Nat) : List Int := (List.range n).map fun i => if n ≤ i + j then (v : Int) / 2 ^ (8 * (n - 1 - i)) % 256 else 0
theorem arr_len (v n j : Nat) : (arr v n j).length = n := by simp [arr]
theorem arr_full (v n : Nat) : arr v n n = bt v n := by
  unfold arr bt
  exact List.map_congr_left fun i _ => if_pos (by omega)
theorem arr_set {v n j : Nat} (h : j < n) : (arr v n j).set (n - 1 - j) ((v : Int) / 2 ^ (8 * j) % 256) = arr v n (j + 1) := by
  apply List.ext_getElem?
  intro i
  simp only [arr, List.getElem?_set, List.getElem?_map, List.length_map, List.length_range]
  by_cases hi : i < n
  · rw [List.getElem?_range hi]
    by_cases he : n - 1 - j = i
    · subst he
      simp [hi]
      rw [if_pos (by omega), show n - 1 - (n - 1 - j) = j from by omega]
    · simp [he]
      by_cases h1 : n ≤ i + j
      · rw [if_pos h1, if_pos (by omega)]
      · rw [if_neg h1, if_neg (by omega)]
  · have : (List.range n)[i]? = none := List.getElem?_eq_none (by simp; omega)
    simp [this, show ¬ n - 1 - j = i by omega]
theorem made (v n : Nat) (hn : n = 4 ∨ n = 8) (W : World) : (Instr.makeSlice 22 (.int .i64 n) (.int .i64 n)).run Try.prog W = .ok (.slice (some ⟨W.heap.size, 0, none⟩) n n) (W.alloc (.cells (bs (arr v n 0)).toArray 5)) := by
  obtain ⟨i0, hi, hz0, hz1, hz2⟩ := info_parts info5
  rw [run_makeSlice W 22 5 i0 (.int .u8 0) Try.underlying22 hi hz0 .i64 .i64 n n (by omega) (Int.le_refl _) (by rw [hz1]; omega) (by rw [hz2]; omega) (by omega), hz1]
  rcases hn with rfl | rfl <;> kernel_rfl
set_option maxHeartbeats 1600000 in
theorem ref_bytes (v n : Nat) (hn : n = 4 ∨ n = 8) (hv : v < 18446744073709551616) (w : World) :
    Calls Try.prog 10 #[.int .u64 v, .int .i64 n] w fun e w' => e = .returned (.slice (some ⟨w.heap.size, 0, none⟩) n n) ∧ Bk w' w.heap.size 5 (bs (bt v n)).toArray ∧ Below w.heap.size w w' := by
  have hmk := made v n hn
  have hn8 : n ≤ 8 := by omega
  clear hn
  have K0 := Lib.hid (Bk.new w 5 (bs (arr v n 0)).toArray)
  have B0 := Lib.hid (bw_alloc (Below.refl w.heap.size w) (.cells (bs (arr v n 0)).toArray 5))
  go_enter Try.func10, Try.ntmps10
  go_wp2_with fail
  generalize w.alloc (.cells (bs (arr v n 0)).toArray 5) = w1 at *
  have g0 : w.heap.size = w.heap.size := rfl
  generalize hg : w.heap.size = g at K0 B0 ⊢
  go_loopw [0, 6] (fun x i wr => ∃ j : Nat, x = .int .u64 ((v : Int) / 2 ^ (8 * j)) ∧ i = .int .i64 ((n : Int) - 1 - j) ∧ j ≤ n ∧ Hid (Bk wr g 5 (bs (arr v n j)).toArray) ∧ Hid (Below g w wr)) (fun _ i _ => ((intOf i) + 1).toNat)
  case atStart => exact ⟨0, by simp, by simp, by omega, K0, B0⟩
  case round =>
    clear K0 B0
    obtain ⟨j, rfl, rfl, hj, KK, BB⟩ := hrel
    by_cases hlt : j < n
    · obtain ⟨q, hq⟩ : ∃ q : Nat, (n : Int) - 1 - j = q := ⟨n - 1 - j, by omega⟩
      have hqn : n - 1 - j = q := by omega
      rw [hq]
      have HA := Lib.hid (arr_set (v := v) hlt)
      rw [hqn] at HA
      clear hqn
      have hqlt : q < n := by omega
      have c0 := KK.out.cell q
      have f0 := KK.out.free q
      obtain ⟨old, hold⟩ : ∃ u, (bs (arr v n j)).toArray[q]? = some u := ⟨_, Array.getElem?_eq_getElem (by simp [bs_len, arr_len]; exact hqlt)⟩
      rw [hold] at c0
      clear hold
      have hv0 : 0 ≤ (v : Int) / 2 ^ (8 * j) ∧ (v : Int) / 2 ^ (8 * j) < 18446744073709551616 := by
        have h1 := Nat.div_le_self v (2 ^ (8 * j))
        have h2 : ((v / 2 ^ (8 * j) : Nat) : Int) = (v : Int) / 2 ^ (8 * j) := by simp
        rw [← h2]
        generalize v / 2 ^ (8 * j) = z at *
        clear h2
        omega
      have hnx := Lib.hid (show (v : Int) / 2 ^ (8 * j) / 256 = (v : Int) / 2 ^ (8 * (j + 1)) from by
        rw [Int.ediv_ediv_of_nonneg (by exact Int.le_of_lt (Int.pow_pos (by decide))), show 8 * (j + 1) = 8 * j + 8 from by omega, Int.pow_add]; rfl)
      generalize (v : Int) / 2 ^ (8 * j) = V at *
      obtain ⟨hv0, hv1⟩ := hv0
      go_wp2_with fail
      have hset : Bk (wr.setCell ⟨g, q, none⟩ (.int .u8 (V % 256))) g 5 (bs (arr v n (j + 1))).toArray := by
        have h1 := KK.out.set q (.int .u8 (V % 256))
        rw [← HA.out]
        have e : (bs (arr v n j)).toArray.setIfInBounds q (.int .u8 (V % 256)) = (bs ((arr v n j).set q (V % 256))).toArray := by simp [bs, List.map_set]
        rw [e] at h1
        exact h1
      have hbel : Below g w (wr.setCell ⟨g, q, none⟩ (.int .u8 (V % 256))) :=
        On.below BB.out ((On.refl g wr).set q _) (by have := BB.out.size; omega) (Nat.le_refl _)
      refine ⟨⟨j + 1, by rw [hnx.out], by congr 1; omega, by omega, Lib.hid hset, Lib.hid hbel⟩, ?_⟩
      simp [intOf] <;> omega
    · obtain rfl : j = n := by omega
      have hd : (j : Int) - 1 - j = -1 := by omega
      rw [hd]
      have K2 : Hid _ := KK
      rw [arr_full] at K2
      clear KK
      go_wp2_with fail
      go_ret
      exact ⟨rfl, K2.out, BB.out⟩
end Go.Proofs.Ytamjlknfgppofaa
