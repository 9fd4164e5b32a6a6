/- The walk of the law WordsPut: called with any bytes and numbers it returns true, and nothing that lay in memory is another. No conditions beyond the kinds. -/
import Derived.Test.YtamjlknfgppofaaRef
import Derived.Deep.RegionHeld
namespace Go.Proofs.Ytamjlknfgppofaa
open Go.RowKit
set_option linter.unusedVariables false
set_option linter.unusedSimpArgs false
theorem clone_row {W : World} {ad : Addr} {xs : List Int} (l c : Nat) (h : RowAt W ad xs) (hl : xs.length = l) (hm : l ≤ 10000) :
    Calls Try.prog 20 #[.slice (some ad) l c] W fun e w' => ∃ x, e = .returned x ∧ w'.ownsRow W.heap.size 5 1 x l (bs xs) ∧ Below W.heap.size W w' :=
  clone_some ad l c xs W hl (fun j u hu => by
    have hj : j < xs.length := by
      rcases Nat.lt_or_ge j xs.length with h | h
      · exact h
      · simp [bs, List.getElem?_eq_none h] at hu
    simp [bs, List.getElem?_eq_getElem hj] at hu
    subst hu
    rw [h j hj]
    simp [List.getD_eq_getElem?_getD, List.getElem?_eq_getElem hj]) (by omega)
theorem bk_row {w : World} {g : Nat} {xs : List Int} (h : Bk w g 5 (bs xs).toArray) : RowAt w ⟨g, 0, none⟩ xs := by
  intro i hi
  have ha : (⟨g, 0, none⟩ : Addr).add i = ⟨g, i, none⟩ := by unfold Addr.add; split <;> simp_all
  rw [ha, h.cell i]
  simp [bs, List.getElem?_eq_getElem hi, List.getD_eq_getElem?_getD]
/-- The reference's Bytes, as the string that it becomes. -/
theorem ref_str (v n : Nat) (hn : n = 4 ∨ n = 8) (hv : v < 18446744073709551616) (w : World) :
    Calls Try.prog 10 #[.int .u64 v, .int .i64 n] w fun e w' => e = .returned (.slice (some ⟨w.heap.size, 0, none⟩) n n) ∧ Below w.heap.size w w' ∧
      ∀ W, Below w'.heap.size w' W → (convert 22 9 (.slice (some ⟨w.heap.size, 0, none⟩) n n)).run Try.prog W = .ok (.string (strOfNums (bt v n))) W := by
  refine (ref_bytes v n hn hv w).mono ?_
  rintro e w' ⟨rfl, hk, hb⟩
  exact ⟨rfl, hb, fun W hW => row_str (bk_row (hk.below hW)) n n (bt_len v n)⟩
theorem ref_str4 (v : Nat) (hv : v < 18446744073709551616) (w : World) :
    Calls Try.prog 10 #[.int .u64 v, .int .i64 4] w fun e w' => e = .returned (.slice (some ⟨w.heap.size, 0, none⟩) 4 4) ∧ Below w.heap.size w w' ∧
      ∀ W, Below w'.heap.size w' W → (convert 22 9 (.slice (some ⟨w.heap.size, 0, none⟩) 4 4)).run Try.prog W = .ok (.string (strOfNums (bt v 4))) W := ref_str v 4 (.inl rfl) hv w
theorem ref_str8 (v : Nat) (hv : v < 18446744073709551616) (w : World) :
    Calls Try.prog 10 #[.int .u64 v, .int .i64 8] w fun e w' => e = .returned (.slice (some ⟨w.heap.size, 0, none⟩) 8 8) ∧ Below w.heap.size w w' ∧
      ∀ W, Below w'.heap.size w' W → (convert 22 9 (.slice (some ⟨w.heap.size, 0, none⟩) 8 8)).run Try.prog W = .ok (.string (strOfNums (bt v 8))) W := ref_str v 8 (.inr rfl) hv w
/-- What a row becomes as a string in whatever world that holds it. -/
def Str (w : World) (x : Value) (s : ByteArray) : Prop := ∀ W, Below w.heap.size w W → (convert 22 9 x).run Try.prog W = .ok (.string s) W
theorem Str.now {w : World} {x : Value} {s : ByteArray} (h : Str w x s) : (convert 22 9 x).run Try.prog w = .ok (.string s) w := h w (Below.refl _ _)
theorem Str.n {w : World} {x : Value} {s : ByteArray} (h : Str w x s) (j : Nat) : (convert 22 9 x).run Try.prog (w.drewN j) = .ok (.string s) (w.drewN j) := h _ (bw_drewN (Below.refl _ _) j)
theorem Str.d {w : World} {x : Value} {s : ByteArray} (h : Str w x s) : (convert 22 9 x).run Try.prog w.drew = .ok (.string s) w.drew := h _ (Below.refl _ _).drew
theorem Str.stays {w w' : World} {x : Value} {s : ByteArray} (h : Str w x s) (hb : Below w.heap.size w w') : Str w' x s := fun W hW => h W (bw_trans hb hW)
theorem Str.own {w : World} {B n : Nat} {A : Option Addr} {c : Nat} {xs : List Int} (h : w.ownsRow B 5 1 (.slice A n c) n (bs xs)) : Str w (.slice A n c) (strOfNums xs) := fun W hW => own_rowAt (own_below h hW)
set_option maxHeartbeats 1600000 in
theorem put_law (a : Option Addr) (l c : Nat) (xs : List Int) (v u : Nat) (hv : v < 4294967296) (hu : u < 18446744073709551616) (w : World) (hl : l ≤ 10000) (hxl : xs.length = l)
    (h1 : ∀ W, Below w.heap.size w W → Calls Try.prog 20 #[.slice a l c] W fun e w' => ∃ x, e = .returned x ∧ w'.ownsRow W.heap.size 5 1 x l (bs xs) ∧ Below W.heap.size W w')
    (h2 : Str w (.slice a l c) (strOfNums xs)) :
    Calls Try.prog 3 #[.slice a l c, .int .u32 v, .int .u64 u] w fun e w' => e = .returned (.bool true) ∧ Below w.heap.size w w' := by
  have hl' : decide (10000 < (l : Int)) = false := decide_eq_false (by omega)
  have H1 := Lib.hid h1
  have H2 := Lib.hid h2
  have R4 := fun W => Lib.hid (ref_str4 v (by omega) W)
  have R8 := fun W => Lib.hid (ref_str8 u hu W)
  have P4 := fun W hW => Lib.hid (Put_any (.slice a l c) v l xs hl hv W hW)
  have P8 := fun W hW => Lib.hid (Put64_any (.slice a l c) u l xs hl hu W hW)
  have a1 := str_app xs (bt v 4)
  have a2 := str_app xs (bt u 8)
  have n1 : (9223372036854775807 < (strOfNums xs).size + (strOfNums (bt v 4)).size) = False := by rw [strOfNums_size, strOfNums_size, bt_len]; simp; omega
  have n2 : (9223372036854775807 < (strOfNums xs).size + (strOfNums (bt u 8)).size) = False := by rw [strOfNums_size, strOfNums_size, bt_len]; simp; omega
  clear h1 h2
  go_enter Try.func3, Try.ntmps3
  go_wp2_with fail
  refine (awake_any _).mono ?_
  rintro e w1 ⟨rfl, bw⟩
  have BW := Lib.hid bw
  clear bw
  go_wp2_with fail
  refine (P4 _ (H1.out _ BW.out)).out.mono ?_
  rintro e w2 ⟨x, rfl, ow, bw⟩
  obtain ⟨A2, c2, rfl⟩ := own_shape ow
  have SX := Lib.hid (Str.own ow)
  have BW2 := Lib.hid (bw_trans BW.out bw)
  clear ow bw
  go_wp2_with fail
  refine (P8 _ (H1.out _ BW2.out)).out.mono ?_
  rintro e w3 ⟨y, rfl, ow, bw⟩
  obtain ⟨A3, c3, rfl⟩ := own_shape ow
  have SY := Lib.hid (Str.own ow)
  have BW3 := Lib.hid (bw_trans BW2.out bw)
  have SX3 := Lib.hid (SX.out.stays bw)
  have SB3 := Lib.hid (H2.out.stays BW3.out)
  clear ow bw BW2 BW SX H1 H2 P4 P8 hl hxl hl' hu
  generalize strOfNums (xs ++ bt v 4) = s1 at *
  generalize strOfNums (xs ++ bt u 8) = s2 at *
  generalize strOfNums (bt v 4) = t1 at *
  generalize strOfNums (bt u 8) = t2 at *
  generalize strOfNums xs = s0 at *
  clear xs
  have hwv : IntKind.u64.wrap (v : Int) = v := by rw [IntKind.wrap_u64]; omega
  have SK : ∀ W, Below w3.heap.size w3 W → (Below w3.heap.size w3 W ∧ (convert 22 9 (.slice A2 (l + 4) c2)).run Try.prog W = .ok (.string s1) W ∧ (convert 22 9 (.slice a l c)).run Try.prog W = .ok (.string s0) W ∧ (convert 22 9 (.slice A3 (l + 8) c3)).run Try.prog W = .ok (.string s2) W) := fun W hW => ⟨hW, SX3.out W hW, SB3.out W hW, SY.out W hW⟩
  have SKH := Lib.hid SK
  clear SK
  go_wp2_with fail
  go_region_held (fun W => Below w3.heap.size w3 W ∧ (convert 22 9 (.slice A2 (l + 4) c2)).run Try.prog W = .ok (.string s1) W ∧ (convert 22 9 (.slice a l c)).run Try.prog W = .ok (.string s0) W ∧ (convert 22 9 (.slice A3 (l + 8) c3)).run Try.prog W = .ok (.string s2) W)
    (first | exact SKH.out _ (Below.refl _ _).drew | exact SKH.out _ (by assumption))
    (first
    | (go_at_call_of 10 (Value.int IntKind.i64 4); refine (R4 _).out.mono ?_; rintro e w4 ⟨rfl, f4, g4⟩; have f4 : Below w3.heap.size w3 w4 := ⟨f4.os, f4.tape, f4.output, f4.size, f4.block⟩; have Z4 : Hid (Str w4 (.slice (some ⟨w3.heap.size, 0, none⟩) 4 4) t1) := Lib.hid g4; clear g4; have z41 := Z4.out.now)
    | (go_at_call_of 10 (Value.int IntKind.i64 8); refine (R8 _).out.mono ?_; rintro e w5 ⟨rfl, f5, g5⟩; have f5 : Below w3.heap.size w3 w5 := bw_trans (by assumption) f5; have Z5 : Hid (Str w5 _ t2) := Lib.hid g5; clear g5; have z51 := Z5.out.now))
  all_goals
    go_wp2_with fail
    go_ret
    exact ⟨rfl, bw_trans BW3.out (by assumption)⟩
theorem puts_any (a : Option Addr) (l c : Nat) (z : List Int) (V U : Int) (w : World) (hz : IsRow .u8 w a l c z) (wv : (Lit.int .u32 V).wf = true) (wu : (Lit.int .u64 U).wf = true) :
    Calls Try.prog 3 #[.slice a l c, .int .u32 V, .int .u64 U] w fun e w' => e = .returned (.bool true) ∧ Below w.heap.size w w' := by
  have hv := bounds_u32 wv
  have hu := bounds_u64 wu
  have hbd := hz.bound
  unfold maxLen at hbd
  by_cases hl : 10000 < l
  · have hl' : decide (10000 < (l : Int)) = true := decide_eq_true (by omega)
    go_enter Try.func3, Try.ntmps3
    go_wp2_with (go_at_call 7; refine (awake_any _).mono ?_; rintro e w1 ⟨rfl, hb1⟩)
    go_ret
    exact ⟨rfl, bw_trans (by assumption) hb1⟩
  · obtain ⟨v, rfl⟩ := Int.eq_ofNat_of_zero_le hv.1
    obtain ⟨u, rfl⟩ := Int.eq_ofNat_of_zero_le hu.1
    rcases hz.split with ⟨rfl, rfl, rfl⟩ | ⟨ad, rfl, hlc, hcm, hr, hby, hxl⟩
    · exact put_law none 0 0 [] v u (by omega) (by omega) w (by omega) rfl (fun W _ => clone_none W)
        (fun W _ => run_convert_bytes_nil W 22 5 Try.underlying22 Try.underlying5 0 0 9 Try.underlying9)
    · exact put_law _ l c (z.take l) v u (by omega) (by omega) w (by omega) hxl
        (fun W hW => clone_row l c (hr.stays hW) hxl (by omega))
        (fun W hW => row_str (hr.stays hW) l c hxl)
end Go.Proofs.Ytamjlknfgppofaa
