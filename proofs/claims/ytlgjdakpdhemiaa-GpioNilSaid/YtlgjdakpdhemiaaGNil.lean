/- The walk of a law ..Nil: a nil device has nothing and does nothing, whatever is asked of it. No conditions beyond the arguments' kinds. -/
import Derived.Test.YtlgjdakpdhemiaaBase
namespace Go.Proofs.Ytlgjdakpdhemiaa
open Go.RowKit Go.Deep Go.ChangeShapes Go.WideShapes Go.Joins
theorem open_op42 {H : Type} {enc : TypeId × Value → H} {w : World} {base b0 : Nat} {spare : Nat → Bool} {held : Bool} {r : Reach} {v : Value} {d : DataW H} {p : List MemPlace}
    (hv : Value.okWide Try.prog w r b0 42 v) (h : DataW.Trod enc Try.prog w base spare held 42 v d p) :
    ∃ k o wd x n y, v = .agg #[.int .u8 k, .int .u64 o, .int .i64 wd, .int .u64 x, .int .i64 n, .bool y] ∧ OpIs [.int .u8 k, .int .u64 o, .int .i64 wd, .int .u64 x, .int .i64 n, .bool y] k o wd x n y := by
  obtain ⟨cs, rfl, hsz⟩ := okWide_struct Try.underlying42 hv
  obtain ⟨fuel, hf⟩ := h
  obtain ⟨k, o, wd, x, n, y, hop⟩ := op_cells (u8 := 5) (u64 := 30) (i64 := 3) (bo := 4) Try.underlying42 (by kernel_rfl) (by kernel_rfl) rfl rfl rfl rfl rfl rfl Try.underlying5 Try.underlying30 Try.underlying3 Try.underlying4 hf
  obtain ⟨l⟩ := cs
  have e := hop.form
  simp [Value.cells] at e
  subst e
  exact ⟨k, o, wd, x, n, y, rfl, hop⟩
theorem nil_11 (o wd : Int) (w : World) :
    Calls Try.prog 11 #[.pointer none, .int .u64 o, .int .i64 wd] w fun e w' => e = .returned (.tuple #[.int .u64 0, .int .i64 1]) ∧ w = w' := by
  go_enter Try.func11, Try.ntmps11
  go_wp2
  go_ret2
  exact ⟨rfl, rfl⟩
theorem nil_9 (o wd v : Int) (w : World) :
    Calls Try.prog 9 #[.pointer none, .int .u64 o, .int .i64 wd, .int .u64 v] w fun e w' => e = .returned (.int .i64 1) ∧ w = w' := by
  go_enter Try.func9, Try.ntmps9
  go_wp2
  go_ret
  exact ⟨rfl, rfl⟩
theorem nil_10 (n : Int) (y : Bool) (w : World) :
    Calls Try.prog 10 #[.pointer none, .int .i64 n, .bool y] w fun e w' => e = .returned (.int .i64 1) ∧ w = w' := by
  go_enter Try.func10, Try.ntmps10
  go_wp2
  go_ret
  exact ⟨rfl, rfl⟩
theorem nil_16 (w : World) :
    Calls Try.prog 16 #[.pointer none] w fun e w' => e = .returned (.int .u32 0) ∧ w = w' := by
  go_enter Try.func16, Try.ntmps16
  go_wp2
  go_ret
  exact ⟨rfl, rfl⟩
theorem nil_17 (w : World) :
    Calls Try.prog 17 #[.pointer none] w fun e w' => e = .returned (.bool false) ∧ Below w.heap.size w w' := by
  go_enter Try.func17, Try.ntmps17
  go_wp2
  go_quiet (fail)
  go_wp2
  go_ret
  exact ⟨rfl, by repeat (first | exact Below.refl _ _ | apply Below.drew | apply bw_drewN)⟩
theorem nil_awake (w : World) : Calls Try.prog 8 #[] w fun e w' => e = .returned (.bool true) ∧ Below w.heap.size w w' := by
  go_enter Try.func8, Try.ntmps8
  go_wp2
  go_ret
  exact ⟨rfl, by repeat (first | exact Below.refl _ _ | apply Below.drew | apply bw_alloc)⟩
set_option maxHeartbeats 800000 in
theorem nil_any (k o wd x n : Int) (y : Bool) (_hop : OpIs [.int .u8 k, .int .u64 o, .int .i64 wd, .int .u64 x, .int .i64 n, .bool y] k o wd x n y) (w : World) :
    Calls Try.prog 5 #[.agg #[.int .u8 k, .int .u64 o, .int .i64 wd, .int .u64 x, .int .i64 n, .bool y]] w fun e w' => e = .returned (.bool true) ∧ Below w.heap.size w w' := by
  clear _hop
  go_enter Try.func5, Try.ntmps5
  go_wp2_with fail
  refine (nil_awake _).mono ?_
  rintro e w1 ⟨rfl, hb1⟩
  have kb : Bk (w.alloc (.cells #[.int .u8 k, .int .u64 o, .int .i64 wd, .int .u64 x, .int .i64 n, .bool y] 42)) w.heap.size 42 #[.int .u8 k, .int .u64 o, .int .i64 wd, .int .u64 x, .int .i64 n, .bool y] := Bk.new _ _ _
  have k1 := kb.below hb1
  have c1 := k1.cell 1
  have c2 := k1.cell 2
  have c3 := k1.cell 3
  have c4 := k1.cell 4
  have c5 := k1.cell 5
  simp at c1 c2 c3 c4 c5
  have HB := Lib.hid (bw_trans (bw_alloc (Below.refl w.heap.size w) _) hb1)
  clear kb k1 hb1
  go_wp2_with fail
  refine (nil_11 _ _ _).mono ?_
  rintro e w2 ⟨rfl, rfl⟩
  go_wp2_with fail
  refine (nil_9 _ _ _ _).mono ?_
  rintro e w2 ⟨rfl, rfl⟩
  go_wp2_with fail
  refine (nil_10 _ _ _).mono ?_
  rintro e w2 ⟨rfl, rfl⟩
  go_wp2_with fail
  refine (nil_16 _).mono ?_
  rintro e w2 ⟨rfl, rfl⟩
  go_wp2_with fail
  refine (nil_17 _).mono ?_
  rintro e w2 ⟨rfl, hb2⟩
  have HB2 := Lib.hid (bw_trans HB.out hb2)
  clear hb2 HB c1 c2 c3 c4 c5
  have HB := HB2
  go_wp2_with fail
  go_ret
  exact ⟨rfl, HB.out⟩
end Go.Proofs.Ytlgjdakpdhemiaa

