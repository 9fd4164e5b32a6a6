/- The walk of a law ..Nil: a nil device has nothing and does nothing, whatever is asked of it. No conditions beyond the arguments' kinds. -/
import Derived.Test.YtlgjdakpdhemiaaUaw
namespace Go.Proofs.Ytlgjdakpdhemiaa
open Go.RowKit Go.Deep Go.ChangeShapes Go.WideShapes Go.Joins
theorem open_op50 {H : Type} {enc : TypeId × Value → H} {w : World} {base b0 : Nat} {spare : Nat → Bool} {held : Bool} {r : Reach} {v : Value} {d : DataW H} {p : List MemPlace}
    (hv : Value.okWide Try.prog w r b0 50 v) (h : DataW.Trod enc Try.prog w base spare held 50 v d p) :
    ∃ k o wd x n y, v = .agg #[.int .u8 k, .int .u64 o, .int .i64 wd, .int .u64 x, .int .i64 n, .bool y] ∧ OpIs [.int .u8 k, .int .u64 o, .int .i64 wd, .int .u64 x, .int .i64 n, .bool y] k o wd x n y := by
  obtain ⟨cs, rfl, hsz⟩ := okWide_struct Try.underlying50 hv
  obtain ⟨fuel, hf⟩ := h
  obtain ⟨k, o, wd, x, n, y, hop⟩ := op_cells (u8 := 5) (u64 := 30) (i64 := 3) (bo := 4) Try.underlying50 (by kernel_rfl) (by kernel_rfl) rfl rfl rfl rfl rfl rfl Try.underlying5 Try.underlying30 Try.underlying3 Try.underlying4 hf
  obtain ⟨l⟩ := cs
  have e := hop.form
  simp [Value.cells] at e
  subst e
  exact ⟨k, o, wd, x, n, y, rfl, hop⟩
theorem nil_14 (o wd : Int) (w : World) :
    Calls Try.prog 14 #[.pointer none, .int .u64 o, .int .i64 wd] w fun e w' => e = .returned (.tuple #[.int .u64 0, .int .i64 1]) ∧ w = w' := by
  go_enter Try.func14, Try.ntmps14
  go_wp2
  go_ret2
  exact ⟨rfl, rfl⟩
theorem nil_15 (o wd v : Int) (w : World) :
    Calls Try.prog 15 #[.pointer none, .int .u64 o, .int .i64 wd, .int .u64 v] w fun e w' => e = .returned (.int .i64 1) ∧ w = w' := by
  go_enter Try.func15, Try.ntmps15
  go_wp2
  go_ret
  exact ⟨rfl, rfl⟩
theorem nil_13 (n : Int) (w : World) :
    Calls Try.prog 13 #[.pointer none, .int .u8 n] w fun e w' => e = .returned (.int .i64 1) ∧ w = w' := by
  go_enter Try.func13, Try.ntmps13
  go_wp2
  go_ret
  exact ⟨rfl, rfl⟩
theorem nil_24 (w : World) :
    Calls Try.prog 24 #[.pointer none] w fun e w' => e = .returned (.slice none 0 0) ∧ w = w' := by
  go_enter Try.func24, Try.ntmps24
  go_wp2
  go_ret
  exact ⟨rfl, rfl⟩
theorem nil_22 (w : World) :
    Calls Try.prog 22 #[.pointer none] w fun e w' => e = .returned (.bool false) ∧ w = w' := by
  go_enter Try.func22, Try.ntmps22
  go_wp2
  go_ret
  exact ⟨rfl, rfl⟩
set_option maxHeartbeats 800000 in
theorem nil_any (k o wd x n : Int) (y : Bool) (_hop : OpIs [.int .u8 k, .int .u64 o, .int .i64 wd, .int .u64 x, .int .i64 n, .bool y] k o wd x n y) (w : World) :
    Calls Try.prog 7 #[.agg #[.int .u8 k, .int .u64 o, .int .i64 wd, .int .u64 x, .int .i64 n, .bool y]] w fun e w' => e = .returned (.bool true) ∧ Below w.heap.size w w' := by
  clear _hop
  go_enter Try.func7, Try.ntmps7
  go_wp2_with fail
  refine (ua_awake _).mono ?_
  rintro e w1 ⟨rfl, hb1⟩
  have kb : Bk (w.alloc (.cells #[.int .u8 k, .int .u64 o, .int .i64 wd, .int .u64 x, .int .i64 n, .bool y] 50)) w.heap.size 50 #[.int .u8 k, .int .u64 o, .int .i64 wd, .int .u64 x, .int .i64 n, .bool y] := Bk.new _ _ _
  have k1 := kb.below hb1
  have c1 := k1.cell 1
  have c2 := k1.cell 2
  have c3 := k1.cell 3
  have c4 := k1.cell 4
  have c5 := k1.cell 5
  simp at c1 c2 c3 c4 c5
  have HB := Lib.hid (bw_trans (bw_alloc (Below.refl w.heap.size w) _) hb1)
  clear kb k1 hb1
  go_wp2_with fail
  refine (nil_14 _ _ _).mono ?_
  rintro e w2 ⟨rfl, rfl⟩
  go_wp2_with fail
  refine (nil_15 _ _ _ _).mono ?_
  rintro e w2 ⟨rfl, rfl⟩
  go_wp2_with fail
  refine (nil_13 _ _).mono ?_
  rintro e w2 ⟨rfl, rfl⟩
  go_wp2_with fail
  refine (nil_24 _).mono ?_
  rintro e w2 ⟨rfl, rfl⟩
  go_wp2_with fail
  refine (nil_22 _).mono ?_
  rintro e w2 ⟨rfl, rfl⟩
  go_wp2_with fail
  go_ret
  exact ⟨rfl, HB.out⟩
end Go.Proofs.Ytlgjdakpdhemiaa

