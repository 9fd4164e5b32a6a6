/- The walk of a law ..Nil: a nil device has nothing and does nothing, whatever is asked of it. No conditions beyond the arguments' kinds. -/
import Derived.Test.YtdljlhjjonkfeaaDoorBase
namespace Go.Proofs.YtdljlhjjonkfeaaDoor
open Go.RowKit Go.Deep Go.ChangeShapes Go.WideShapes Go.Joins
theorem open_op35 {H : Type} {enc : TypeId × Value → H} {w : World} {base b0 : Nat} {spare : Nat → Bool} {held : Bool} {r : Reach} {v : Value} {d : DataW H} {p : List MemPlace}
    (hv : Value.okWide Tryd.prog w r b0 35 v) (h : DataW.Trod enc Tryd.prog w base spare held 35 v d p) :
    ∃ k o wd x n y, v = .agg #[.int .u8 k, .int .u64 o, .int .i64 wd, .int .u64 x, .int .i64 n, .bool y] ∧ OpIs [.int .u8 k, .int .u64 o, .int .i64 wd, .int .u64 x, .int .i64 n, .bool y] k o wd x n y := by
  obtain ⟨cs, rfl, hsz⟩ := okWide_struct Tryd.underlying35 hv
  obtain ⟨fuel, hf⟩ := h
  obtain ⟨k, o, wd, x, n, y, hop⟩ := op_cells (u8 := 5) (u64 := 33) (i64 := 3) (bo := 4) Tryd.underlying35 (by kernel_rfl) (by kernel_rfl) rfl rfl rfl rfl rfl rfl Tryd.underlying5 Tryd.underlying33 Tryd.underlying3 Tryd.underlying4 hf
  obtain ⟨l⟩ := cs
  have e := hop.form
  simp [Value.cells] at e
  subst e
  exact ⟨k, o, wd, x, n, y, rfl, hop⟩
theorem nil_7 (o wd : Int) (w : World) :
    Calls Tryd.prog 7 #[.pointer none, .int .u64 o, .int .i64 wd] w fun e w' => e = .returned (.tuple #[.int .u64 0, .int .i64 1]) ∧ w = w' := by
  go_enter Tryd.func7, Tryd.ntmps7
  go_wp2
  go_ret2
  exact ⟨rfl, rfl⟩
theorem nil_10 (o wd v : Int) (w : World) :
    Calls Tryd.prog 10 #[.pointer none, .int .u64 o, .int .i64 wd, .int .u64 v] w fun e w' => e = .returned (.int .i64 1) ∧ w = w' := by
  go_enter Tryd.func10, Tryd.ntmps10
  go_wp2
  go_ret
  exact ⟨rfl, rfl⟩
theorem nil_12 (n : Int) (y : Bool) (w : World) :
    Calls Tryd.prog 12 #[.pointer none, .int .i64 n, .bool y] w fun e w' => e = .returned (.int .i64 1) ∧ w = w' := by
  go_enter Tryd.func12, Tryd.ntmps12
  go_wp2
  go_ret
  exact ⟨rfl, rfl⟩
theorem nil_13 (w : World) :
    Calls Tryd.prog 13 #[.pointer none] w fun e w' => e = .returned (.bool false) ∧ w = w' := by
  go_enter Tryd.func13, Tryd.ntmps13
  go_wp2
  go_ret
  exact ⟨rfl, rfl⟩
theorem nil_awake (w : World) : Calls Tryd.prog 6 #[] w fun e w' => e = .returned (.bool true) ∧ Below w.heap.size w w' := by
  go_enter Tryd.func6, Tryd.ntmps6
  go_wp2
  go_ret
  exact ⟨rfl, by repeat (first | exact Below.refl _ _ | apply Below.drew | apply bw_alloc)⟩
set_option maxHeartbeats 800000 in
theorem nil_any (k o wd x n : Int) (y : Bool) (_hop : OpIs [.int .u8 k, .int .u64 o, .int .i64 wd, .int .u64 x, .int .i64 n, .bool y] k o wd x n y) (w : World) :
    Calls Tryd.prog 5 #[.agg #[.int .u8 k, .int .u64 o, .int .i64 wd, .int .u64 x, .int .i64 n, .bool y]] w fun e w' => e = .returned (.bool true) ∧ Below w.heap.size w w' := by
  clear _hop
  go_enter Tryd.func5, Tryd.ntmps5
  go_wp2_with fail
  refine (nil_awake _).mono ?_
  rintro e w1 ⟨rfl, hb1⟩
  have kb : Bk (w.alloc (.cells #[.int .u8 k, .int .u64 o, .int .i64 wd, .int .u64 x, .int .i64 n, .bool y] 35)) w.heap.size 35 #[.int .u8 k, .int .u64 o, .int .i64 wd, .int .u64 x, .int .i64 n, .bool y] := Bk.new _ _ _
  have k1 := kb.below hb1
  have c1 := k1.cell 1
  have c2 := k1.cell 2
  have c3 := k1.cell 3
  have c4 := k1.cell 4
  have c5 := k1.cell 5
  simp at c1 c2 c3 c4 c5
  have HB := Lib.hid (bw_trans (bw_alloc (Below.refl w.heap.size w) _) hb1)
  clear kb k1 hb1
  go_wp2_with fail
  refine (nil_7 _ _ _).mono ?_
  rintro e w2 ⟨rfl, rfl⟩
  go_wp2_with fail
  refine (nil_10 _ _ _ _).mono ?_
  rintro e w2 ⟨rfl, rfl⟩
  go_wp2_with fail
  refine (nil_12 _ _ _).mono ?_
  rintro e w2 ⟨rfl, rfl⟩
  go_wp2_with fail
  refine (nil_13 _).mono ?_
  rintro e w2 ⟨rfl, rfl⟩
  go_wp2_with fail
  go_ret
  exact ⟨rfl, HB.out⟩
end Go.Proofs.YtdljlhjjonkfeaaDoor

