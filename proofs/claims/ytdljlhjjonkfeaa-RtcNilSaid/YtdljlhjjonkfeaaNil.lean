/- The walks of the laws ClockNil and RtcNil: a nil clock, and a nil RTC, has nothing and does nothing, whatever is asked of it. No conditions beyond the arguments' kinds. -/
import Derived.Test.YtdljlhjjonkfeaaBase
namespace Go.Proofs.Ytdljlhjjonkfeaa
open Go.RowKit Go.Deep Go.ChangeShapes Go.WideShapes Go.Joins
theorem open_op35 {H : Type} {enc : TypeId × Value → H} {w : World} {base b0 : Nat} {spare : Nat → Bool} {held : Bool} {r : Reach} {v : Value} {d : DataW H} {p : List MemPlace}
    (hv : Value.okWide Try.prog w r b0 35 v) (h : DataW.Trod enc Try.prog w base spare held 35 v d p) :
    ∃ k o wd x n y, v = .agg #[.int .u8 k, .int .u64 o, .int .i64 wd, .int .u64 x, .int .i64 n, .bool y] ∧ OpIs [.int .u8 k, .int .u64 o, .int .i64 wd, .int .u64 x, .int .i64 n, .bool y] k o wd x n y := by
  obtain ⟨cs, rfl, hsz⟩ := okWide_struct Try.underlying35 hv
  obtain ⟨fuel, hf⟩ := h
  obtain ⟨k, o, wd, x, n, y, hop⟩ := op_cells (u8 := 5) (u64 := 30) (i64 := 3) (bo := 4) Try.underlying35 (by kernel_rfl) (by kernel_rfl) rfl rfl rfl rfl rfl rfl Try.underlying5 Try.underlying30 Try.underlying3 Try.underlying4 hf
  obtain ⟨l⟩ := cs
  have e := hop.form
  simp [Value.cells] at e
  subst e
  exact ⟨k, o, wd, x, n, y, rfl, hop⟩
theorem open_op46 {H : Type} {enc : TypeId × Value → H} {w : World} {base b0 : Nat} {spare : Nat → Bool} {held : Bool} {r : Reach} {v : Value} {d : DataW H} {p : List MemPlace}
    (hv : Value.okWide Try.prog w r b0 46 v) (h : DataW.Trod enc Try.prog w base spare held 46 v d p) :
    ∃ k o wd x n y, v = .agg #[.int .u8 k, .int .u64 o, .int .i64 wd, .int .u64 x, .int .i64 n, .bool y] ∧ OpIs [.int .u8 k, .int .u64 o, .int .i64 wd, .int .u64 x, .int .i64 n, .bool y] k o wd x n y := by
  obtain ⟨cs, rfl, hsz⟩ := okWide_struct Try.underlying46 hv
  obtain ⟨fuel, hf⟩ := h
  obtain ⟨k, o, wd, x, n, y, hop⟩ := op_cells (u8 := 5) (u64 := 30) (i64 := 3) (bo := 4) Try.underlying46 (by kernel_rfl) (by kernel_rfl) rfl rfl rfl rfl rfl rfl Try.underlying5 Try.underlying30 Try.underlying3 Try.underlying4 hf
  obtain ⟨l⟩ := cs
  have e := hop.form
  simp [Value.cells] at e
  subst e
  exact ⟨k, o, wd, x, n, y, rfl, hop⟩

theorem clock_load_nil (o wd : Int) (w : World) :
    Calls Try.prog 11 #[.pointer none, .int .u64 o, .int .i64 wd] w fun e w' => e = .returned (.tuple #[.int .u64 0, .int .i64 1]) ∧ w = w' := by
  go_enter Try.func11, Try.ntmps11
  go_wp2
  go_ret2
  exact ⟨rfl, rfl⟩
theorem clock_store_nil (o wd v : Int) (w : World) :
    Calls Try.prog 9 #[.pointer none, .int .u64 o, .int .i64 wd, .int .u64 v] w fun e w' => e = .returned (.int .i64 1) ∧ w = w' := by
  go_enter Try.func9, Try.ntmps9
  go_wp2
  go_ret
  exact ⟨rfl, rfl⟩
theorem clock_tick_nil (w : World) :
    Calls Try.prog 10 #[.pointer none] w fun e w' => e = .returned (.tuple #[]) ∧ w = w' := by
  go_enter Try.func10, Try.ntmps10
  go_wp2
  refine bodyPost_ret (results_none rfl _ _ _) rfl ?_
  exact ⟨rfl, rfl⟩
theorem clock_high_nil (w : World) :
    Calls Try.prog 12 #[.pointer none] w fun e w' => e = .returned (.bool false) ∧ w = w' := by
  go_enter Try.func12, Try.ntmps12
  go_wp2
  go_ret
  exact ⟨rfl, rfl⟩
theorem clock_awake (w : World) : Calls Try.prog 8 #[] w fun e w' => e = .returned (.bool true) ∧ Below w.heap.size w w' := by
  go_enter Try.func8, Try.ntmps8
  go_wp2
  go_ret
  exact ⟨rfl, by repeat (first | exact Below.refl _ _ | apply Below.drew | apply bw_alloc)⟩
set_option maxHeartbeats 800000 in
theorem clock_nil_any (k o wd x n : Int) (y : Bool) (_hop : OpIs [.int .u8 k, .int .u64 o, .int .i64 wd, .int .u64 x, .int .i64 n, .bool y] k o wd x n y) (w : World) :
    Calls Try.prog 4 #[.agg #[.int .u8 k, .int .u64 o, .int .i64 wd, .int .u64 x, .int .i64 n, .bool y]] w fun e w' => e = .returned (.bool true) ∧ Below w.heap.size w w' := by
  clear _hop
  go_enter Try.func4, Try.ntmps4
  go_wp2_with (go_at_call 8; refine (clock_awake _).mono ?_; rintro e w1 ⟨rfl, hb1⟩)
  have kb : Bk (w.alloc (.cells #[.int .u8 k, .int .u64 o, .int .i64 wd, .int .u64 x, .int .i64 n, .bool y] 35)) w.heap.size 35 #[.int .u8 k, .int .u64 o, .int .i64 wd, .int .u64 x, .int .i64 n, .bool y] := Bk.new _ _ _
  have k1 := kb.below hb1
  have c1 := k1.cell 1
  have c2 := k1.cell 2
  have c3 := k1.cell 3
  simp at c1 c2 c3
  have HB := Lib.hid (bw_trans (bw_alloc (Below.refl w.heap.size w) _) hb1)
  clear kb k1 hb1
  refine (clock_tick_nil _).mono ?_
  rintro e w2 ⟨rfl, rfl⟩
  go_wp2_with fail
  refine (clock_load_nil _ _ _).mono ?_
  rintro e w2 ⟨rfl, rfl⟩
  go_wp2_with fail
  refine (clock_store_nil _ _ _ _).mono ?_
  rintro e w2 ⟨rfl, rfl⟩
  go_wp2_with fail
  refine (clock_high_nil _).mono ?_
  rintro e w2 ⟨rfl, rfl⟩
  go_wp2_with fail
  go_ret
  exact ⟨rfl, HB.out⟩

theorem rtc_load_nil (o wd : Int) (w : World) :
    Calls Try.prog 14 #[.pointer none, .int .u64 o, .int .i64 wd] w fun e w' => e = .returned (.tuple #[.int .u64 0, .int .i64 1]) ∧ w = w' := by
  go_enter Try.func14, Try.ntmps14
  go_wp2
  go_ret2
  exact ⟨rfl, rfl⟩
theorem rtc_store_nil (o wd v : Int) (w : World) :
    Calls Try.prog 17 #[.pointer none, .int .u64 o, .int .i64 wd, .int .u64 v] w fun e w' => e = .returned (.int .i64 1) ∧ w = w' := by
  go_enter Try.func17, Try.ntmps17
  go_wp2
  go_ret
  exact ⟨rfl, rfl⟩
theorem rtc_tick_nil (w : World) :
    Calls Try.prog 19 #[.pointer none] w fun e w' => e = .returned (.tuple #[]) ∧ w = w' := by
  go_enter Try.func19, Try.ntmps19
  go_wp2
  refine bodyPost_ret (results_none rfl _ _ _) rfl ?_
  exact ⟨rfl, rfl⟩
theorem rtc_high_nil (w : World) :
    Calls Try.prog 21 #[.pointer none] w fun e w' => e = .returned (.bool false) ∧ w = w' := by
  go_enter Try.func21, Try.ntmps21
  go_wp2
  go_ret
  exact ⟨rfl, rfl⟩
theorem rtc_awake (w : World) : Calls Try.prog 13 #[] w fun e w' => e = .returned (.bool true) ∧ Below w.heap.size w w' := by
  go_enter Try.func13, Try.ntmps13
  go_wp2
  go_ret
  exact ⟨rfl, by repeat (first | exact Below.refl _ _ | apply Below.drew | apply bw_alloc)⟩
set_option maxHeartbeats 800000 in
theorem rtc_nil_any (k o wd x n : Int) (y : Bool) (_hop : OpIs [.int .u8 k, .int .u64 o, .int .i64 wd, .int .u64 x, .int .i64 n, .bool y] k o wd x n y) (w : World) :
    Calls Try.prog 7 #[.agg #[.int .u8 k, .int .u64 o, .int .i64 wd, .int .u64 x, .int .i64 n, .bool y]] w fun e w' => e = .returned (.bool true) ∧ Below w.heap.size w w' := by
  clear _hop
  go_enter Try.func7, Try.ntmps7
  go_wp2_with (go_at_call 13; refine (rtc_awake _).mono ?_; rintro e w1 ⟨rfl, hb1⟩)
  have kb : Bk (w.alloc (.cells #[.int .u8 k, .int .u64 o, .int .i64 wd, .int .u64 x, .int .i64 n, .bool y] 46)) w.heap.size 46 #[.int .u8 k, .int .u64 o, .int .i64 wd, .int .u64 x, .int .i64 n, .bool y] := Bk.new _ _ _
  have k1 := kb.below hb1
  have c1 := k1.cell 1
  have c2 := k1.cell 2
  have c3 := k1.cell 3
  simp at c1 c2 c3
  have HB := Lib.hid (bw_trans (bw_alloc (Below.refl w.heap.size w) _) hb1)
  clear kb k1 hb1
  refine (rtc_tick_nil _).mono ?_
  rintro e w2 ⟨rfl, rfl⟩
  go_wp2_with fail
  refine (rtc_load_nil _ _ _).mono ?_
  rintro e w2 ⟨rfl, rfl⟩
  go_wp2_with fail
  refine (rtc_store_nil _ _ _ _).mono ?_
  rintro e w2 ⟨rfl, rfl⟩
  go_wp2_with fail
  refine (rtc_high_nil _).mono ?_
  rintro e w2 ⟨rfl, rfl⟩
  go_wp2_with fail
  go_ret
  exact ⟨rfl, HB.out⟩
end Go.Proofs.Ytdljlhjjonkfeaa
