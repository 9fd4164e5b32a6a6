/- Contracts of the reference's device of kind 3 (a UART): each method answers, and leaves, what plain functions of its bytes and marks tell. Conditions: its rows are the call's own, and short. -/
import Derived.Test.YtlgjdakpdhemiaaUart
import Derived.Laws.AppendOwnNone
namespace Go.Proofs.Ytlgjdakpdhemiaa
open Go.RowKit
/-- append onto a row of the call's own out of another one, nil or not. -/
theorem wpList_append_src {P : Program} {w : World} {ops : Array Oper} {rest : List Oper} {o : Oper} {a : Act} {Q : Exit → Act → World → Prop} (hgd : o.guard = none) (s x : Operand) (t : TypeId)
    (ho : o.op = .call { callee := .builtin .append, args := #[s, x], argTypes := #[t, t] })
    (base : Nat) (i : TypeInfo) (z : Value) (ht : P.underlying t = some (.slice 5)) (hi : P.info? 5 = some i) (hz : i.zero = some z)
    (hsize : i.size = 1) (hby : i.bytes = 1) (hzs : z.cells.size = 1)
    (v : Value) (n : Nat) (xs : List Value) (hs : a.eval s = v) (hown : w.ownsRow base 5 1 v n xs)
    (A : Option Addr) (m c B : Nat) (ys : List Value) (hx : a.eval x = .slice A m c) (hsrc : w.ownsRow B 5 1 (.slice A m c) m ys) (h1 : ∀ u ∈ ys, u.oneCell' = true)
    (h63 : n + m ≤ 140737488355328) (hbase : base ≤ w.heap.size)
    (h : ∀ v' w', w'.ownsRow base 5 1 v' (n + m) (xs ++ ys) → w.grownBy w' v.ownBlock → (v'.ownBlock = v.ownBlock ∨ v'.ownBlock = some w.heap.size) → wpList P ops Q rest (a.put o.dst v') w') :
    wpList P ops Q (o :: rest) a w := by
  rcases own_source hsrc with ⟨rfl, rfl, rfl, rfl⟩ | ⟨ad, rfl, hc⟩
  · exact wpList_append_own_none hgd s x t ho base 5 i 1 ht hi v n xs hs hown hx (h v w (by simpa using hown) (World.grownBy.refl w _) (.inl rfl))
  · have hl := hsrc.1
    exact wpList_append_own_at w hgd s x t ho base 5 i z 1 1 ht hi hz hsize hby hzs (by decide) v n xs hs hown ad m c ys hx hl hc h1 (by simp only [maxLen]; omega) (by omega) hbase (fun v' w' h2 h3 _ h5 => h v' w' h2 h3 h5)
/-- The device's cells. -/
def dc (vi vo : Value) (lost may : Bool) : Array Value :=
  #[.int .i64 3, .slice none 0 0, vi, vo, .bool lost, .bool may, .int .u32 0, .int .u32 0, .int .u32 0, .int .u32 0, .int .u32 0, .int .u32 0, .int .u32 0, .int .u32 0]
def Da (B g : Nat) (S : Nat → Prop) (w : World) (ins out : List Int) (lost may : Bool) : Prop :=
  ∃ vi vo, Bk w g 49 (dc vi vo lost may) ∧ w.ownsRow B 5 1 vi ins.length (bs ins) ∧ w.ownsRow B 5 1 vo out.length (bs out) ∧ S g ∧ (∀ k, vi.ownBlock = some k → S k) ∧ (∀ k, vo.ownBlock = some k → S k) ∧ (∀ k, S k → B ≤ k ∧ k < w.heap.size)
def DaTo (B g : Nat) (S : Nat → Prop) (w : World) (ins out : List Int) (lost may : Bool) (w' : World) : Prop :=
  ∃ S' : Nat → Prop, Da B g S' w' ins out lost may ∧ Chg S w w' ∧ ∀ k, S' k → S k ∨ w.heap.size ≤ k
theorem Da.stay {B g : Nat} {S : Nat → Prop} {w : World} {ins out : List Int} {lost may : Bool} (h : Da B g S w ins out lost may) (n : Nat) : DaTo B g S w ins out lost may (w.drewN n) := ⟨S, h, (Chg.refl _ _).drewN n, fun _ hk => .inl hk⟩
theorem Da.still {B g : Nat} {S : Nat → Prop} {w : World} {ins out : List Int} {lost may : Bool} (h : Da B g S w ins out lost may) : DaTo B g S w ins out lost may w := ⟨S, h, Chg.refl _ _, fun _ hk => .inl hk⟩
theorem da_set4 {B g : Nat} {S : Nat → Prop} {w : World} {ins out : List Int} {lost may : Bool} (h : Da B g S w ins out lost may) (b : Bool) : DaTo B g S w ins out b may (w.setCell ⟨g, 4, none⟩ (.bool b)) := by
  obtain ⟨vi, vo, hb, oi, oo, sg, si, so, hS⟩ := h
  refine ⟨S, ⟨vi, vo, hb.set 4 _, own_set oi (own_type oi hb (by decide : (5 : Nat) ≠ 49)) _, own_set oo (own_type oo hb (by decide : (5 : Nat) ≠ 49)) _, sg, si, so, fun k hk => ?_⟩, (Chg.refl S w).set (.inl sg) _, fun _ hk => .inl hk⟩
  exact ⟨(hS k hk).1, by simpa [World.setCell] using (hS k hk).2⟩
theorem da_set5 {B g : Nat} {S : Nat → Prop} {w : World} {ins out : List Int} {lost may : Bool} (h : Da B g S w ins out lost may) (b : Bool) : DaTo B g S w ins out lost b (w.setCell ⟨g, 5, none⟩ (.bool b)) := by
  obtain ⟨vi, vo, hb, oi, oo, sg, si, so, hS⟩ := h
  refine ⟨S, ⟨vi, vo, hb.set 5 _, own_set oi (own_type oi hb (by decide : (5 : Nat) ≠ 49)) _, own_set oo (own_type oo hb (by decide : (5 : Nat) ≠ 49)) _, sg, si, so, fun k hk => ?_⟩, (Chg.refl S w).set (.inl sg) _, fun _ hk => .inl hk⟩
  exact ⟨(hS k hk).1, by simpa [World.setCell] using (hS k hk).2⟩
/-- A row in new memory takes the place of what came. -/
theorem da_new_in {B g : Nat} {S : Nat → Prop} {w w2 : World} {v : Value} {ins ins' out : List Int} {lost may : Bool} (h : Da B g S w ins out lost may)
    (ow : w2.ownsRow w.heap.size 5 1 v ins'.length (bs ins')) (bw : Below w.heap.size w w2) : DaTo B g S w ins' out lost may (w2.setCell ⟨g, 2, none⟩ v) := by
  obtain ⟨vi, vo, hb, oi, oo, sg, si, so, hS⟩ := h
  have hBs : B ≤ w.heap.size := by have := hS g sg; omega
  have k1 := hb.below bw
  have oo1 := own_below oo bw
  refine ⟨fun k => S k ∨ (w.heap.size ≤ k ∧ k < w2.heap.size), ⟨v, vo, k1.set 2 _, own_set (own_mono ow hBs) (own_type ow k1 (by decide : (5 : Nat) ≠ 49)) _, own_set oo1 (own_type oo1 k1 (by decide : (5 : Nat) ≠ 49)) _, .inl sg, fun k hk => .inr (ow.lt k hk), fun k hk => .inl (so k hk), ?_⟩,
    ((Chg.refl S w).then_below bw).set (.inl sg) _, ?_⟩
  · rintro k (hk | ⟨h1, h2⟩)
    · have := hS k hk
      have h3 := bw.size
      refine ⟨this.1, ?_⟩
      simp [World.setCell]
      omega
    · refine ⟨by omega, ?_⟩
      simpa [World.setCell] using h2
  · rintro k (hk | ⟨h1, _⟩)
    · exact .inl hk
    · exact .inr h1
theorem da_new_out {B g : Nat} {S : Nat → Prop} {w w2 : World} {v : Value} {ins out out' : List Int} {lost may : Bool} (h : Da B g S w ins out lost may)
    (ow : w2.ownsRow w.heap.size 5 1 v out'.length (bs out')) (bw : Below w.heap.size w w2) : DaTo B g S w ins out' lost may (w2.setCell ⟨g, 3, none⟩ v) := by
  obtain ⟨vi, vo, hb, oi, oo, sg, si, so, hS⟩ := h
  have hBs : B ≤ w.heap.size := by have := hS g sg; omega
  have k1 := hb.below bw
  have oi1 := own_below oi bw
  refine ⟨fun k => S k ∨ (w.heap.size ≤ k ∧ k < w2.heap.size), ⟨vi, v, k1.set 3 _, own_set oi1 (own_type oi1 k1 (by decide : (5 : Nat) ≠ 49)) _, own_set (own_mono ow hBs) (own_type ow k1 (by decide : (5 : Nat) ≠ 49)) _, .inl sg, fun k hk => .inl (si k hk), fun k hk => .inr (ow.lt k hk), ?_⟩,
    ((Chg.refl S w).then_below bw).set (.inl sg) _, ?_⟩
  · rintro k (hk | ⟨h1, h2⟩)
    · have := hS k hk
      have h3 := bw.size
      refine ⟨this.1, ?_⟩
      simp [World.setCell]
      omega
    · refine ⟨by omega, ?_⟩
      simpa [World.setCell] using h2
  · rintro k (hk | ⟨h1, _⟩)
    · exact .inl hk
    · exact .inr h1
set_option maxRecDepth 100000 in
set_option maxHeartbeats 800000 in
theorem da_come_full (B g : Nat) (S : Nat → Prop) (w : World) (ins out : List Int) (lost may : Bool) (b : Int) (h : Da B g S w ins out lost may) (hl : 16 ≤ ins.length) :
    Calls Try.prog 21 #[.pointer (some ⟨g, 0, none⟩), .int .u8 b] w fun e w' => e = .returned (.bool false) ∧ DaTo B g S w ins out true may w' := by
  have h' := h
  obtain ⟨vi, vo, hb, oi, _⟩ := h
  obtain ⟨A, c, rfl⟩ := own_shape oi
  have c2 := hb.cell 2
  have f4 := hb.free 4
  have c4 := hb.cell 4
  simp [dc] at c2 c4
  have H' := Lib.hid h'
  have hl16 : decide (16 ≤ (ins.length : Int)) = true := decide_eq_true (by omega)
  clear hb oi h'
  go_enter Try.func21, Try.ntmps21
  go_wp2
  go_ret
  exact ⟨rfl, da_set4 H'.out _⟩
set_option maxRecDepth 100000 in
set_option maxHeartbeats 800000 in
theorem da_come_room (B g : Nat) (S : Nat → Prop) (w : World) (ins out : List Int) (lost may : Bool) (b : Int) (h : Da B g S w ins out lost may) (hl : ins.length < 16) :
    Calls Try.prog 21 #[.pointer (some ⟨g, 0, none⟩), .int .u8 b] w fun e w' => e = .returned (.bool true) ∧ DaTo B g S w (ins ++ [b]) out lost may w' := by
  have h' := h
  obtain ⟨vi, vo, hb, oi, oo, sg, si, so, hS⟩ := h
  obtain ⟨i0, hi, hz0, hz1, hz2⟩ := info_parts info5
  obtain ⟨A, c, rfl⟩ := own_shape oi
  have c2 := hb.cell 2
  simp [dc] at c2
  have c2a := cell_stays (bw_alloc (Below.refl w.heap.size w) (.cells #[] 5)) c2
  have H' := Lib.hid h'
  have HB := Lib.hid hb
  have hl16 : decide (16 ≤ (ins.length : Int)) = false := decide_eq_false (by omega)
  have oi1 := Lib.hid (own_below oi (bw_alloc (Below.refl w.heap.size w) (.cells #[] 5)))
  have onew := Lib.hid (World.ownsRow_made (w := w) (base := w.heap.size) (e := 5) (size := 1) #[] 0 (Nat.le_refl _) (by simp [maxLen]) rfl)
  clear hb oi oo si so hS h'
  go_enter Try.func21, Try.ntmps21
  go_wp2_with (at_builtin; refine wpList_append_src rfl (.tmp 15) (.tmp 19) 23 rfl w.heap.size i0 (.int .u8 0) Try.underlying23 hi hz0 hz1 hz2 rfl _ 0 [] rfl onew.out A ins.length c B (bs ins) rfl oi1.out (bs_one ins) ?c3 ?c5 ?_)
  case c3 => omega
  case c5 => simp
  intro v1 w1 own1 g1 at1
  obtain ⟨A1, c1, rfl⟩ := own_shape own1
  have b1 := (bw_alloc (Below.refl w.heap.size w) (.cells #[] 5)).grown g1 (by simp) (by rintro k ⟨⟩; exact Nat.le_refl _)
  have own1' := own_below own1 (bw_alloc (Below.refl w1.heap.size w1) (.cells #[.int .u8 b] 5))
  have OW := Lib.hid own1'
  have BW := Lib.hid b1
  clear own1 own1' g1 at1 b1
  go_wp2_with (at_builtin; refine wpList_append_own_at _ rfl (.tmp 20) (.tmp 22) 23 rfl w.heap.size 5 i0 (.int .u8 0) 1 1 Try.underlying23 hi hz0 hz1 hz2 rfl (by decide) (.slice A1 ins.length c1) _ _ rfl OW.out ⟨w1.heap.size, 0, none⟩ 1 1 [.int .u8 b] rfl rfl (cell_one_new _ _ _) ?d2 ?d3 ?d4 ?d5 ?_)
  case d2 => intro u hu; simp at hu; subst hu; rfl
  case d3 => simp only [maxLen]; omega
  case d4 => omega
  case d5 => have := BW.out.size; simp; omega
  intro v2 w2 own2 g2 _ _
  obtain ⟨A2, c2', rfl⟩ := own_shape own2
  have b2 := (bw_alloc BW.out (.cells #[.int .u8 b] 5)).grown g2 (by have := BW.out.size; simp; omega) (fun k hk => (OW.out.lt k hk).1)
  have k2 := HB.out.below b2
  have d0 := k2.cell 2
  have e0 := k2.free 2
  simp [dc] at d0
  rw [bs_snoc] at own2
  have OX : Hid (w2.ownsRow w.heap.size 5 1 (.slice A2 (ins.length + 1) c2') (ins ++ [b]).length (bs (ins ++ [b]))) := Lib.hid (by simpa using own2)
  have BX := Lib.hid b2
  clear own2 g2 b2 k2
  go_wp2
  go_ret
  exact ⟨rfl, da_new_in H'.out OX.out BX.out⟩

set_option maxRecDepth 100000 in
set_option maxHeartbeats 800000 in
theorem da_store0 (B g : Nat) (S : Nat → Prop) (w : World) (ins out : List Int) (lost may : Bool) (x : Int) (h : Da B g S w ins out lost may) (hl : out.length < 100000) (hx : 0 ≤ x) :
    Calls Try.prog 20 #[.pointer (some ⟨g, 0, none⟩), .int .u64 0, .int .u32 x] w fun e w' => e = .returned (.tuple #[]) ∧ DaTo B g S w ins (out ++ [x % 256]) lost may w' := by
  have h' := h
  obtain ⟨vi, vo, hb, oi, oo, sg, si, so, hS⟩ := h
  obtain ⟨i0, hi, hz0, hz1, hz2⟩ := info_parts info5
  obtain ⟨A, c, rfl⟩ := own_shape oo
  have c0 := hb.cell 0
  have c3 := hb.cell 3
  simp [dc] at c0 c3
  have c3a := cell_stays (bw_alloc (Below.refl w.heap.size w) (.cells #[] 5)) c3
  have H' := Lib.hid h'
  have HB := Lib.hid hb
  have oo1 := Lib.hid (own_below oo (bw_alloc (Below.refl w.heap.size w) (.cells #[] 5)))
  have onew := Lib.hid (World.ownsRow_made (w := w) (base := w.heap.size) (e := 5) (size := 1) #[] 0 (Nat.le_refl _) (by simp [maxLen]) rfl)
  clear hb oi oo si so hS h'
  go_enter Try.func20, Try.ntmps20
  go_wp2_with (at_builtin; refine wpList_append_src rfl (.tmp 17) (.tmp 21) 23 rfl w.heap.size i0 (.int .u8 0) Try.underlying23 hi hz0 hz1 hz2 rfl _ 0 [] rfl onew.out A out.length c B (bs out) rfl oo1.out (bs_one out) ?c3 ?c5 ?_)
  case c3 => omega
  case c5 => simp
  intro v1 w1 own1 g1 at1
  obtain ⟨A1, c1, rfl⟩ := own_shape own1
  have b1 := (bw_alloc (Below.refl w.heap.size w) (.cells #[] 5)).grown g1 (by simp) (by rintro k ⟨⟩; exact Nat.le_refl _)
  have own1' := own_below own1 (bw_alloc (Below.refl w1.heap.size w1) (.cells #[.int .u8 (x % 256)] 5))
  have OW := Lib.hid own1'
  have BW := Lib.hid b1
  clear own1 own1' g1 at1 b1
  go_wp2_with (at_builtin; refine wpList_append_own_at _ rfl (.tmp 22) (.tmp 26) 23 rfl w.heap.size 5 i0 (.int .u8 0) 1 1 Try.underlying23 hi hz0 hz1 hz2 rfl (by decide) (.slice A1 out.length c1) _ _ rfl OW.out ⟨w1.heap.size, 0, none⟩ 1 1 [.int .u8 (x % 256)] rfl rfl (cell_one_new _ _ _) ?d2 ?d3 ?d4 ?d5 ?_)
  case d2 => intro u hu; simp at hu; subst hu; rfl
  case d3 => simp only [maxLen]; omega
  case d4 => omega
  case d5 => have := BW.out.size; simp; omega
  intro v2 w2 own2 g2 _ _
  obtain ⟨A2, c2', rfl⟩ := own_shape own2
  have b2 := (bw_alloc BW.out (.cells #[.int .u8 (x % 256)] 5)).grown g2 (by have := BW.out.size; simp; omega) (fun k hk => (OW.out.lt k hk).1)
  have k2 := HB.out.below b2
  have d0 := k2.cell 3
  have e0 := k2.free 3
  simp [dc] at d0
  rw [bs_snoc] at own2
  have OX : Hid (w2.ownsRow w.heap.size 5 1 (.slice A2 (out.length + 1) c2') (out ++ [(x % 256)]).length (bs (out ++ [(x % 256)]))) := Lib.hid (by simpa using own2)
  have BX := Lib.hid b2
  clear own2 g2 b2 k2
  go_wp2
  go_end0
  exact ⟨rfl, da_new_out H'.out OX.out BX.out⟩

set_option maxRecDepth 100000 in
set_option maxHeartbeats 800000 in
theorem da_store4 (B g : Nat) (S : Nat → Prop) (w : World) (ins out : List Int) (lost may : Bool) (x : Int) (h : Da B g S w ins out lost may) :
    Calls Try.prog 20 #[.pointer (some ⟨g, 0, none⟩), .int .u64 4, .int .u32 x] w fun e w' => e = .returned (.tuple #[]) ∧ DaTo B g S w ins out (lost && !(Go.bits .and .u32 x 2 == 2)) may w' := by
  have h' := h
  obtain ⟨vi, vo, hb, _⟩ := h
  have c0 := hb.cell 0
  have c4 := hb.cell 4
  have f4 := hb.free 4
  simp [dc] at c0 c4
  have H' := Lib.hid h'
  clear hb h'
  cases hq : (Go.bits .and .u32 x 2 == 2)
  · go_enter Try.func20, Try.ntmps20
    go_wp2
    go_end0
    exact ⟨rfl, by simpa using H'.out.still⟩
  · go_enter Try.func20, Try.ntmps20
    go_wp2
    go_end0
    exact ⟨rfl, by simpa using da_set4 H'.out false⟩
set_option maxRecDepth 100000 in
set_option maxHeartbeats 800000 in
theorem da_store8 (B g : Nat) (S : Nat → Prop) (w : World) (ins out : List Int) (lost may : Bool) (x : Int) (h : Da B g S w ins out lost may) (hx : 0 ≤ x) :
    Calls Try.prog 20 #[.pointer (some ⟨g, 0, none⟩), .int .u64 8, .int .u32 x] w fun e w' => e = .returned (.tuple #[]) ∧ DaTo B g S w ins out lost (x % 2 == 1) w' := by
  have h' := h
  obtain ⟨vi, vo, hb, _⟩ := h
  have c0 := hb.cell 0
  have c5 := hb.cell 5
  have f5 := hb.free 5
  simp [dc] at c0 c5
  have H' := Lib.hid h'
  clear hb h'
  go_enter Try.func20, Try.ntmps20
  go_wp2
  go_end0
  exact ⟨rfl, da_set5 H'.out _⟩
set_option maxRecDepth 100000 in
set_option maxHeartbeats 800000 in
theorem da_store12 (B g : Nat) (S : Nat → Prop) (w : World) (ins out : List Int) (lost may : Bool) (x : Int) (h : Da B g S w ins out lost may) :
    Calls Try.prog 20 #[.pointer (some ⟨g, 0, none⟩), .int .u64 12, .int .u32 x] w fun e w' => e = .returned (.tuple #[]) ∧ DaTo B g S w ins out lost may w' := by
  have h' := h
  obtain ⟨vi, vo, hb, _⟩ := h
  have c0 := hb.cell 0
  simp [dc] at c0
  have H' := Lib.hid h'
  clear hb h'
  go_enter Try.func20, Try.ntmps20
  go_wp2
  go_end0
  exact ⟨rfl, H'.out.still⟩
set_option maxRecDepth 100000 in
set_option maxHeartbeats 800000 in
theorem da_high (B g : Nat) (S : Nat → Prop) (w : World) (ins out : List Int) (lost may : Bool) (h : Da B g S w ins out lost may) :
    Calls Try.prog 23 #[.pointer (some ⟨g, 0, none⟩)] w fun e w' => e = .returned (.bool (may && decide (0 < ins.length))) ∧ w = w' := by
  obtain ⟨vi, vo, hb, oi, _⟩ := h
  obtain ⟨A, c, rfl⟩ := own_shape oi
  have c0 := hb.cell 0
  have c2 := hb.cell 2
  have c5 := hb.cell 5
  simp [dc] at c0 c2 c5
  clear hb oi
  cases may
  all_goals
    go_enter Try.func23, Try.ntmps23
    go_wp2
    go_ret
    exact ⟨by simp, rfl⟩
theorem sum_bits (a b : Bool) : IntKind.u64.wrap (b2n a + IntKind.u64.wrap (2 * b2n b)) = b2n a + 2 * b2n b := by cases a <;> cases b <;> decide +kernel
theorem one_any (b : Bool) (w : World) : Calls Try.prog 31 #[.bool b] w fun e w' => e = .returned (.int .u64 (b2n b)) ∧ w' = w := by
  cases b
  all_goals
    go_enter Try.func31, Try.ntmps31
    go_wp2
    go_ret
    exact ⟨rfl, rfl⟩
set_option maxRecDepth 100000 in
set_option maxHeartbeats 800000 in
theorem da_load0_none (B g : Nat) (S : Nat → Prop) (w : World) (out : List Int) (lost may : Bool) (h : Da B g S w [] out lost may) :
    Calls Try.prog 19 #[.pointer (some ⟨g, 0, none⟩), .int .u64 0] w fun e w' => e = .returned (.int .u64 0) ∧ DaTo B g S w [] out lost may w' := by
  have h' := h
  obtain ⟨vi, vo, hb, oi, _⟩ := h
  obtain ⟨A, c, rfl⟩ := own_shape oi
  have c0 := hb.cell 0
  have c2 := hb.cell 2
  simp [dc] at c0 c2
  have H' := Lib.hid h'
  clear hb oi h'
  go_enter Try.func19, Try.ntmps19
  go_wp2
  go_ret
  exact ⟨rfl, H'.out.still⟩
set_option maxRecDepth 100000 in
set_option maxHeartbeats 800000 in
theorem da_load4 (B g : Nat) (S : Nat → Prop) (w : World) (ins out : List Int) (lost may : Bool) (h : Da B g S w ins out lost may) :
    Calls Try.prog 19 #[.pointer (some ⟨g, 0, none⟩), .int .u64 4] w fun e w' => e = .returned (.int .u64 (b2n (decide (0 < ins.length)) + 2 * b2n lost)) ∧ DaTo B g S w ins out lost may w' := by
  have h' := h
  obtain ⟨vi, vo, hb, oi, _⟩ := h
  obtain ⟨A, c, rfl⟩ := own_shape oi
  have c0 := hb.cell 0
  have c2 := hb.cell 2
  have c4 := hb.cell 4
  simp [dc] at c0 c2 c4
  have H' := Lib.hid h'
  clear hb oi h'
  go_enter Try.func19, Try.ntmps19
  go_wp2
  go_quiet ((go_at_call 31; exact Calls.quiet_of_same (one_any _ _)))
  go_wp2
  go_ret
  exact ⟨congrArg (fun z => Ending.returned (.int .u64 z)) (sum_bits _ _), H'.out.stay _⟩
set_option maxRecDepth 100000 in
set_option maxHeartbeats 800000 in
theorem da_load8 (B g : Nat) (S : Nat → Prop) (w : World) (ins out : List Int) (lost may : Bool) (h : Da B g S w ins out lost may) :
    Calls Try.prog 19 #[.pointer (some ⟨g, 0, none⟩), .int .u64 8] w fun e w' => e = .returned (.int .u64 (b2n may)) ∧ DaTo B g S w ins out lost may w' := by
  have h' := h
  obtain ⟨vi, vo, hb, _⟩ := h
  have c0 := hb.cell 0
  have c5 := hb.cell 5
  simp [dc] at c0 c5
  have H' := Lib.hid h'
  clear hb h'
  go_enter Try.func19, Try.ntmps19
  go_wp2_with fail
  refine (one_any _ _).mono ?_
  rintro e w1 ⟨rfl, hw⟩
  rw [hw]
  clear hw
  go_wp2_with fail
  go_ret
  exact ⟨rfl, H'.out.still⟩
set_option maxRecDepth 100000 in
set_option maxHeartbeats 800000 in
theorem da_load12 (B g : Nat) (S : Nat → Prop) (w : World) (ins out : List Int) (lost may : Bool) (h : Da B g S w ins out lost may) (hl : ins.length < 1000) :
    Calls Try.prog 19 #[.pointer (some ⟨g, 0, none⟩), .int .u64 12] w fun e w' => e = .returned (.int .u64 ins.length) ∧ DaTo B g S w ins out lost may w' := by
  have h' := h
  obtain ⟨vi, vo, hb, oi, _⟩ := h
  obtain ⟨A, c, rfl⟩ := own_shape oi
  have c0 := hb.cell 0
  have c2 := hb.cell 2
  simp [dc] at c0 c2
  have H' := Lib.hid h'
  clear hb oi h'
  go_enter Try.func19, Try.ntmps19
  go_wp2
  go_ret
  exact ⟨rfl, H'.out.still⟩

set_option maxRecDepth 100000 in
set_option maxHeartbeats 800000 in
theorem da_load0_some (B g : Nat) (S : Nat → Prop) (w : World) (x : Int) (ins out : List Int) (lost may : Bool) (h : Da B g S w (x :: ins) out lost may) (hx : 0 ≤ x ∧ x ≤ 255) (hl : ins.length < 1000) :
    Calls Try.prog 19 #[.pointer (some ⟨g, 0, none⟩), .int .u64 0] w fun e w' => e = .returned (.int .u64 x) ∧ DaTo B g S w ins out lost may w' := by
  have h' := h
  obtain ⟨vi, vo, hb, oi, oo, sg, si, so, hS⟩ := h
  obtain ⟨i0, hi, hz0, hz1, hz2⟩ := info_parts info5
  obtain ⟨gi, cap, rfl, hcap, hgB, hgl, x0, hrest⟩ := own_cons oi rfl
  have c0 := hb.cell 0
  have c2 := hb.cell 2
  simp [dc] at c0 c2
  have c2a := cell_stays (bw_alloc (Below.refl w.heap.size w) (.cells #[] 5)) c2
  have H' := Lib.hid h'
  have HB := Lib.hid hb
  have HR := Lib.hid (fun j u hu => cell_stays (bw_alloc (Below.refl w.heap.size w) (.cells #[] 5)) (hrest j u hu))
  obtain ⟨hx0, hx1⟩ := hx
  have onew := Lib.hid (World.ownsRow_made (w := w) (base := w.heap.size) (e := 5) (size := 1) #[] 0 (Nat.le_refl _) (by simp [maxLen]) rfl)
  have hne1 : ((ins.length : Int) + 1 == 0) = false := by simp; omega
  clear hb oi oo si so hS h' hrest
  simp only [List.length_cons] at hcap
  by_cases h1 : cap = 1
  · subst h1
    have hnil : ins = [] := List.eq_nil_of_length_eq_zero (by omega)
    subst hnil
    clear hcap hl
    go_enter Try.func19, Try.ntmps19
    go_wp2_with (at_builtin; refine wpList_append_own_at _ rfl (.tmp 28) (.tmp 33) 23 rfl w.heap.size 5 i0 (.int .u8 0) 1 1 Try.underlying23 hi hz0 hz1 hz2 rfl (by decide) _ 0 [] rfl onew.out ⟨gi, 0, none⟩ 0 _ [] rfl rfl ?d1 ?d2 ?d3 ?d4 ?d5 ?_)
    case d1 => intro j u hu; simp at hu
    case d2 => intro u hu; simp at hu
    case d3 => simp [maxLen]
    case d4 => omega
    case d5 => simp
    intro v2 w2 own2 g2 _ _
    obtain ⟨A2, c2', rfl⟩ := own_shape own2
    have b2 := (bw_alloc (Below.refl w.heap.size w) (.cells #[] 5)).grown g2 (by simp) (by rintro k ⟨⟩; exact Nat.le_refl _)
    have k2 := HB.out.below b2
    have d0 := k2.cell 2
    have e0 := k2.free 2
    simp [dc] at d0
    have OX : Hid (w2.ownsRow w.heap.size 5 1 (.slice A2 0 c2') ([] : List Int).length (bs [])) := Lib.hid own2
    have BX := Lib.hid b2
    clear own2 g2 b2 k2
    go_wp2
    go_ret
    exact ⟨rfl, da_new_in (ins' := []) H'.out OX.out BX.out⟩
  · go_enter Try.func19, Try.ntmps19
    go_wp2_with (at_builtin; refine wpList_append_own_at _ rfl (.tmp 28) (.tmp 33) 23 rfl w.heap.size 5 i0 (.int .u8 0) 1 1 Try.underlying23 hi hz0 hz1 hz2 rfl (by decide) _ 0 [] rfl onew.out ⟨gi, 1, none⟩ ins.length _ (bs ins) rfl (by rw [bs_len, Nat.mul_one]) HR.out (bs_one ins) ?e3 ?e4 ?e5 ?_)
    case e3 => simp only [maxLen]; omega
    case e4 => omega
    case e5 => simp
    intro v2 w2 own2 g2 _ _
    obtain ⟨A2, c2', rfl⟩ := own_shape own2
    have b2 := (bw_alloc (Below.refl w.heap.size w) (.cells #[] 5)).grown g2 (by simp) (by rintro k ⟨⟩; exact Nat.le_refl _)
    have k2 := HB.out.below b2
    have d0 := k2.cell 2
    have e0 := k2.free 2
    simp [dc] at d0
    have OX : Hid (w2.ownsRow w.heap.size 5 1 (.slice A2 ins.length c2') ins.length (bs ins)) := Lib.hid own2
    have BX := Lib.hid b2
    clear own2 g2 b2 k2
    go_wp2
    go_ret
    exact ⟨rfl, da_new_in (ins' := ins) H'.out OX.out BX.out⟩
end Go.Proofs.Ytlgjdakpdhemiaa
