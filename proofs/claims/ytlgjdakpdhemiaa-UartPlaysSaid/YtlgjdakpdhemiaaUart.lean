/- Contracts of the UART's methods: each answers, and leaves, what plain functions of its bytes and marks tell. Conditions: its rows are the call's own, and short. -/
import Derived.Test.YtlgjdakpdhemiaaMem
namespace Go.Proofs.Ytlgjdakpdhemiaa
open Go.RowKit
/-- Block g is a UART whose rows lie from block B on, all of it in blocks of S. -/
def Ua (B g : Nat) (S : Nat → Prop) (w : World) (ins sent : List Int) (lost may : Bool) : Prop :=
  ∃ vi vs, Bk w g 38 #[vi, vs, .bool lost, .bool may] ∧ w.ownsRow B 5 1 vi ins.length (bs ins) ∧ w.ownsRow B 5 1 vs sent.length (bs sent) ∧ (∀ k, vi.ownBlock = some k → vs.ownBlock ≠ some k) ∧
    S g ∧ (∀ k, vi.ownBlock = some k → S k) ∧ (∀ k, vs.ownBlock = some k → S k) ∧ (∀ k, S k → B ≤ k ∧ k < w.heap.size)
/-- A world in which it has become such a one. -/
def UaTo (B g : Nat) (S : Nat → Prop) (w : World) (ins sent : List Int) (lost may : Bool) (w' : World) : Prop :=
  ∃ S' : Nat → Prop, Ua B g S' w' ins sent lost may ∧ Chg S w w' ∧ ∀ k, S' k → S k ∨ w.heap.size ≤ k
theorem Ua.stay {B g : Nat} {S : Nat → Prop} {w : World} {ins sent : List Int} {lost may : Bool} (h : Ua B g S w ins sent lost may) : UaTo B g S w ins sent lost may w := ⟨S, h, Chg.refl _ _, fun _ hk => .inl hk⟩
set_option maxHeartbeats 400000 in
theorem ua_come_full (B g : Nat) (S : Nat → Prop) (w : World) (ins sent : List Int) (lost may : Bool) (b : Int) (h : Ua B g S w ins sent lost may) (hl : 16 ≤ ins.length) :
    Calls Try.prog 13 #[.pointer (some ⟨g, 0, none⟩), .int .u8 b] w fun e w' => e = .returned (.int .i64 20) ∧ UaTo B g S w ins sent true may w' := by
  obtain ⟨vi, vs, hb, oi, os, hne, sg, si, ss, hS⟩ := h
  obtain ⟨A, c, rfl⟩ := own_shape oi
  have c0 := hb.cell 0
  have c2 := hb.cell 2
  have f2 := hb.free 2
  simp at c0 c2
  have HB := Lib.hid hb
  have OI := Lib.hid oi
  have OS := Lib.hid os
  have HN := Lib.hid hne
  have HI := Lib.hid si
  have HS := Lib.hid ss
  have HSS := Lib.hid hS
  clear hb oi os hne si ss hS
  have hl16 : decide (16 ≤ (ins.length : Int)) = true := decide_eq_true (by omega)
  go_enter Try.func13, Try.ntmps13
  go_wp2
  go_ret
  refine ⟨rfl, S, ⟨_, vs, HB.out.set 2 _, own_set OI.out (own_type OI.out HB.out (by decide : (5 : Nat) ≠ 38)) _, own_set OS.out (own_type OS.out HB.out (by decide : (5 : Nat) ≠ 38)) _, HN.out, sg, HI.out, HS.out, ?_⟩, (Chg.refl S w).set (.inl sg) _, fun _ hk => .inl hk⟩
  intro k hk
  exact ⟨(HSS.out k hk).1, by simpa [World.setCell] using (HSS.out k hk).2⟩

theorem bs_snoc (xs : List Int) (b : Int) : bs xs ++ [.int .u8 b] = bs (xs ++ [b]) := by simp [bs]
set_option maxHeartbeats 400000 in
theorem ua_come_room (B g : Nat) (S : Nat → Prop) (w : World) (ins sent : List Int) (lost may : Bool) (b : Int) (h : Ua B g S w ins sent lost may) (hl : ins.length < 16) :
    Calls Try.prog 13 #[.pointer (some ⟨g, 0, none⟩), .int .u8 b] w fun e w' => e = .returned (.int .i64 0) ∧ UaTo B g S w (ins ++ [b]) sent lost may w' := by
  obtain ⟨vi, vs, hb, oi, os, hne, sg, si, ss, hS⟩ := h
  obtain ⟨i0, hi, hz0, hz1, hz2⟩ := info_parts info5
  have hBs : B ≤ w.heap.size := by have := hS g sg; omega
  obtain ⟨A, c, rfl⟩ := own_shape oi
  have c0 := hb.cell 0
  have f0 := hb.free 0
  simp at c0
  have oi' := own_below oi (bw_alloc (Below.refl w.heap.size w) (.cells #[.int .u8 b] 5))
  have HB := Lib.hid hb
  have OI := Lib.hid oi
  have OI' := Lib.hid oi'
  have OS := Lib.hid os
  have HN := Lib.hid hne
  have HI := Lib.hid si
  have HS := Lib.hid ss
  have HSS := Lib.hid hS
  have hl16 : decide (16 ≤ (ins.length : Int)) = false := decide_eq_false (by omega)
  clear hb oi os hne si ss hS oi'
  go_enter Try.func13, Try.ntmps13
  go_wp2_with (at_builtin; refine wpList_append_own_at _ rfl (.tmp 22) (.tmp 24) 23 rfl B 5 i0 (.int .u8 0) 1 1 Try.underlying23 hi hz0 hz1 hz2 rfl (by decide) (.slice A ins.length c) ins.length (bs ins) rfl OI'.out ⟨w.heap.size, 0, none⟩ 1 1 [.int .u8 b] rfl rfl (cell_one_new _ _ _) ?c2 ?c3 ?c4 ?c5 ?_)
  case c2 => intro u hu; simp at hu; subst hu; rfl
  case c3 => simp only [maxLen]; omega
  case c4 => omega
  case c5 => simp; omega
  intro v' w1 own1 g1 _ at1
  obtain ⟨A', c', rfl⟩ := own_shape own1
  have hsz := g1.size
  rw [World.size_alloc] at hsz
  have k1 : Bk w1 g 38 #[.slice A ins.length c, vs, .bool lost, .bool may] := (HB.out.alloc (.cells #[.int .u8 b] 5)).grown g1 (fun e => own_type OI.out HB.out (by decide : (5 : Nat) ≠ 38) g e rfl)
  have d0 := k1.cell 0
  have e0 := k1.free 0
  simp at d0
  have ov := own_keep (own_below OS.out (bw_alloc (Below.refl w.heap.size w) (.cells #[.int .u8 b] 5))) (w := w1) (fun k hk => g1.block k (by have := (OS.out.lt k hk).2; simp; omega) (fun e => HN.out k e.symm hk))
  have C1 := ((Chg.refl S w).alloc (.cells #[.int .u8 b] 5)).grown g1 (fun k hk => .inl (HI.out k hk))
  rw [bs_snoc] at own1
  have K1 := Lib.hid k1
  have OV := Lib.hid ov
  have OW := Lib.hid own1
  have CC := Lib.hid C1
  have AT := Lib.hid at1
  have SZ := Lib.hid hsz
  clear k1 ov own1 C1 at1 g1 hsz
  go_wp2
  go_ret
  refine ⟨rfl, fun k => S k ∨ (w.heap.size ≤ k ∧ k < w1.heap.size), ⟨_, vs, K1.out.set 0 _, ?_, own_set OV.out (own_type OV.out K1.out (by decide : (5 : Nat) ≠ 38)) _, ?_, .inl sg, ?_, fun k hk => .inl (HS.out k hk), ?_⟩, CC.out.set (.inl sg) _, ?_⟩
  · have := own_set OW.out (own_type OW.out K1.out (by decide : (5 : Nat) ≠ 38)) (p := ⟨g, 0, none⟩) (.slice A' (ins.length + 1) c')
    simpa using this
  · intro k hk hv
    rcases AT.out with e | e
    · rw [e] at hk
      exact HN.out k hk hv
    · rw [e] at hk
      have := (OS.out.lt k hv).2
      injection hk with hk
      omega
  · intro k hk
    have hlt := (OW.out.lt k hk).2
    rcases AT.out with e | e
    · rw [e] at hk
      exact .inl (HI.out k hk)
    · rw [e] at hk
      injection hk with hk
      exact .inr ⟨by omega, hlt⟩
  · have sz := SZ.out
    intro k hk
    rcases hk with hk | ⟨h1, h2⟩
    · have := HSS.out k hk
      refine ⟨this.1, ?_⟩
      simp [World.setCell]
      omega
    · refine ⟨by omega, ?_⟩
      simpa [World.setCell] using h2
  · rintro k (hk | ⟨h1, _⟩)
    · exact .inl hk
    · exact .inr h1
theorem ua_bad_load (g : Nat) (o wd : Int) (w : World) (h0 : 0 ≤ o) (h : ¬ askV o wd 16 = 0) :
    Calls Try.prog 14 #[.pointer (some ⟨g, 0, none⟩), .int .u64 o, .int .i64 wd] w fun e w' => e = .returned (.tuple #[.int .u64 0, .int .i64 (askV o wd 16)]) ∧ w = w' := by
  have hp := ask_wrong h
  have hn : (askV o wd 16 != 0) = true := by simpa using h
  clear h
  generalize hE : askV o wd 16 = E at *
  have HE := Lib.hid hE
  clear hE
  go_enter Try.func14, Try.ntmps14
  go_wp2_with (go_at_call 25; refine (ask_any _ _ _ _ h0).mono ?_; rw [HE.out]; rintro e w1 ⟨rfl, rfl⟩)
  go_ret2
  exact ⟨rfl, rfl⟩
theorem ua_bad_store (g : Nat) (o wd v : Int) (w : World) (h0 : 0 ≤ o) (h : ¬ askV o wd 16 = 0) :
    Calls Try.prog 15 #[.pointer (some ⟨g, 0, none⟩), .int .u64 o, .int .i64 wd, .int .u64 v] w fun e w' => e = .returned (.int .i64 (askV o wd 16)) ∧ w = w' := by
  have hp := ask_wrong h
  have hn : (askV o wd 16 != 0) = true := by simpa using h
  clear h
  generalize hE : askV o wd 16 = E at *
  have HE := Lib.hid hE
  clear hE
  go_enter Try.func15, Try.ntmps15
  go_wp2_with (go_at_call 25; refine (ask_any _ _ _ _ h0).mono ?_; rw [HE.out]; rintro e w1 ⟨rfl, rfl⟩)
  go_ret
  exact ⟨rfl, rfl⟩
theorem ua_load0_none (B g : Nat) (S : Nat → Prop) (w : World) (sent : List Int) (lost may : Bool) (h : Ua B g S w [] sent lost may) :
    Calls Try.prog 14 #[.pointer (some ⟨g, 0, none⟩), .int .u64 0, .int .i64 4] w fun e w' => e = .returned (.tuple #[.int .u64 0, .int .i64 0]) ∧ w = w' := by
  obtain ⟨vi, vs, hb, oi, _⟩ := h
  obtain ⟨A, c, rfl⟩ := own_shape oi
  have c0 := hb.cell 0
  simp at c0
  clear hb oi
  go_enter Try.func14, Try.ntmps14
  go_wp2
  go_ret2
  exact ⟨rfl, rfl⟩
def b2n (b : Bool) : Int := if b then 1 else 0
theorem bit_any (b : Bool) (w : World) : Calls Try.prog 30 #[.bool b] w fun e w' => e = .returned (.int .u64 (b2n b)) ∧ w' = w := by
  cases b
  all_goals
    go_enter Try.func30, Try.ntmps30
    go_wp2
    go_ret
    exact ⟨rfl, rfl⟩
/-- The row of what came is another now, in new memory. -/
theorem ua_new_in {B g : Nat} {S : Nat → Prop} {w w2 : World} {vi vs : Value} {A : Option Addr} {c : Nat} {ins sent : List Int} {lost may : Bool} (sg : S g) (_si : ∀ k, vi.ownBlock = some k → S k)
    (ss : ∀ k, vs.ownBlock = some k → S k) (hS : ∀ k, S k → B ≤ k ∧ k < w.heap.size) (os : w.ownsRow B 5 1 vs sent.length (bs sent)) (hb : Bk w g 38 #[vi, vs, .bool lost, .bool may])
    (ow : w2.ownsRow w.heap.size 5 1 (.slice A ins.length c) ins.length (bs ins)) (bw : Below w.heap.size w w2) :
    UaTo B g S w ins sent lost may (w2.setCell ⟨g, 0, none⟩ (.slice A ins.length c)) := by
  have hBs : B ≤ w.heap.size := by have := hS g sg; omega
  have k1 := hb.below bw
  have os1 := own_below os bw
  refine ⟨fun k => S k ∨ (w.heap.size ≤ k ∧ k < w2.heap.size), ⟨.slice A ins.length c, vs, k1.set 0 _, own_set (own_mono ow hBs) (own_type ow k1 (by decide : (5 : Nat) ≠ 38)) _, own_set os1 (own_type os1 k1 (by decide : (5 : Nat) ≠ 38)) _, ?_, .inl sg, ?_, fun k hk => .inl (ss k hk), ?_⟩,
    ((Chg.refl S w).then_below bw).set (.inl sg) _, ?_⟩
  · intro k hk hv
    have h1 := (ow.lt k hk).1
    have h2 := (hS k (ss k hv)).2
    omega
  · exact fun k hk => .inr (ow.lt k hk)
  · rintro k (hk | ⟨h1, h2⟩)
    · have := hS k hk
      have h3 := bw.size
      refine ⟨this.1, ?_⟩
      simp [World.setCell]
      omega
    · refine ⟨by omega, ?_⟩
      simpa [World.setCell] using h2
  · rintro k (hk | ⟨h1, _⟩)
    · exact .inl hk
    · exact .inr h1
set_option maxHeartbeats 800000 in
theorem ua_load0_some (B g : Nat) (S : Nat → Prop) (w : World) (x : Int) (ins sent : List Int) (lost may : Bool) (h : Ua B g S w (x :: ins) sent lost may) (hx : 0 ≤ x ∧ x ≤ 255) (hl : ins.length < 1000) :
    Calls Try.prog 14 #[.pointer (some ⟨g, 0, none⟩), .int .u64 0, .int .i64 4] w fun e w' => e = .returned (.tuple #[.int .u64 x, .int .i64 0]) ∧ UaTo B g S w ins sent lost may w' := by
  obtain ⟨vi, vs, hb, oi, os, hne, sg, si, ss, hS⟩ := h
  obtain ⟨gi, cap, rfl, hcap, hgB, hgl, x0, hrest⟩ := own_cons oi rfl
  have c0 := hb.cell 0
  have f0 := hb.free 0
  simp at c0
  obtain ⟨hx0, hx1⟩ := hx
  have HB := Lib.hid hb
  have OI := Lib.hid oi
  have OS := Lib.hid os
  have HN := Lib.hid hne
  have HI := Lib.hid si
  have HS := Lib.hid ss
  have HSS := Lib.hid hS
  have HR := Lib.hid hrest
  clear hb oi os hne si ss hS hrest
  simp only [List.length_cons] at hcap
  have hne1 : ((ins.length : Int) + 1 == 0) = false := by simp; omega
  by_cases h1 : cap = 1
  · subst h1
    have hnil : ins = [] := List.eq_nil_of_length_eq_zero (by omega)
    subst hnil
    clear hcap hl
    go_enter Try.func14, Try.ntmps14
    go_wp2_with fail
    refine (ask_any _ _ _ _ (by decide)).mono ?_
    rintro e w1 ⟨rfl, rfl⟩
    go_wp2_with fail
    refine (clone_some ⟨gi, 0, none⟩ 0 _ [] w rfl (by intro j u hu; simp [bs] at hu) (by omega)).mono ?_
    rintro e w2 ⟨v2, rfl, ow, bw⟩
    obtain ⟨A', c', rfl⟩ := own_shape ow
    have k1 := HB.out.below bw
    have d0 := k1.cell 0
    have e0 := k1.free 0
    simp at d0
    have OW := Lib.hid ow
    have BW := Lib.hid bw
    have K1 := Lib.hid k1
    have SZ := bw.size
    clear k1 ow bw c0 f0 x0
    go_wp2_with fail
    go_ret2
    exact ⟨rfl, ua_new_in sg HI.out HS.out HSS.out OS.out HB.out OW.out BW.out⟩
  · go_enter Try.func14, Try.ntmps14
    go_wp2_with fail
    refine (ask_any _ _ _ _ (by decide)).mono ?_
    rintro e w1 ⟨rfl, rfl⟩
    go_wp2_with fail
    refine (clone_some ⟨gi, 1, none⟩ ins.length _ ins w rfl HR.out (by omega)).mono ?_
    rintro e w2 ⟨v2, rfl, ow, bw⟩
    obtain ⟨A', c', rfl⟩ := own_shape ow
    have k1 := HB.out.below bw
    have d0 := k1.cell 0
    have e0 := k1.free 0
    simp at d0
    have OW := Lib.hid ow
    have BW := Lib.hid bw
    have K1 := Lib.hid k1
    have SZ := bw.size
    clear k1 ow bw c0 f0 x0
    go_wp2_with fail
    go_ret2
    exact ⟨rfl, ua_new_in sg HI.out HS.out HSS.out OS.out HB.out OW.out BW.out⟩

theorem or_bits (a b : Bool) : Go.bits .or .u64 (IntKind.u64.wrap (b2n a)) (IntKind.u64.wrap (2 * b2n b)) = b2n a + 2 * b2n b := by cases a <;> cases b <;> decide +kernel
theorem Ua.drawn {B g : Nat} {S : Nat → Prop} {w : World} {ins sent : List Int} {lost may : Bool} (h : Ua B g S w ins sent lost may) (n : Nat) : UaTo B g S w ins sent lost may (w.drewN n) :=
  ⟨S, h, (Chg.refl _ _).drewN n, fun _ hk => .inl hk⟩
set_option maxHeartbeats 800000 in
theorem ua_load4 (B g : Nat) (S : Nat → Prop) (w : World) (ins sent : List Int) (lost may : Bool) (h : Ua B g S w ins sent lost may) :
    Calls Try.prog 14 #[.pointer (some ⟨g, 0, none⟩), .int .u64 4, .int .i64 4] w fun e w' => e = .returned (.tuple #[.int .u64 (b2n (decide (0 < ins.length)) + 2 * b2n lost), .int .i64 0]) ∧ UaTo B g S w ins sent lost may w' := by
  have h' := h
  obtain ⟨vi, vs, hb, oi, _⟩ := h
  obtain ⟨A, c, rfl⟩ := own_shape oi
  have c0 := hb.cell 0
  have c2 := hb.cell 2
  simp at c0 c2
  have H' := Lib.hid h'
  clear hb oi h'
  go_enter Try.func14, Try.ntmps14
  go_wp2_with fail
  refine (ask_any _ _ _ _ (by decide)).mono ?_
  rintro e w1 ⟨rfl, rfl⟩
  go_wp2_with fail
  go_quiet ((go_at_call 30; exact Calls.quiet_of_same (bit_any _ _)))
  go_wp2
  go_ret2
  exact ⟨congrArg (fun z => Ending.returned (.tuple #[.int .u64 z, .int .i64 0])) (or_bits _ _), H'.out.drawn _⟩
set_option maxHeartbeats 800000 in
theorem ua_load8 (B g : Nat) (S : Nat → Prop) (w : World) (ins sent : List Int) (lost may : Bool) (h : Ua B g S w ins sent lost may) :
    Calls Try.prog 14 #[.pointer (some ⟨g, 0, none⟩), .int .u64 8, .int .i64 4] w fun e w' => e = .returned (.tuple #[.int .u64 (b2n may), .int .i64 0]) ∧ UaTo B g S w ins sent lost may w' := by
  have h' := h
  obtain ⟨vi, vs, hb, oi, _⟩ := h
  have c3 := hb.cell 3
  simp at c3
  have H' := Lib.hid h'
  clear hb oi h'
  go_enter Try.func14, Try.ntmps14
  go_wp2_with fail
  refine (ask_any _ _ _ _ (by decide)).mono ?_
  rintro e w1 ⟨rfl, rfl⟩
  go_wp2_with fail
  refine (bit_any _ _).mono ?_
  rintro e w1 ⟨rfl, hw⟩
  rw [hw]
  clear hw
  go_wp2_with fail
  go_ret2
  exact ⟨rfl, H'.out.stay⟩
set_option maxHeartbeats 800000 in
theorem ua_load12 (B g : Nat) (S : Nat → Prop) (w : World) (ins sent : List Int) (lost may : Bool) (h : Ua B g S w ins sent lost may) (hl : ins.length < 1000) :
    Calls Try.prog 14 #[.pointer (some ⟨g, 0, none⟩), .int .u64 12, .int .i64 4] w fun e w' => e = .returned (.tuple #[.int .u64 ins.length, .int .i64 0]) ∧ UaTo B g S w ins sent lost may w' := by
  have h' := h
  obtain ⟨vi, vs, hb, oi, _⟩ := h
  obtain ⟨A, c, rfl⟩ := own_shape oi
  have c0 := hb.cell 0
  simp at c0
  have H' := Lib.hid h'
  clear hb oi h'
  go_enter Try.func14, Try.ntmps14
  go_wp2_with fail
  refine (ask_any _ _ _ _ (by decide)).mono ?_
  rintro e w1 ⟨rfl, rfl⟩
  go_wp2_with fail
  go_ret2
  exact ⟨rfl, H'.out.stay⟩
theorem ua_set2 {B g : Nat} {S : Nat → Prop} {w : World} {ins sent : List Int} {lost may : Bool} (h : Ua B g S w ins sent lost may) (b : Bool) : UaTo B g S w ins sent b may (w.setCell ⟨g, 2, none⟩ (.bool b)) := by
  obtain ⟨vi, vs, hb, oi, os, hne, sg, si, ss, hS⟩ := h
  refine ⟨S, ⟨_, vs, hb.set 2 _, own_set oi (own_type oi hb (by decide : (5 : Nat) ≠ 38)) _, own_set os (own_type os hb (by decide : (5 : Nat) ≠ 38)) _, hne, sg, si, ss, fun k hk => ?_⟩, (Chg.refl S w).set (.inl sg) _, fun _ hk => .inl hk⟩
  exact ⟨(hS k hk).1, by simpa [World.setCell] using (hS k hk).2⟩
theorem ua_set3 {B g : Nat} {S : Nat → Prop} {w : World} {ins sent : List Int} {lost may : Bool} (h : Ua B g S w ins sent lost may) (b : Bool) : UaTo B g S w ins sent lost b (w.setCell ⟨g, 3, none⟩ (.bool b)) := by
  obtain ⟨vi, vs, hb, oi, os, hne, sg, si, ss, hS⟩ := h
  refine ⟨S, ⟨_, vs, hb.set 3 _, own_set oi (own_type oi hb (by decide : (5 : Nat) ≠ 38)) _, own_set os (own_type os hb (by decide : (5 : Nat) ≠ 38)) _, hne, sg, si, ss, fun k hk => ?_⟩, (Chg.refl S w).set (.inl sg) _, fun _ hk => .inl hk⟩
  exact ⟨(hS k hk).1, by simpa [World.setCell] using (hS k hk).2⟩
set_option maxHeartbeats 800000 in
theorem ua_store4 (B g : Nat) (S : Nat → Prop) (w : World) (ins sent : List Int) (lost may : Bool) (v : Int) (h : Ua B g S w ins sent lost may) :
    Calls Try.prog 15 #[.pointer (some ⟨g, 0, none⟩), .int .u64 4, .int .i64 4, .int .u64 v] w fun e w' => e = .returned (.int .i64 0) ∧ UaTo B g S w ins sent (lost && Go.bits .and .u64 v 2 == 0) may w' := by
  have h' := h
  obtain ⟨vi, vs, hb, _⟩ := h
  have c2 := hb.cell 2
  have f2 := hb.free 2
  simp at c2
  have H' := Lib.hid h'
  clear hb h'
  cases lost
  all_goals
    go_enter Try.func15, Try.ntmps15
    go_wp2_with fail
    refine (ask_any _ _ _ _ (by decide)).mono ?_
    rintro e w1 ⟨rfl, rfl⟩
    go_wp2_with fail
    go_ret
    exact ⟨rfl, ua_set2 H'.out _⟩
set_option maxHeartbeats 800000 in
theorem ua_store8 (B g : Nat) (S : Nat → Prop) (w : World) (ins sent : List Int) (lost may : Bool) (v : Int) (h : Ua B g S w ins sent lost may) :
    Calls Try.prog 15 #[.pointer (some ⟨g, 0, none⟩), .int .u64 8, .int .i64 4, .int .u64 v] w fun e w' => e = .returned (.int .i64 0) ∧ UaTo B g S w ins sent lost (Go.bits .and .u64 v 1 == 1) w' := by
  have h' := h
  obtain ⟨vi, vs, hb, _⟩ := h
  have c3 := hb.cell 3
  have f3 := hb.free 3
  simp at c3
  have H' := Lib.hid h'
  clear hb h'
  go_enter Try.func15, Try.ntmps15
  go_wp2_with fail
  refine (ask_any _ _ _ _ (by decide)).mono ?_
  rintro e w1 ⟨rfl, rfl⟩
  go_wp2_with fail
  go_ret
  exact ⟨rfl, ua_set3 H'.out _⟩
set_option maxHeartbeats 800000 in
theorem ua_store12 (B g : Nat) (S : Nat → Prop) (w : World) (ins sent : List Int) (lost may : Bool) (v : Int) (h : Ua B g S w ins sent lost may) :
    Calls Try.prog 15 #[.pointer (some ⟨g, 0, none⟩), .int .u64 12, .int .i64 4, .int .u64 v] w fun e w' => e = .returned (.int .i64 0) ∧ UaTo B g S w ins sent lost may w' := by
  have H' := Lib.hid h
  clear h
  go_enter Try.func15, Try.ntmps15
  go_wp2_with fail
  refine (ask_any _ _ _ _ (by decide)).mono ?_
  rintro e w1 ⟨rfl, rfl⟩
  go_wp2_with fail
  go_ret
  exact ⟨rfl, H'.out.stay⟩
set_option maxHeartbeats 800000 in
theorem ua_high (B g : Nat) (S : Nat → Prop) (w : World) (ins sent : List Int) (lost may : Bool) (h : Ua B g S w ins sent lost may) :
    Calls Try.prog 22 #[.pointer (some ⟨g, 0, none⟩)] w fun e w' => e = .returned (.bool (may && decide (0 < ins.length))) ∧ w = w' := by
  obtain ⟨vi, vs, hb, oi, _⟩ := h
  obtain ⟨A, c, rfl⟩ := own_shape oi
  have c0 := hb.cell 0
  have c3 := hb.cell 3
  simp at c0 c3
  clear hb oi
  cases may
  all_goals
    go_enter Try.func22, Try.ntmps22
    go_wp2_with fail
    go_ret
    exact ⟨by simp, rfl⟩

set_option maxHeartbeats 800000 in
theorem ua_store0 (B g : Nat) (S : Nat → Prop) (w : World) (ins sent : List Int) (lost may : Bool) (v : Int) (h : Ua B g S w ins sent lost may) (hl : sent.length < 100000) :
    Calls Try.prog 15 #[.pointer (some ⟨g, 0, none⟩), .int .u64 0, .int .i64 4, .int .u64 v] w fun e w' => e = .returned (.int .i64 0) ∧ UaTo B g S w ins (sent ++ [v % 256]) lost may w' := by
  obtain ⟨vi, vs, hb, oi, os, hne, sg, si, ss, hS⟩ := h
  obtain ⟨i0, hi, hz0, hz1, hz2⟩ := info_parts info5
  have hBs : B ≤ w.heap.size := by have := hS g sg; omega
  obtain ⟨A, c, rfl⟩ := own_shape os
  have c1 := hb.cell 1
  have f1 := hb.free 1
  simp at c1
  have os' := own_below os (bw_alloc (Below.refl w.heap.size w) (.cells #[.int .u8 (v % 256)] 5))
  have HB := Lib.hid hb
  have OI := Lib.hid oi
  have OS := Lib.hid os
  have OS' := Lib.hid os'
  have HN := Lib.hid hne
  have HI := Lib.hid si
  have HS := Lib.hid ss
  have HSS := Lib.hid hS
  clear hb oi os hne si ss hS os'
  go_enter Try.func15, Try.ntmps15
  go_wp2_with fail
  refine (ask_any _ _ _ _ (by decide)).mono ?_
  rintro e w1 ⟨rfl, rfl⟩
  go_wp2_with (at_builtin; refine wpList_append_own_at _ rfl (.tmp 25) (.tmp 28) 23 rfl B 5 i0 (.int .u8 0) 1 1 Try.underlying23 hi hz0 hz1 hz2 rfl (by decide) (.slice A sent.length c) sent.length (bs sent) rfl OS'.out ⟨w.heap.size, 0, none⟩ 1 1 [.int .u8 (v % 256)] rfl rfl (cell_one_new _ _ _) ?c2 ?c3 ?c4 ?c5 ?_)
  case c2 => intro u hu; simp at hu; subst hu; rfl
  case c3 => simp only [maxLen]; omega
  case c4 => omega
  case c5 => simp; omega
  intro v' w1 own1 g1 _ at1
  obtain ⟨A', c', rfl⟩ := own_shape own1
  have hsz := g1.size
  rw [World.size_alloc] at hsz
  have k1 : Bk w1 g 38 #[vi, .slice A sent.length c, .bool lost, .bool may] := (HB.out.alloc (.cells #[.int .u8 (v % 256)] 5)).grown g1 (fun e => own_type OS.out HB.out (by decide : (5 : Nat) ≠ 38) g e rfl)
  have d0 := k1.cell 1
  have e0 := k1.free 1
  simp at d0
  have ov := own_keep (own_below OI.out (bw_alloc (Below.refl w.heap.size w) (.cells #[.int .u8 (v % 256)] 5))) (w := w1) (fun k hk => g1.block k (by have := (OI.out.lt k hk).2; simp; omega) (fun e => HN.out k hk e.symm))
  have C1 := ((Chg.refl S w).alloc (.cells #[.int .u8 (v % 256)] 5)).grown g1 (fun k hk => .inl (HS.out k hk))
  rw [bs_snoc] at own1
  have K1 := Lib.hid k1
  have OV := Lib.hid ov
  have OW := Lib.hid own1
  have CC := Lib.hid C1
  have AT := Lib.hid at1
  have SZ := Lib.hid hsz
  clear k1 ov own1 C1 at1 g1 hsz
  go_wp2
  go_ret
  refine ⟨rfl, fun k => S k ∨ (w.heap.size ≤ k ∧ k < w1.heap.size), ⟨vi, _, K1.out.set 1 _, own_set OV.out (own_type OV.out K1.out (by decide : (5 : Nat) ≠ 38)) _, ?_, ?_, .inl sg, fun k hk => .inl (HI.out k hk), ?_, ?_⟩, CC.out.set (.inl sg) _, ?_⟩
  · have := own_set OW.out (own_type OW.out K1.out (by decide : (5 : Nat) ≠ 38)) (p := ⟨g, 1, none⟩) (.slice A' (sent.length + 1) c')
    simpa using this
  · intro k hk hv
    rcases AT.out with e | e
    · rw [e] at hv
      exact HN.out k hk hv
    · rw [e] at hv
      have := (OI.out.lt k hk).2
      injection hv with hv
      omega
  · intro k hk
    have hlt := (OW.out.lt k hk).2
    rcases AT.out with e | e
    · rw [e] at hk
      exact .inl (HS.out k hk)
    · rw [e] at hk
      injection hk with hk
      exact .inr ⟨by omega, hlt⟩
  · have sz := SZ.out
    intro k hk
    rcases hk with hk | ⟨h1, h2⟩
    · have := HSS.out k hk
      refine ⟨this.1, ?_⟩
      simp [World.setCell]
      omega
    · refine ⟨by omega, ?_⟩
      simpa [World.setCell] using h2
  · rintro k (hk | ⟨h1, _⟩)
    · exact .inl hk
    · exact .inr h1
/-- What a row of bytes reads as. -/
theorem own_source {w : World} {B n : Nat} {A : Option Addr} {c : Nat} {xs : List Value} (h : w.ownsRow B 5 1 (.slice A n c) n xs) :
    (A = none ∧ n = 0 ∧ c = 0 ∧ xs = []) ∨ ∃ ad, A = some ad ∧ ∀ j u, xs[j]? = some u → w.cell? (ad.add j) = some u := by
  rcases h.2 with ⟨e, h0⟩ | ⟨g, cap, cur, e, _⟩
  · injection e with e1 e2 e3
    have hx := h.1
    rw [h0] at hx
    exact .inl ⟨e1, h0, e3, List.eq_nil_of_length_eq_zero (by omega)⟩
  · injection e with e1 e2 e3
    subst e1
    exact .inr ⟨_, rfl, h.cells (g := g) rfl⟩
theorem clone_any (B n : Nat) (A : Option Addr) (c : Nat) (xs : List Int) (w : World) (h : w.ownsRow B 5 1 (.slice A n c) n (bs xs)) (hm : n ≤ 140737488355328) :
    Calls Try.prog 29 #[.slice A n c] w fun e w' => ∃ v, e = .returned v ∧ w'.ownsRow w.heap.size 5 1 v n (bs xs) ∧ Below w.heap.size w w' := by
  rcases own_source h with ⟨rfl, rfl, rfl, hx⟩ | ⟨ad, rfl, hc⟩
  · refine (clone_nil w).mono ?_
    rintro e w' ⟨rfl, rfl⟩
    exact ⟨_, rfl, by rw [hx]; exact World.ownsRow_nil _ _ _ _, Below.refl _ _⟩
  · have hl := h.1
    rw [bs_len, Nat.mul_one] at hl
    exact clone_some ad n c xs w hl hc hm
set_option maxHeartbeats 800000 in
theorem ua_sent (B g : Nat) (S : Nat → Prop) (w : World) (ins sent : List Int) (lost may : Bool) (h : Ua B g S w ins sent lost may) (hl : sent.length < 100000) :
    Calls Try.prog 24 #[.pointer (some ⟨g, 0, none⟩)] w fun e w' => ∃ v, e = .returned v ∧ w'.ownsRow w.heap.size 5 1 v sent.length (bs sent) ∧ Below w.heap.size w w' := by
  obtain ⟨vi, vs, hb, oi, os, _⟩ := h
  obtain ⟨A, c, rfl⟩ := own_shape os
  have c1 := hb.cell 1
  simp at c1
  have OS := Lib.hid os
  clear hb oi os
  go_enter Try.func24, Try.ntmps24
  go_wp2_with fail
  refine (clone_any _ _ _ _ _ _ OS.out (by omega)).mono ?_
  rintro e w2 ⟨v2, rfl, ow, bw⟩
  obtain ⟨A', c', rfl⟩ := own_shape ow
  have OW := Lib.hid ow
  have BW := Lib.hid bw
  clear ow bw c1
  go_wp2_with fail
  go_ret
  exact ⟨_, rfl, OW.out, BW.out⟩
end Go.Proofs.Ytlgjdakpdhemiaa
