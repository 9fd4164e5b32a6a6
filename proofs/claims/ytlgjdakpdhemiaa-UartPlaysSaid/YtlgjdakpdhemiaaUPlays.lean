/- The walk of the law UartPlays: called with any script it returns true, and nothing that lay in memory is another. No conditions beyond the kinds. -/
import Derived.Test.YtlgjdakpdhemiaaTwo
namespace Go.Proofs.Ytlgjdakpdhemiaa
open Go.RowKit
theorem hold_of {B g gd k : Nat} {v w : World} {ins sent : List Int} {lost may : Bool} (h : Two0 B g gd w ins sent lost may ins sent lost may) (h1 : ins.length ≤ 16) (h2 : sent.length ≤ k) (h3 : ∀ x ∈ ins, 0 ≤ x ∧ x ≤ 255) (hb : Below v.heap.size v w) : Holds B g gd k v w :=
  ⟨⟨ins, sent, lost, may, h, h1, h2, h3⟩, hb⟩
theorem ldI_ok {ins : List Int} (o : Int) (h1 : ins.length ≤ 16) (h3 : ∀ x ∈ ins, 0 ≤ x ∧ x ≤ 255) : (ldI ins o).length ≤ 16 ∧ ∀ x ∈ ldI ins o, 0 ≤ x ∧ x ≤ 255 := by
  unfold ldI
  split
  · exact ⟨by simp; omega, fun x hx => h3 x (List.mem_of_mem_tail hx)⟩
  · exact ⟨h1, h3⟩
theorem stS_ok {sent : List Int} (o x : Int) {k : Nat} (h : sent.length ≤ k) : (stS sent o x).length ≤ k + 1 := by
  unfold stS
  split
  · simp; omega
  · omega
theorem coI_ok {ins : List Int} (b : Int) (hb0 : 0 ≤ b) (hb1 : b ≤ 255) (h1 : ins.length ≤ 16) (h3 : ∀ x ∈ ins, 0 ≤ x ∧ x ≤ 255) : (coI ins b).length ≤ 16 ∧ ∀ x ∈ coI ins b, 0 ≤ x ∧ x ≤ 255 := by
  unfold coI
  split
  · refine ⟨by simp; omega, fun x hx => ?_⟩
    simp at hx
    rcases hx with hx | rfl
    · exact h3 x hx
    · exact ⟨hb0, hb1⟩
  · exact ⟨h1, h3⟩
set_option maxRecDepth 100000 in
set_option maxHeartbeats 3200000 in
theorem uplays_any (A : Option Addr) (n c : Nat) (hm : n ≤ maxLen) (w : World) (hs : Script w A n) :
    Calls Try.prog 6 #[.slice A n c] w fun e w' => e = .returned (.bool true) ∧ Below w.heap.size w w' := by
  have HS := Lib.hid hs
  clear hs
  unfold maxLen at hm
  by_cases hl : 200 < n
  · have hl' : decide (200 < (n : Int)) = true := decide_eq_true (by omega)
    go_enter Try.func6, Try.ntmps6
    go_wp2_with (go_at_call 12; refine (ua_awake _).mono ?_; rintro e w1 ⟨rfl, hb1⟩)
    go_ret
    exact ⟨rfl, bw_trans (by assumption) hb1⟩
  · have hl' : decide (200 < (n : Int)) = false := decide_eq_false (by omega)
    go_enter Try.func6, Try.ntmps6
    go_wp2_with (go_at_call 12; refine (ua_awake _).mono ?_; rintro e w1 ⟨rfl, hb1⟩)
    have k0 : Hid (Holds w.heap.size w1.heap.size (w1.heap.size + 1) 0 w ((w1.alloc (.cells #[.slice none 0 0, .slice none 0 0, .bool false, .bool false] 38)).alloc (.cells (dc (.slice none 0 0) (.slice none 0 0) false false) 49))) :=
      Lib.hid ⟨⟨[], [], false, false, two_new w1 _ hb1.size, by simp, by simp, fun x hx => by simp at hx⟩, bw_alloc (bw_alloc hb1 _) _⟩
    have g0 := hb1.size
    unfold dc at k0
    clear hb1
    generalize (w1.alloc (.cells #[.slice none 0 0, .slice none 0 0, .bool false, .bool false] 38)).alloc (.cells #[.int .i64 3, .slice none 0 0, .slice none 0 0, .slice none 0 0, .bool false, .bool false, .int .u32 0, .int .u32 0, .int .u32 0, .int .u32 0, .int .u32 0, .int .u32 0, .int .u32 0, .int .u32 0] 49) = w2 at *
    generalize w1.heap.size = g at *
    go_loopw [26] (fun i wr => ∃ (k : Nat), i = .int .i64 k ∧ k ≤ n ∧ Hid (Holds w.heap.size g (g + 1) k w wr)) (fun i _ => n - (intOf i).toNat)
    case atStart => exact ⟨0, rfl, by omega, k0⟩
    case round =>
      obtain ⟨k, rfl, hk, HH⟩ := hrel
      clear k0
      by_cases hlt : k < n
      · obtain ⟨ad, kd, o, wd, x, m, y, rfl, hop, c0, c1, c2, c3, c4, c5⟩ := (HS.out.stays HH.out.below) k hlt
        obtain ⟨_, bk, bo, bwd, bx, bm⟩ := hop
        go_upto_block 2 with (fail)
        go_cut [7] (fun _v7 wc => ∃ _z : Nat, Hid (Holds w.heap.size g (g + 1) (k + 1) w wc))
        case first =>
          obtain ⟨⟨ins, sent, lost, may, ht0, h16, hsn, hr⟩, hb00⟩ := HH.out
          have HT := Lib.hid (ht0.beside #[.int .u8 kd, .int .u64 o, .int .i64 wd, .int .u64 x, .int .i64 m, .bool y])
          have HB0 := Lib.hid (bw_alloc hb00 (.cells #[.int .u8 kd, .int .u64 o, .int .i64 wd, .int .u64 x, .int .i64 m, .bool y] 50))
          have HR := Lib.hid hr
          have hml := mask_low x bx.1 bx.2
          have HML := Lib.hid hml
          clear ht0 hb00 hr hml HH c0 c1 c2 c3 c4 c5
          by_cases hE : askV o wd 16 = 0
          · have HE := Lib.hid hE
            have hO := (ask_four bo.1 hE)
            have HO := Lib.hid hO.2
            obtain rfl := hO.1
            clear hE hO
            by_cases hk4 : kd < 4
            · go_wp2_with fail
              refine (two_load_u o HT.out HB0.out (Nat.le_refl _) h16 HR.out HO.out).mono ?_
              rintro e w4 ⟨rfl, t4, b4⟩
              have T4 := Lib.hid t4
              have B4 := Lib.hid b4
              clear t4 b4
              have o0 := T4.out.blk.cell 0
              have o1 := T4.out.blk.cell 1
              have o2 := T4.out.blk.cell 2
              have o3 := T4.out.blk.cell 3
              have o4 := T4.out.blk.cell 4
              have o5 := T4.out.blk.cell 5
              simp at o0 o1 o2 o3 o4 o5
              go_wp2_with fail
              refine (uwrong_any _ _ _ _ _ _ _ bo.1).mono ?_
              rw [HE.out]
              rintro e w5 ⟨rfl, b5⟩
              have T5 := Lib.hid (T4.out.stays b5)
              have B5 := Lib.hid (bw_trans B4.out b5)
              clear b5 o0 o1 o2 o3 o4 o5
              have o1 := T5.out.blk.cell 1
              simp at o1
              go_wp2_with fail
              refine (two_load_d o T5.out B5.out (Nat.le_refl _) h16 HR.out HO.out).mono ?_
              rintro e w6 ⟨rfl, t6, b6⟩
              have H6 := Lib.hid (hold_of t6.zero (ldI_ok o h16 HR.out).1 (Nat.le_succ_of_le hsn) (ldI_ok o h16 HR.out).2 b6)
              clear t6 b6 o1
              go_wp2_with fail
              go_meet
              case rel => exact ⟨0, H6⟩
            · by_cases hk8 : kd < 8
              · go_wp2_with fail
                refine (uwrong_any _ _ _ _ _ _ _ bo.1).mono ?_
                rw [HE.out]
                rintro e w4 ⟨rfl, b4⟩
                have T4 := Lib.hid (HT.out.stays b4)
                have B4 := Lib.hid (bw_trans HB0.out b4)
                clear b4
                have o1 := T4.out.blk.cell 1
                have o2 := T4.out.blk.cell 2
                have o3 := T4.out.blk.cell 3
                simp at o1 o2 o3
                go_wp2_with fail
                refine (two_store_u o x T4.out B4.out (Nat.le_refl _) (by omega) HO.out).mono ?_
                rintro e w5 ⟨rfl, t5, b5⟩
                have T5 := Lib.hid t5
                have B5 := Lib.hid b5
                clear t5 b5 o1 o2 o3
                have o1 := T5.out.blk.cell 1
                have o3 := T5.out.blk.cell 3
                simp at o1 o3
                have hml := HML.out
                go_wp2_with fail
                clear hml
                refine (two_store_d o x bx.1 bx.2 T5.out B5.out (Nat.le_refl _) (by omega) HO.out).mono ?_
                rintro e w6 ⟨rfl, t6, b6⟩
                have H6 := Lib.hid (hold_of t6.zero h16 (stS_ok o x hsn) HR.out b6)
                clear t6 b6 o1 o3
                go_wp2_with fail
                go_meet
                case rel => exact ⟨0, H6⟩
              · go_wp2_with fail
                refine (two_come_u _ HT.out HB0.out (Nat.le_refl _)).mono ?_
                rintro e w4 ⟨rfl, t4, b4⟩
                have T4 := Lib.hid t4
                have B4 := Lib.hid b4
                clear t4 b4
                have o4 := T4.out.blk.cell 4
                simp at o4
                by_cases hc16 : ins.length < 16
                · have dc16 : decide (ins.length < 16) = true := decide_eq_true hc16
                  rw [if_pos hc16]
                  go_wp2_with fail
                  refine (two_come_d _ T4.out B4.out (Nat.le_refl _)).mono ?_
                  rw [dc16]
                  rintro e w6 ⟨rfl, t6, b6⟩
                  have H6 := Lib.hid (hold_of t6.zero (coI_ok _ (by omega) (by omega) h16 HR.out).1 (Nat.le_succ_of_le hsn) (coI_ok _ (by omega) (by omega) h16 HR.out).2 b6)
                  clear t6 b6 o4
                  go_wp2_with fail
                  go_meet
                  case rel => exact ⟨0, H6⟩
                · have dc16 : decide (ins.length < 16) = false := decide_eq_false hc16
                  rw [if_neg hc16]
                  go_wp2_with fail
                  refine (two_come_d _ T4.out B4.out (Nat.le_refl _)).mono ?_
                  rw [dc16]
                  rintro e w6 ⟨rfl, t6, b6⟩
                  have H6 := Lib.hid (hold_of t6.zero (coI_ok _ (by omega) (by omega) h16 HR.out).1 (Nat.le_succ_of_le hsn) (coI_ok _ (by omega) (by omega) h16 HR.out).2 b6)
                  clear t6 b6 o4
                  go_wp2_with fail
                  go_meet
                  case rel => exact ⟨0, H6⟩
          · have hp := ask_wrong hE
            have hn : (askV o wd 16 != 0) = true := by simpa using hE
            have hz : (askV o wd 16 == 0) = false := by simpa using hE
            have HLB := fun W => Lib.hid (ua_bad_load g o wd W bo.1 hE)
            have HSB := fun W => Lib.hid (ua_bad_store g o wd x W bo.1 hE)
            have HWR := fun W => Lib.hid (uwrong_any kd o wd x m y W bo.1)
            clear hE
            generalize askV o wd 16 = E at *
            by_cases hk4 : kd < 4
            · go_wp2_with fail
              refine (HLB _).out.mono ?_
              rintro e w3 ⟨rfl, rfl⟩
              go_wp2_with fail
              refine (HWR _).out.mono ?_
              rintro e w3 ⟨rfl, b3⟩
              have H6 := Lib.hid (hold_of (HT.out.stays b3).zero h16 (Nat.le_succ_of_le hsn) HR.out (bw_trans HB0.out b3))
              clear b3
              go_wp2_with fail
              go_meet
              case rel => exact ⟨0, H6⟩
            · by_cases hk8 : kd < 8
              · go_wp2_with fail
                refine (HWR _).out.mono ?_
                rintro e w3 ⟨rfl, b3⟩
                have T4 := Lib.hid (HT.out.stays b3)
                have H6 := Lib.hid (hold_of (HT.out.stays b3).zero h16 (Nat.le_succ_of_le hsn) HR.out (bw_trans HB0.out b3))
                clear b3
                have o1 := T4.out.blk.cell 1
                have o2 := T4.out.blk.cell 2
                have o3 := T4.out.blk.cell 3
                simp at o1 o2 o3
                go_wp2_with fail
                refine (HSB _).out.mono ?_
                rintro e w4 ⟨rfl, rfl⟩
                clear o1 o2 o3
                go_wp2_with fail
                go_meet
                case rel => exact ⟨0, H6⟩
              · go_wp2_with fail
                refine (two_come_u _ HT.out HB0.out (Nat.le_refl _)).mono ?_
                rintro e w4 ⟨rfl, t4, b4⟩
                have T4 := Lib.hid t4
                have B4 := Lib.hid b4
                clear t4 b4
                have o4 := T4.out.blk.cell 4
                simp at o4
                by_cases hc16 : ins.length < 16
                · have dc16 : decide (ins.length < 16) = true := decide_eq_true hc16
                  rw [if_pos hc16]
                  go_wp2_with fail
                  refine (two_come_d _ T4.out B4.out (Nat.le_refl _)).mono ?_
                  rw [dc16]
                  rintro e w6 ⟨rfl, t6, b6⟩
                  have H6 := Lib.hid (hold_of t6.zero (coI_ok _ (by omega) (by omega) h16 HR.out).1 (Nat.le_succ_of_le hsn) (coI_ok _ (by omega) (by omega) h16 HR.out).2 b6)
                  clear t6 b6 o4
                  go_wp2_with fail
                  go_meet
                  case rel => exact ⟨0, H6⟩
                · have dc16 : decide (ins.length < 16) = false := decide_eq_false hc16
                  rw [if_neg hc16]
                  go_wp2_with fail
                  refine (two_come_d _ T4.out B4.out (Nat.le_refl _)).mono ?_
                  rw [dc16]
                  rintro e w6 ⟨rfl, t6, b6⟩
                  have H6 := Lib.hid (hold_of t6.zero (coI_ok _ (by omega) (by omega) h16 HR.out).1 (Nat.le_succ_of_le hsn) (coI_ok _ (by omega) (by omega) h16 HR.out).2 b6)
                  clear t6 b6 o4
                  go_wp2_with fail
                  go_meet
                  case rel => exact ⟨0, H6⟩
        case rest =>
          obtain ⟨_, HC⟩ := hcut
          clear c0 c1 c2 c3 c4 c5 HH
          obtain ⟨⟨ins, sent, lost, may, ht, hi16, hsn, hr⟩, hb⟩ := HC.out
          obtain ⟨S1, S2, hu, hd, hdis⟩ := ht
          have HU := Lib.hid hu
          have HD := Lib.hid hd
          obtain ⟨vi, vo, hbk, oi, oo, _⟩ := hd
          obtain ⟨Ao, co, rfl⟩ := own_shape oo
          have d3 := hbk.cell 3
          simp [dc] at d3
          have cva := own_str oo
          have cvb := own_str (w := wc.drew) oo
          have cvc := fun j => own_str (w := wc.drewN j) oo
          have HBK := Lib.hid hbk
          have HOO := Lib.hid oo
          have HB := Lib.hid hb
          clear hbk oi oo hu hb hdis hr
          go_wp2_with fail
          go_region_with (first
            | (go_at_call 22; refine (ua_high _ _ S1 _ ins sent lost may (by exact HU.out)).mono ?_; rintro e w' ⟨rfl, rfl⟩)
            | (go_at_call 23; refine (da_high _ _ S2 _ ins sent lost may (by exact HD.out)).mono ?_; rintro e w' ⟨rfl, rfl⟩)
            | (go_at_call 24; refine (ua_sent _ _ S1 _ ins sent lost may (by exact HU.out) (by omega)).mono ?_; rintro e w3 ⟨v3, rfl, ow3, bw3⟩; obtain ⟨A3, c3, rfl⟩ := own_shape ow3; have bw3 : Below wc.heap.size wc w3 := ⟨bw3.os, bw3.tape, bw3.output, bw3.size, bw3.block⟩; have d33 := cell_stays bw3 d3; have oo3 := own_below HOO.out bw3; have cv3a := own_str oo3; have cw3a := own_str ow3; have cv3b := own_str (w := w3.drew) oo3; have cw3b := own_str (w := w3.drew) ow3; have cv3c := fun j => own_str (w := w3.drewN j) oo3; have cw3c := fun j => own_str (w := w3.drewN j) ow3; have H3 := Lib.hid (HC.out.stays bw3); clear ow3 oo3 bw3))
          all_goals
            clear cva cvb cvc cv3a cv3b cv3c cw3a cw3b cw3c d3 d33
            go_wp2_with fail
            go_roundw
            case rel => first | exact ⟨k + 1, by go_num, by omega, H3⟩ | exact ⟨k + 1, by go_num, by omega, Lib.hid H3.out.drew⟩ | exact ⟨k + 1, by go_num, by omega, Lib.hid (H3.out.drewN _)⟩
            case measure => simp [intOf]; omega
      · go_wp2_with fail
        go_ret
        exact ⟨rfl, HH.out.below⟩
theorem open_script45 {H : Type} {enc : TypeId × Value → H} {w : World} {base b0 : Nat} {spare : Nat → Bool} {held : Bool} {r : Reach} {v : Value} {d : DataW H} {p : List MemPlace}
    (hv : Value.okWide Try.prog w r b0 45 v) (h : DataW.Trod enc Try.prog w base spare held 45 v d p) :
    ∃ A n c, v = .slice A n c ∧ n ≤ maxLen ∧ Script w A n :=
  open_script Try.underlying45 (by kernel_rfl) (fun _ _ _ ht => op_cells (u8 := 5) (u64 := 30) (i64 := 3) (bo := 4) Try.underlying50 (by kernel_rfl) (by kernel_rfl) rfl rfl rfl rfl rfl rfl Try.underlying5 Try.underlying30 Try.underlying3 Try.underlying4 ht) hv h
end Go.Proofs.Ytlgjdakpdhemiaa
