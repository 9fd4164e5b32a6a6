/- The contract of the reference's Right (layer 21). Conditions: buses of entries of 64-bit numbers. -/
import Derived.Test.YtlamkhmbjkjbdaaDec
import Derived.Test.YtlamkhmbjkjbdaaRef
namespace Go.Proofs.Ytlamkhmbjkjbdaa
open Go.RowKit Go.Sort
set_option linter.unusedVariables false
theorem cg {W : World} {a : Addr} {v : Value} (h : W.cell? a = some v) (n : Nat) (os : Array Obj) : (grow (W.drewN n) os).cell? a = some v := cell_grown (World.block_lt_of_cell? _ _ h) h n os
theorem meetV_comm (x s y t : Int) : meetV x s y t = meetV y t x s := by unfold meetV; exact Bool.and_comm _ _
theorem meets_false {l : List En} {e : En} : meets l e = false ↔ ∀ j (h : j < l.length), meetV l[j].a l[j].s e.a e.s = false := by
  unfold meets
  rw [List.any_eq_false]
  constructor
  · intro h j hj
    have := h _ (List.getElem_mem hj)
    simpa using this
  · intro h x hx
    obtain ⟨j, hj, rfl⟩ := List.getElem_of_mem hx
    simpa using h j hj
set_option maxHeartbeats 6400000 in
set_option maxRecDepth 100000 in
theorem rright_any (A : Option Addr) (c : Nat) (F : Fb) (hL : F.length ≤ maxLen) (w : World) (hF : Fab w A F) :
    Calls Try.prog 10 #[.slice A F.length c] w fun e w' => e = .returned (.bool (rightB F)) ∧ Below w.heap.size w w' := by
  unfold maxLen at hL
  by_cases h1 : F.length < 1
  · rw [rightB_bad (by omega)]
    clear hF
    generalize F.length = L at *
    obtain rfl : L = 0 := by omega
    go_enter Try.func10, Try.ntmps10
    go_wp2_with fail
    go_ret
    exact ⟨rfl, Below.refl _ _⟩
  by_cases h2 : 256 < F.length
  · rw [rightB_bad (by omega)]
    clear hF
    generalize F.length = L at *
    have h1' : ¬ (L : Int) < 1 := by omega
    have h2' : (256 : Int) < L := by omega
    go_enter Try.func10, Try.ntmps10
    go_wp2_with fail
    go_ret
    exact ⟨rfl, Below.refl _ _⟩
  have HF := Lib.hid hF
  have HB := Lib.hid (rightB_iff F)
  have HC := Lib.hid (@rightB_bad F)
  clear hF
  obtain ⟨L, hN⟩ : ∃ L, L = F.length := ⟨_, rfl⟩
  have HL := Lib.hid hN
  rw [← hN] at h1 h2 hL ⊢
  clear hN
  have h1' : ¬ (L : Int) < 1 := by omega
  have h2' : ¬ (256 : Int) < L := by omega
  go_enter Try.func10, Try.ntmps10
  go_wp2_with fail
  go_loopg [2, 3, 4, 5, 6, 17] L (fun gg _ _ _ _ _ s17 wr => ∃ n : Nat, n ≤ L ∧ L - n ≤ gg ∧ s17 = .int .i64 n ∧ Hid (Below w.heap.size w wr) ∧ Hid (∀ m (h : m < F.length), m < n → rbV F.length m F[m] = true))
  case atStart => exact ⟨0, Nat.zero_le _, by omega, rfl, Below.refl _ _, fun j _ hj => absurd hj (Nat.not_lt_zero _)⟩
  case round =>
    obtain ⟨n, hn, hg, rfl, BW, AF⟩ := hrel
    by_cases hlt : n < L
    · have hnF : n < F.length := by rw [← HL.out]; exact hlt
      obtain ⟨ad, B, c1, rfl, hc, hl1, hl2, hE⟩ := (HF.out.stays BW.out) n hnF
      have hbad : Hid (rbV L n F[n] = false → rightB F = false) := fun h0 => HC.out fun hq => by
        have h3 := hq.2.2 n hnF
        rw [← HL.out, h0] at h3
        cases h3
      have hgood : Hid (rbV L n F[n] = true → ∀ m (h : m < F.length), m < n + 1 → rbV F.length m F[m] = true) := fun h0 m hm hm2 => by
        by_cases e : m = n
        · subst e
          rw [← HL.out]; exact h0
        · exact AF.out m hm (by omega)
      generalize F[n] = es at *
      have hcb := World.block_lt_of_cell? _ _ hc
      unfold maxLen at hl2
      obtain ⟨N, hNN⟩ : ∃ N, N = es.length := ⟨_, rfl⟩
      have HNN := Lib.hid hNN
      rw [← hNN] at hc hl1
      have HC1 := Lib.hid hc
      have HE := Lib.hid hE
      have hrb : Hid (rbV L n es = (busB L n es && decide ((N : Int) ≤ 256))) := by
        show _ = _
        unfold rbV
        rw [hNN]
      clear hNN hE
      by_cases hbig : 256 < N
      · have hb1 : (256 : Int) < N := by omega
        have hno := Lib.hid (hbad.out (by rw [hrb.out, decide_eq_false (by omega)]; simp))
        go_wp2_with fail
        go_ret
        exact ⟨by rw [hno.out]; rfl, BW.out⟩
      · have hb1 : ¬ (256 : Int) < N := by omega
        have hrt : Hid (rbV L n es = busB L n es) := by
          show _ = _
          rw [hrb.out, decide_eq_true (by omega), Bool.and_true]
        clear hrb
        go_wp2_with fail
        obtain ⟨wo, rfl⟩ : ∃ wo : World, wo = wr := ⟨_, rfl⟩
        obtain ⟨gk1, rfl⟩ : ∃ g, g = gk := ⟨_, rfl⟩
        go_loopg [2, 4, 5, 6, 31] N (fun gg _ _ _ _ s31 wr => ∃ i : Nat, i ≤ N ∧ N - i ≤ gg ∧ s31 = .int .i64 i ∧ Hid (Below wo.heap.size wo wr) ∧ Hid (∀ j (h : j < es.length), j < i → goodAt L n es j h))
        case atStart => exact ⟨0, Nat.zero_le _, by omega, rfl, Below.refl _ _, fun j _ hj => absurd hj (Nat.not_lt_zero _)⟩
        case round =>
          obtain ⟨i, hi, hg2, rfl, BI, AG⟩ := hrel
          by_cases hil : i < N
          · have hi' : i < es.length := by rw [← HNN.out]; exact hil
            obtain ⟨bd, rfl, hat, hok⟩ := (HE.out.stays BI.out) i hi'
            have hent : Hid (entB L n es[i] = false → rightB F = false) := fun h0 => hbad.out (by rw [hrt.out]; exact busB_bad i hi' fun hq => by have h3 := hq.1; rw [h0] at h3; cases h3)
            have hmt : Hid (∀ j, (hj : j < i) → meetV (es[j]'(by omega)).a (es[j]'(by omega)).s es[i].a es[i].s = true → rightB F = false) := fun j hj h0 => hbad.out (by
              rw [hrt.out]
              refine busB_bad i hi' fun hq => ?_
              have h3 := meets_false.1 hq.2 j (by rw [List.length_take]; omega)
              rw [List.getElem_take, h0] at h3
              cases h3)
            have hnext : Hid (entB L n es[i] = true → (∀ j, (hj : j < i) → meetV (es[j]'(by omega)).a (es[j]'(by omega)).s es[i].a es[i].s = false) → ∀ j (h : j < es.length), j < i + 1 → goodAt L n es j h) := fun h0 h1 j hj hj2 => by
              by_cases e : j = i
              · subst e
                refine ⟨h0, meets_false.2 fun k hk => ?_⟩
                rw [List.getElem_take]
                exact h1 k (by rw [List.length_take] at hk; omega)
              · exact AG.out j hj (by omega)
            have hc2 := (BI.out.cell hcb).trans HC1.out
            have hwins : Hid (∀ j, (hj : j < i) → (es[j]'(by omega)).Ok ∧ Win (es[j]'(by omega)).a (es[j]'(by omega)).s) := fun j hj => by
              obtain ⟨_, _, _, ok⟩ := (HE.out.stays BI.out) j (by omega)
              exact ⟨ok, (entB_facts ok (AG.out j (by omega) hj).1).1⟩
            generalize es[i] = y at hat hok hent hmt hnext
            obtain ⟨ya, ys, yy, yd, yb⟩ := y
            have hoky := Lib.hid hok
            obtain ⟨f0, f1, f2, f3, f4⟩ := hat
            obtain ⟨u1, u2, u3, u4⟩ := hok
            simp only at f0 f1 f2 f3 f4 u1 u2 u3 u4
            have US := Lib.hid u2
            have K1 := Lib.hid (fun W => rwhole_any ya ys u1 u2 W)
            have K2 := Lib.hid (fun W => rwhole_any yb ys u4 u2 W)
            have hv1 : entB L n ⟨ya, ys, yy, yd, yb⟩ = (winB ya ys && ((!yy || (winB yb ys && (decide ((n : Int) < yd) && decide (yd < (L : Int))))) && decide (0 ≤ yd))) := rfl
            have hw1 : winB ya ys = (decide (0 < ys) && wholeV ya ys) := by
              unfold winB wholeV
              rw [Bool.eq_iff_iff]
              simp only [Bool.and_eq_true, Bool.or_eq_true, decide_eq_true_eq, beq_iff_eq]
              omega
            have hw2 : winB yb ys = (decide (0 < ys) && wholeV yb ys) := by
              unfold winB wholeV
              rw [Bool.eq_iff_iff]
              simp only [Bool.and_eq_true, Bool.or_eq_true, decide_eq_true_eq, beq_iff_eq]
              omega
            have hWin : Hid (winB ya ys = true → Win ya ys) := (winB_iff u1 u2).1
            rw [hw2] at hv1
            rw [hw1] at hv1 hWin
            have HV := Lib.hid hv1
            obtain ⟨s0, s1⟩ := u2
            generalize wholeV ya ys = b1 at *
            generalize wholeV yb ys = b2 at *
            obtain ⟨d0, d1⟩ := u3
            clear hv1 hw1 hw2 u1 u4
            by_cases hs : 0 < ys
            · have sz : (ys == 0) = false := by simp; omega
              cases b1
              · have hno := Lib.hid (hent.out (by rw [HV.out]; simp))
                clear hent hmt hnext K2
                go_wp2_with fail
                refine (K1.out _).mono ?_
                rintro e w1 ⟨rfl, rfl⟩
                go_wp2_with fail
                go_ret
                exact ⟨by rw [hno.out]; rfl, bw_trans BW.out (bw_alloc BI.out _)⟩
              · by_cases hd0 : yd < 0
                · have hno := Lib.hid (hent.out (by rw [HV.out, decide_eq_false (show ¬ 0 ≤ yd by omega)]; simp))
                  clear hent hmt hnext K2
                  go_wp2_with fail
                  refine (K1.out _).mono ?_
                  rintro e w1 ⟨rfl, rfl⟩
                  go_wp2_with fail
                  go_ret
                  exact ⟨by rw [hno.out]; rfl, bw_trans BW.out (bw_alloc BI.out _)⟩
                · cases yy
                  · have HEN : Hid (entB L n ⟨ya, ys, false, yd, yb⟩ = true) := by
                      show _ = _
                      rw [HV.out, decide_eq_true hs, decide_eq_true (show 0 ≤ yd by omega)]; simp
                    clear hent HV
                    go_wp2_with fail
                    refine (K1.out _).mono ?_
                    rintro e w1 ⟨rfl, rfl⟩
                    go_wp2_with fail
                    have W0 : Hid (Win ya ys) := hWin.out (by rw [decide_eq_true hs]; first | trivial | rfl)
                    have EB : Hid (EnAt (wr.alloc (.cells #[.int .u64 ya, .int .u64 ys, .bool false, .int .i64 yd, .int .u64 yb] 54)) ⟨wr.heap.size, 0, none⟩ ⟨ya, ys, false, yd, yb⟩) := by
                      have hk := Bk.new wr 54 #[.int .u64 ya, .int .u64 ys, .bool false, .int .i64 yd, .int .u64 yb]
                      exact ⟨hk.cell 0, hk.cell 1, hk.cell 2, hk.cell 3, hk.cell 4⟩
                    have BA : Hid (Below wo.heap.size wo (wr.alloc (.cells #[.int .u64 ya, .int .u64 ys, .bool false, .int .i64 yd, .int .u64 yb] 54))) := bw_alloc BI.out _
                    generalize hwv : wr.alloc (.cells #[.int .u64 ya, .int .u64 ys, .bool false, .int .i64 yd, .int .u64 yb] 54) = V at EB BA ⊢
                    generalize hq8 : wr.heap.size = Q at EB ⊢
                    clear hwv hq8 f0 f1 f2 f3 f4 hc2 K1 K2
                    obtain ⟨gk2, rfl⟩ : ∃ g, g = gk := ⟨_, rfl⟩
                    go_loopg [2, 6, 83] i (fun gg _ _ s83 wi => ∃ k : Nat, k ≤ i ∧ i - k ≤ gg ∧ s83 = .int .i64 k ∧ Hid (Below V.heap.size V wi) ∧ Hid (∀ j, (hj : j < i) → j < k → meetV (es[j]'(by omega)).a (es[j]'(by omega)).s ya ys = false))
                    case atStart => exact ⟨0, Nat.zero_le _, by omega, rfl, Below.refl _ _, fun j _ hj => absurd hj (Nat.not_lt_zero _)⟩
                    case round =>
                      obtain ⟨k, hk, hg3, rfl, BV, AM⟩ := hrel
                      by_cases hkl : k < i
                      · obtain ⟨e0, e1, e2, e3, e4⟩ := EB.out.stays BV.out
                        simp only at e0 e1 e2 e3 e4
                        obtain ⟨_, hbd, hx, _⟩ := (HE.out.stays (bw_trans BA.out BV.out)) k (by omega)
                        injection hbd with hbd
                        subst hbd
                        have hc3 := ((bw_trans BA.out BV.out).cell hcb).trans HC1.out
                        obtain ⟨okx, winx⟩ := hwins.out k hkl
                        have hmk := Lib.hid (hmt.out k hkl)
                        have HAM : Hid (meetV (es[k]'(by omega)).a (es[k]'(by omega)).s ya ys = false → ∀ j, (hj : j < i) → j < k + 1 → meetV (es[j]'(by omega)).a (es[j]'(by omega)).s ya ys = false) := fun h0 j hj hj2 => by
                          by_cases e : j = k
                          · subst e; exact h0
                          · exact AM.out j hj (by omega)
                        generalize es[k]'(by omega) = x at hx okx winx hmk HAM
                        obtain ⟨xa, xs, xy, xd, xb⟩ := x
                        obtain ⟨x0, x1, x2, x3, x4⟩ := hx
                        have KM := Lib.hid (fun W => rmeet_any ya ys xa xs W0.out US.out winx okx.us W)
                        rw [meetV_comm] at KM
                        simp only at hmk HAM KM x0 x1 x2 x3 x4
                        generalize meetV xa xs ya ys = r at KM hmk HAM
                        clear okx winx
                        have kk0 : (0 : Int) ≤ k := by omega
                        have kk1 : (k : Int) < N := by omega
                        have n0 : (0 : Int) ≤ n := by omega
                        have n1 : (n : Int) < L := by omega
                        have q0 := fun m os => cg e0 m os
                        have q1 := fun m os => cg e1 m os
                        have q2 := fun m os => cg hc3 m os
                        have q3 := fun m os => cg x0 m os
                        have q4 := fun m os => cg x1 m os
                        have mixed : Try.prog.follows .mixedOrders = true := by kernel_rfl
                        clear e0 e1 e2 e3 e4 x0 x1 x2 x3 x4 hc3
                        go_wp2_with fail
                        go_quiet_grown (first | (go_at_call 20; exact Calls.grown_of (KM.out _)))
                        have BF : Hid (RowKit.Below V.heap.size V (grow (wr.drewN nq) osq)) := bw_trans BV.out (Gr.below ⟨nq, osq, rfl⟩)
                        cases r
                        · go_wp2_with fail
                          go_roundg (i - (k + 1))
                          case measure => omega
                          case rel => exact ⟨k + 1, by omega, by omega, by go_num, BF, HAM.out (by first | trivial | rfl)⟩
                        · have hno := Lib.hid (hmk.out (by first | trivial | rfl))
                          go_wp2_with fail
                          go_ret
                          exact ⟨by rw [hno.out]; rfl, bw_trans BW.out (bw_trans BA.out BF.out)⟩
                      · obtain rfl : k = i := by omega
                        go_wp2_with fail
                        go_roundg (N - (k + 1))
                        case measure => omega
                        case rel => exact ⟨k + 1, by omega, by omega, by go_num, bw_trans BA.out BV.out, hnext.out HEN.out (fun j hj => AM.out j hj hj)⟩
                  · cases b2
                    · have hno := Lib.hid (hent.out (by rw [HV.out]; simp))
                      clear hent hmt hnext
                      go_wp2_with fail
                      refine (K1.out _).mono ?_
                      rintro e w1 ⟨rfl, rfl⟩
                      go_wp2_with fail
                      refine (K2.out _).mono ?_
                      rintro e w1 ⟨rfl, rfl⟩
                      go_wp2_with fail
                      go_ret
                      exact ⟨by rw [hno.out]; rfl, bw_trans BW.out (bw_alloc BI.out _)⟩
                    · by_cases hd2 : (n : Int) < yd
                      · by_cases hd3 : yd < (L : Int)
                        · have HEN : Hid (entB L n ⟨ya, ys, true, yd, yb⟩ = true) := by
                            show _ = _
                            rw [HV.out, decide_eq_true hs, decide_eq_true (show 0 ≤ yd by omega), decide_eq_true hd2, decide_eq_true hd3]; simp
                          clear hent HV
                          go_wp2_with fail
                          refine (K1.out _).mono ?_
                          rintro e w1 ⟨rfl, rfl⟩
                          go_wp2_with fail
                          refine (K2.out _).mono ?_
                          rintro e w1 ⟨rfl, rfl⟩
                          go_wp2_with fail
                          have W0 : Hid (Win ya ys) := hWin.out (by rw [decide_eq_true hs]; first | trivial | rfl)
                          have EB : Hid (EnAt (wr.alloc (.cells #[.int .u64 ya, .int .u64 ys, .bool true, .int .i64 yd, .int .u64 yb] 54)) ⟨wr.heap.size, 0, none⟩ ⟨ya, ys, true, yd, yb⟩) := by
                            have hk := Bk.new wr 54 #[.int .u64 ya, .int .u64 ys, .bool true, .int .i64 yd, .int .u64 yb]
                            exact ⟨hk.cell 0, hk.cell 1, hk.cell 2, hk.cell 3, hk.cell 4⟩
                          have BA : Hid (Below wo.heap.size wo (wr.alloc (.cells #[.int .u64 ya, .int .u64 ys, .bool true, .int .i64 yd, .int .u64 yb] 54))) := bw_alloc BI.out _
                          generalize hwv : wr.alloc (.cells #[.int .u64 ya, .int .u64 ys, .bool true, .int .i64 yd, .int .u64 yb] 54) = V at EB BA ⊢
                          generalize hq8 : wr.heap.size = Q at EB ⊢
                          clear hwv hq8 f0 f1 f2 f3 f4 hc2 K1 K2
                          obtain ⟨gk2, rfl⟩ : ∃ g, g = gk := ⟨_, rfl⟩
                          go_loopg [2, 6, 83] i (fun gg _ _ s83 wi => ∃ k : Nat, k ≤ i ∧ i - k ≤ gg ∧ s83 = .int .i64 k ∧ Hid (Below V.heap.size V wi) ∧ Hid (∀ j, (hj : j < i) → j < k → meetV (es[j]'(by omega)).a (es[j]'(by omega)).s ya ys = false))
                          case atStart => exact ⟨0, Nat.zero_le _, by omega, rfl, Below.refl _ _, fun j _ hj => absurd hj (Nat.not_lt_zero _)⟩
                          case round =>
                            obtain ⟨k, hk, hg3, rfl, BV, AM⟩ := hrel
                            by_cases hkl : k < i
                            · obtain ⟨e0, e1, e2, e3, e4⟩ := EB.out.stays BV.out
                              simp only at e0 e1 e2 e3 e4
                              obtain ⟨_, hbd, hx, _⟩ := (HE.out.stays (bw_trans BA.out BV.out)) k (by omega)
                              injection hbd with hbd
                              subst hbd
                              have hc3 := ((bw_trans BA.out BV.out).cell hcb).trans HC1.out
                              obtain ⟨okx, winx⟩ := hwins.out k hkl
                              have hmk := Lib.hid (hmt.out k hkl)
                              have HAM : Hid (meetV (es[k]'(by omega)).a (es[k]'(by omega)).s ya ys = false → ∀ j, (hj : j < i) → j < k + 1 → meetV (es[j]'(by omega)).a (es[j]'(by omega)).s ya ys = false) := fun h0 j hj hj2 => by
                                by_cases e : j = k
                                · subst e; exact h0
                                · exact AM.out j hj (by omega)
                              generalize es[k]'(by omega) = x at hx okx winx hmk HAM
                              obtain ⟨xa, xs, xy, xd, xb⟩ := x
                              obtain ⟨x0, x1, x2, x3, x4⟩ := hx
                              have KM := Lib.hid (fun W => rmeet_any ya ys xa xs W0.out US.out winx okx.us W)
                              rw [meetV_comm] at KM
                              simp only at hmk HAM KM x0 x1 x2 x3 x4
                              generalize meetV xa xs ya ys = r at KM hmk HAM
                              clear okx winx
                              have kk0 : (0 : Int) ≤ k := by omega
                              have kk1 : (k : Int) < N := by omega
                              have n0 : (0 : Int) ≤ n := by omega
                              have n1 : (n : Int) < L := by omega
                              have q0 := fun m os => cg e0 m os
                              have q1 := fun m os => cg e1 m os
                              have q2 := fun m os => cg hc3 m os
                              have q3 := fun m os => cg x0 m os
                              have q4 := fun m os => cg x1 m os
                              have mixed : Try.prog.follows .mixedOrders = true := by kernel_rfl
                              clear e0 e1 e2 e3 e4 x0 x1 x2 x3 x4 hc3
                              go_wp2_with fail
                              go_quiet_grown (first | (go_at_call 20; exact Calls.grown_of (KM.out _)))
                              have BF : Hid (RowKit.Below V.heap.size V (grow (wr.drewN nq) osq)) := bw_trans BV.out (Gr.below ⟨nq, osq, rfl⟩)
                              cases r
                              · go_wp2_with fail
                                go_roundg (i - (k + 1))
                                case measure => omega
                                case rel => exact ⟨k + 1, by omega, by omega, by go_num, BF, HAM.out (by first | trivial | rfl)⟩
                              · have hno := Lib.hid (hmk.out (by first | trivial | rfl))
                                go_wp2_with fail
                                go_ret
                                exact ⟨by rw [hno.out]; rfl, bw_trans BW.out (bw_trans BA.out BF.out)⟩
                            · obtain rfl : k = i := by omega
                              go_wp2_with fail
                              go_roundg (N - (k + 1))
                              case measure => omega
                              case rel => exact ⟨k + 1, by omega, by omega, by go_num, bw_trans BA.out BV.out, hnext.out HEN.out (fun j hj => AM.out j hj hj)⟩
                        · have hno := Lib.hid (hent.out (by rw [HV.out, decide_eq_false hd3]; simp))
                          clear hent hmt hnext
                          go_wp2_with fail
                          refine (K1.out _).mono ?_
                          rintro e w1 ⟨rfl, rfl⟩
                          go_wp2_with fail
                          refine (K2.out _).mono ?_
                          rintro e w1 ⟨rfl, rfl⟩
                          go_wp2_with fail
                          go_ret
                          exact ⟨by rw [hno.out]; rfl, bw_trans BW.out (bw_alloc BI.out _)⟩
                      · have hno := Lib.hid (hent.out (by rw [HV.out, decide_eq_false hd2]; simp))
                        clear hent hmt hnext
                        go_wp2_with fail
                        refine (K1.out _).mono ?_
                        rintro e w1 ⟨rfl, rfl⟩
                        go_wp2_with fail
                        refine (K2.out _).mono ?_
                        rintro e w1 ⟨rfl, rfl⟩
                        go_wp2_with fail
                        go_ret
                        exact ⟨by rw [hno.out]; rfl, bw_trans BW.out (bw_alloc BI.out _)⟩
            · obtain rfl : ys = 0 := by omega
              have hno := Lib.hid (hent.out (by rw [HV.out]; simp))
              clear hent hmt hnext K1 K2
              go_wp2_with fail
              go_ret
              exact ⟨by rw [hno.out]; rfl, bw_trans BW.out (bw_alloc BI.out _)⟩
          · have hall : Hid (busB L n es = true) := (busB_iff L n es).2 fun j hj => AG.out j hj (by have := HNN.out; omega)
            go_wp2_with fail
            go_roundg (L - (n + 1))
            case measure => omega
            case rel => exact ⟨n + 1, by omega, by omega, by go_num, bw_trans BW.out BI.out, hgood.out (by rw [hrt.out]; exact hall.out)⟩
    · go_wp2_with fail
      go_ret
      exact ⟨by rw [HB.out.2 ⟨by have := HL.out; omega, by have := HL.out; omega, fun m h => AF.out m h (by have := HL.out; omega)⟩]; rfl, BW.out⟩
end Go.Proofs.Ytlamkhmbjkjbdaa
