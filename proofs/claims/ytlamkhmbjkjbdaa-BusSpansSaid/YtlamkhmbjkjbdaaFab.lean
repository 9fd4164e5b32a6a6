/- Buses in memory, and the contracts of bus.rightBus and bus.Right (layer 21). Conditions: buses of entries of 64-bit numbers. -/
import Derived.Test.YtlamkhmbjkjbdaaIdx
namespace Go.Proofs.Ytlamkhmbjkjbdaa
open Go.RowKit Go.Sort
set_option linter.unusedVariables false
abbrev Fb := List (List En)
/-- Buses at an address. -/
def Fab (w : World) (A : Option Addr) (F : Fb) : Prop :=
  ∀ i (h : i < F.length), ∃ ad B c, A = some ad ∧ w.cell? (ad.add i) = some (.slice B F[i].length c) ∧ F[i].length ≤ c ∧ c ≤ maxLen ∧ Ents w B F[i]
theorem Fab.stays {w w1 : World} {A : Option Addr} {F : Fb} (h : Fab w A F) (hb : Below w.heap.size w w1) : Fab w1 A F := fun i hi => by
  obtain ⟨ad, B, c, e, k, l1, l2, es⟩ := h i hi
  exact ⟨ad, B, c, e, cell_stays hb k, l1, l2, es.stays hb⟩
/-- May an entry be on the bus n of L? -/
def entB (L n : Int) (e : En) : Bool := winB e.a e.s && ((!e.y || (winB e.b e.s && (decide (n < e.d) && decide (e.d < L)))) && decide (0 ≤ e.d))
/-- Does an entry meet one of those? -/
def meets (l : List En) (e : En) : Bool := l.any fun x => meetV x.a x.s e.a e.s
def goodAt (L n : Int) (es : List En) (i : Nat) (h : i < es.length) : Prop := entB L n es[i] = true ∧ meets (es.take i) es[i] = false
/-- May a bus be? -/
def busB (L n : Int) (es : List En) : Bool := (List.range es.length).all fun i => (es[i]?.map fun e => entB L n e && !meets (es.take i) e).getD true
theorem busB_iff (L n : Int) (es : List En) : busB L n es = true ↔ ∀ i (h : i < es.length), goodAt L n es i h := by
  unfold busB goodAt
  rw [List.all_eq_true]
  constructor
  · intro H i h
    have := H i (by simpa using h)
    rw [List.getElem?_eq_getElem h] at this
    simpa using this
  · intro H i hi
    have h : i < es.length := by simpa using hi
    rw [List.getElem?_eq_getElem h]
    have := H i h
    simp [this.1, this.2]
theorem busB_bad {L n : Int} {es : List En} (i : Nat) (h : i < es.length) (hb : ¬ goodAt L n es i h) : busB L n es = false := by
  cases hq : busB L n es
  · rfl
  · exact absurd ((busB_iff L n es).1 hq i h) hb
def rbV (L n : Int) (es : List En) : Bool := busB L n es && decide ((es.length : Int) ≤ 256)
theorem bwg {v w w' : World} (h : Below v.heap.size v w) (g : Gr w w') : Below v.heap.size v w' := bw_trans h g.below
set_option maxHeartbeats 3200000 in
theorem rightBus_any (A : Option Addr) (c : Nat) (F : Fb) (n : Nat) (hn : n < F.length) (hL : F.length ≤ 256) (w : World) (hF : Fab w A F) :
    Calls Try.prog 21 #[.slice A F.length c, .int .i64 n] w fun e w' => e = .returned (.bool (rbV F.length n F[n])) ∧ Below w.heap.size w w' := by
  obtain ⟨ad, B, c1, rfl, hc, hl1, hl2, hE⟩ := hF n hn
  unfold rbV
  generalize F[n] = es at *
  generalize F.length = L at *
  have HE := Lib.hid hE
  clear hE hF
  unfold maxLen at hl2
  have n0 : (n : Int) < L := by omega
  generalize hN : es.length = N at *
  have HN := Lib.hid hN
  clear hN
  go_enter Try.func21, Try.ntmps21
  go_wp2_with fail
  go_loopg [4, 5, 6, 12] N (fun gg _ _ _ s12 wr => ∃ kk : Nat, kk ≤ N ∧ N - kk ≤ gg ∧ s12 = .int .i64 kk ∧ Hid (Below w.heap.size w wr) ∧ Hid (∀ i (h : i < es.length), i < kk → goodAt L n es i h))
  case atStart => exact ⟨0, Nat.zero_le _, by omega, rfl, Below.refl _ _, fun j _ hj => absurd hj (Nat.not_lt_zero _)⟩
  case round =>
    obtain ⟨kk, hkk, hg, rfl, BW, AF⟩ := hrel
    by_cases hlt : kk < N
    · obtain ⟨bd, rfl, hat, hok⟩ := (HE.out.stays BW.out) kk (by rw [HN.out]; exact hlt)
      have hk' : kk < es.length := by rw [HN.out]; exact hlt
      have hh : goodAt L n es kk hk' ↔ entB L n es[kk] = true ∧ meets (es.take kk) es[kk] = false := Iff.rfl
      have hEnts : Hid (Ents wr (some bd) (es.take kk)) := by
        intro j hj
        have hj' : j < kk := by rw [List.length_take] at hj; omega
        have := (HE.out.stays BW.out) j (by omega)
        rw [List.getElem_take]
        exact this
      have hlen : Hid ((es.take kk).length = kk) := by
        show _ = _
        rw [List.length_take]; omega
      have hgood : Hid (∀ e ∈ es.take kk, e.Ok ∧ Win e.a e.s) := by
        intro e he
        obtain ⟨j, hj, rfl⟩ := List.getElem_of_mem he
        have hj' : j < kk := by rw [List.length_take] at hj; omega
        rw [List.getElem_take]
        obtain ⟨_, _, _, ok⟩ := (HE.out.stays BW.out) j (by omega)
        refine ⟨ok, (winB_iff ok.ua ok.us).1 ?_⟩
        have := (AF.out j (by omega) hj').1
        unfold entB at this
        rw [Bool.and_eq_true] at this
        exact this.1
      have HG := Lib.hid hh
      clear hh
      have hEq : es[kk]'(by rw [HN.out]; exact hlt) = es[kk] := rfl
      generalize hys : es[kk] = y at hat hok HG hEq
      clear hEq
      have hoky := Lib.hid hok
      obtain ⟨ya, ys, yy, yd, yb⟩ := y
      have hat0 := Lib.hid hat
      obtain ⟨f0, f1, f2, f3, f4⟩ := hat
      obtain ⟨u1, u2, u3, u4⟩ := hok
      simp only at f0 f1 f2 f3 f4 u1 u2 u3 u4
      have K1 := Lib.hid (fun W => bwhole_any ya ys u1 u2 W)
      have K2 := Lib.hid (fun W => bwhole_any yb ys u4 u2 W)
      have hW1 : Hid (winB ya ys = true → Win ya ys) := (winB_iff u1 u2).1
      have US := Lib.hid u2
      have hent : entB L n ⟨ya, ys, yy, yd, yb⟩ = (winB ya ys && ((!yy || (winB yb ys && (decide ((n : Int) < yd) && decide (yd < (L : Int))))) && decide (0 ≤ yd))) := rfl
      generalize winB ya ys = b1 at *
      generalize winB yb ys = b2 at *
      have HEN := Lib.hid hent
      clear hent u1 u2 u4
      obtain ⟨u31, u32⟩ := u3
      have wz0 : wr.heap.size ≤ wr.heap.size := Nat.le_refl _
      have bad : Hid (entB L n ⟨ya, ys, yy, yd, yb⟩ = false → busB L n es = false) := by
        intro h0
        refine busB_bad kk hk' fun hg => ?_
        have := (HG.out.1 hg).1
        rw [h0] at this
        cases this
      cases b1
      · have hbad := Lib.hid (bad.out (by rw [HEN.out]; rfl))
        clear bad HEN HG K2
        go_wp2_with fail
        refine (K1.out _).mono ?_
        rintro e w1 ⟨rfl, g1⟩
        have G1 := Lib.hid g1
        clear g1
        go_wp2_with fail
        go_ret
        exact ⟨by rw [hbad.out]; rfl, bwg (bw_alloc BW.out _) G1.out⟩
      have step1 : ∀ w1, Gr (wr.alloc (.cells #[.int .u64 ya, .int .u64 ys, .bool yy, .int .i64 yd, .int .u64 yb] 48)) w1 →
          w1.cell? ⟨wr.heap.size, 0, none⟩ = some (.int .u64 ya) ∧ w1.cell? ⟨wr.heap.size, 1, none⟩ = some (.int .u64 ys) ∧ w1.cell? ⟨wr.heap.size, 2, none⟩ = some (.bool yy) ∧
          w1.cell? ⟨wr.heap.size, 3, none⟩ = some (.int .i64 yd) ∧ w1.cell? ⟨wr.heap.size, 4, none⟩ = some (.int .u64 yb) ∧ w1.cell? (ad.add n) = some (.slice (some bd) N c1) := by
        intro w1 g1
        have hb := g1.below
        have l1 : (ad.add n).block < wr.heap.size := by
          have := World.block_lt_of_cell? _ _ hc
          have := BW.out.size
          omega
        refine ⟨(hb.cell (by simp)).trans (by simp), (hb.cell (by simp)).trans (by simp), (hb.cell (by simp)).trans (by simp), (hb.cell (by simp)).trans (by simp), (hb.cell (by simp)).trans (by simp), ?_⟩
        exact ((bw_trans (bw_alloc BW.out _) hb).cell (World.block_lt_of_cell? _ _ hc)).trans hc
      have S1 := Lib.hid step1
      clear step1
      cases yy
      · by_cases hd : 0 ≤ yd
        · have hgd := HEN.out
          have HEN2 : Hid (entB L n ⟨ya, ys, false, yd, yb⟩ = true) := by rw [hgd, decide_eq_true hd]; exact rfl
          clear hgd HEN bad
          go_wp2_with fail
          refine (K1.out _).mono ?_
          rintro e wz ⟨rfl, g1⟩
          obtain ⟨q0, q1, q2, q3, q4, q5⟩ := S1.out _ g1
          have GZ := Lib.hid g1
          clear g1
          go_wp2_with fail
          have hwin := hW1.out (by first | trivial | rfl)
          have K3 := contains_any 31 #[.pointer (some ⟨wr.heap.size, 0, none⟩)] (fun e => e.Ok ∧ Win e.a e.s) (fun e => meetV e.a e.s ya ys) _
            (right_tells wz wr.heap.size ⟨ya, ys, false, yd, yb⟩ hwin US.out ⟨q0, q1, q2, q3, q4⟩) (enters_of Try.func31 (by kernel_rfl) rfl) (some bd) kk c1 (es.take kk) hlen.out (by unfold maxLen; omega) (hEnts.out.stays (bw_trans (bw_alloc (Below.refl _ _) _) (GZ.out.below))) hgood.out
          have hany : (es.take kk).any (fun e => meetV e.a e.s ya ys) = meets (es.take kk) ⟨ya, ys, false, yd, yb⟩ := rfl
          rw [hany] at K3
          clear hany
          have HM : Hid (meets (es.take kk) ⟨ya, ys, false, yd, yb⟩ = meets (es.take kk) ⟨ya, ys, false, yd, yb⟩) := Lib.hid rfl
          revert HM
          generalize hr : meets (es.take kk) ⟨ya, ys, false, yd, yb⟩ = r at K3 HG
          intro HM
          clear HM
          have HR := Lib.hid hr
          clear hr hwin
          refine K3.mono ?_
          rintro e w3 ⟨rfl, g3⟩
          have e5 := (g3.below.cell (World.block_lt_of_cell? _ _ q5)).trans q5
          have GF := Lib.hid g3
          clear g3 K3
          cases r
          · go_wp2_with fail
            go_roundg (N - (kk + 1))
            case measure => omega
            case rel =>
              refine ⟨kk + 1, by omega, by omega, by go_num, bwg (bwg (bw_alloc BW.out _) GZ.out) GF.out, (show Hid _ from fun j hj hjk => ?_)⟩
              by_cases e : j = kk
              · subst e
                exact HG.out.2 ⟨HEN2.out, by first | trivial | rfl⟩
              · exact AF.out j hj (by omega)
          · have hbad : Hid (busB L n es = false) := busB_bad kk hk' fun hg => by
              have := (HG.out.1 hg).2
              cases this
            go_wp2_with fail
            go_ret
            exact ⟨by rw [hbad.out]; rfl, bwg (bwg (bw_alloc BW.out _) GZ.out) GF.out⟩
        · have hbad := Lib.hid (bad.out (by rw [HEN.out, decide_eq_false hd]; rfl))
          have hd' : yd < 0 := by omega
          clear bad HEN HG K2
          go_wp2_with fail
          refine (K1.out _).mono ?_
          rintro e w1 ⟨rfl, g1⟩
          obtain ⟨q0, q1, q2, q3, q4, q5⟩ := S1.out _ g1
          have G1 := Lib.hid g1
          clear g1
          go_wp2_with fail
          go_ret
          exact ⟨by rw [hbad.out]; rfl, bwg (bw_alloc BW.out _) G1.out⟩
      cases b2
      · have hbad := Lib.hid (bad.out (by rw [HEN.out]; rfl))
        clear bad HEN HG
        go_wp2_with fail
        refine (K1.out _).mono ?_
        rintro e w1 ⟨rfl, g1⟩
        obtain ⟨q0, q1, q2, q3, q4, q5⟩ := S1.out _ g1
        have G1 := Lib.hid g1
        clear g1
        go_wp2_with fail
        refine (K2.out _).mono ?_
        rintro e wz ⟨rfl, g2⟩
        have GZ := Lib.hid (G1.out.trans g2)
        clear g2 G1 q0 q1 q2 q3 q4 q5
        obtain ⟨q0, q1, q2, q3, q4, q5⟩ := S1.out _ GZ.out
        go_wp2_with fail
        go_ret
        exact ⟨by rw [hbad.out]; rfl, bwg (bw_alloc BW.out _) GZ.out⟩
      by_cases hd1 : (n : Int) < yd
      · by_cases hd2 : yd < (L : Int)
        · have hgd := HEN.out
          have hd0 : 0 ≤ yd := by omega
          have HEN2 : Hid (entB L n ⟨ya, ys, true, yd, yb⟩ = true) := by rw [hgd, decide_eq_true hd1, decide_eq_true hd2, decide_eq_true hd0]; exact rfl
          clear hgd HEN bad
          go_wp2_with fail
          refine (K1.out _).mono ?_
          rintro e w1 ⟨rfl, g1⟩
          obtain ⟨q0, q1, q2, q3, q4, q5⟩ := S1.out _ g1
          have G1 := Lib.hid g1
          clear g1
          go_wp2_with fail
          refine (K2.out _).mono ?_
          rintro e wz ⟨rfl, g2⟩
          have GZ := Lib.hid (G1.out.trans g2)
          clear g2 G1 q0 q1 q2 q3 q4 q5
          obtain ⟨q0, q1, q2, q3, q4, q5⟩ := S1.out _ GZ.out
          go_wp2_with fail
          have hwin := hW1.out (by first | trivial | rfl)
          have K3 := contains_any 31 #[.pointer (some ⟨wr.heap.size, 0, none⟩)] (fun e => e.Ok ∧ Win e.a e.s) (fun e => meetV e.a e.s ya ys) _
            (right_tells wz wr.heap.size ⟨ya, ys, true, yd, yb⟩ hwin US.out ⟨q0, q1, q2, q3, q4⟩) (enters_of Try.func31 (by kernel_rfl) rfl) (some bd) kk c1 (es.take kk) hlen.out (by unfold maxLen; omega) (hEnts.out.stays (bw_trans (bw_alloc (Below.refl _ _) _) (GZ.out.below))) hgood.out
          have hany : (es.take kk).any (fun e => meetV e.a e.s ya ys) = meets (es.take kk) ⟨ya, ys, true, yd, yb⟩ := rfl
          rw [hany] at K3
          clear hany
          have HM : Hid (meets (es.take kk) ⟨ya, ys, true, yd, yb⟩ = meets (es.take kk) ⟨ya, ys, true, yd, yb⟩) := Lib.hid rfl
          revert HM
          generalize hr : meets (es.take kk) ⟨ya, ys, true, yd, yb⟩ = r at K3 HG
          intro HM
          clear HM
          have HR := Lib.hid hr
          clear hr hwin
          refine K3.mono ?_
          rintro e w3 ⟨rfl, g3⟩
          have e5 := (g3.below.cell (World.block_lt_of_cell? _ _ q5)).trans q5
          have GF := Lib.hid g3
          clear g3 K3
          cases r
          · go_wp2_with fail
            go_roundg (N - (kk + 1))
            case measure => omega
            case rel =>
              refine ⟨kk + 1, by omega, by omega, by go_num, bwg (bwg (bw_alloc BW.out _) GZ.out) GF.out, (show Hid _ from fun j hj hjk => ?_)⟩
              by_cases e : j = kk
              · subst e
                exact HG.out.2 ⟨HEN2.out, by first | trivial | rfl⟩
              · exact AF.out j hj (by omega)
          · have hbad : Hid (busB L n es = false) := busB_bad kk hk' fun hg => by
              have := (HG.out.1 hg).2
              cases this
            go_wp2_with fail
            go_ret
            exact ⟨by rw [hbad.out]; rfl, bwg (bwg (bw_alloc BW.out _) GZ.out) GF.out⟩
        · have hbad := Lib.hid (bad.out (by rw [HEN.out, decide_eq_false hd2]; simp))
          clear bad HEN HG
          go_wp2_with fail
          refine (K1.out _).mono ?_
          rintro e w1 ⟨rfl, g1⟩
          obtain ⟨q0, q1, q2, q3, q4, q5⟩ := S1.out _ g1
          have G1 := Lib.hid g1
          clear g1
          go_wp2_with fail
          refine (K2.out _).mono ?_
          rintro e wz ⟨rfl, g2⟩
          have GZ := Lib.hid (G1.out.trans g2)
          clear g2 G1 q0 q1 q2 q3 q4 q5
          obtain ⟨q0, q1, q2, q3, q4, q5⟩ := S1.out _ GZ.out
          go_wp2_with fail
          go_ret
          exact ⟨by rw [hbad.out]; rfl, bwg (bw_alloc BW.out _) GZ.out⟩
      · have hbad := Lib.hid (bad.out (by rw [HEN.out, decide_eq_false hd1]; simp))
        clear bad HEN HG
        go_wp2_with fail
        refine (K1.out _).mono ?_
        rintro e w1 ⟨rfl, g1⟩
        obtain ⟨q0, q1, q2, q3, q4, q5⟩ := S1.out _ g1
        have G1 := Lib.hid g1
        clear g1
        go_wp2_with fail
        refine (K2.out _).mono ?_
        rintro e wz ⟨rfl, g2⟩
        have GZ := Lib.hid (G1.out.trans g2)
        clear g2 G1 q0 q1 q2 q3 q4 q5
        obtain ⟨q0, q1, q2, q3, q4, q5⟩ := S1.out _ GZ.out
        go_wp2_with fail
        go_ret
        exact ⟨by rw [hbad.out]; rfl, bwg (bw_alloc BW.out _) GZ.out⟩
    · have hall : Hid (busB L n es = true) := (busB_iff L n es).2 fun i hi => AF.out i hi (by have := HN.out; omega)
      have e5 := (BW.out.cell (World.block_lt_of_cell? _ _ hc)).trans hc
      go_wp2_with fail
      go_ret
      exact ⟨by rw [hall.out]; rfl, BW.out⟩
end Go.Proofs.Ytlamkhmbjkjbdaa
