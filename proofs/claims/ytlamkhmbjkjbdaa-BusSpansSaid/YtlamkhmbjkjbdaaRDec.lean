/- The contract of the reference's Decode (layer 21). Conditions: right buses of entries of 64-bit numbers; a width that may be. -/
import Derived.Test.YtlamkhmbjkjbdaaRRight
namespace Go.Proofs.Ytlamkhmbjkjbdaa
open Go.RowKit Go.Sort
set_option linter.unusedVariables false
theorem rightB_apart' {F : Fb} (h : rightB F = true) {n : Nat} (hn : n < F.length) {i j : Nat} (hj : j < F[n].length) (hij : i < j) : meetV (F[n][i]'(by omega)).a (F[n][i]'(by omega)).s F[n][j].a F[n][j].s = false := by
  have := ((rightB_iff F).1 h).2.2 n hn
  unfold rbV at this
  rw [Bool.and_eq_true] at this
  have h2 := ((busB_iff _ _ _).1 this.1 j hj).2
  have h3 := meets_false.1 h2 i (by rw [List.length_take]; omega)
  rw [List.getElem_take] at h3
  exact h3
/-- In right buses not more than one entry holds some bytes. -/
theorem one_holds {F : Fb} (h : rightB F = true) {n : Nat} (hn : n < F.length) {w t : Int} (hw : 0 < w) {i j : Nat} (hj : j < F[n].length) (hij : i < j)
    (h1 : insideV (F[n][i]'(by omega)).a (F[n][i]'(by omega)).s t w = true) : insideV F[n][j].a F[n][j].s t w = false := by
  cases hq : insideV F[n][j].a F[n][j].s t w
  · rfl
  · have hap := rightB_apart' h hn hj hij
    obtain ⟨a1, a2, a3⟩ := insideV_facts hw h1
    obtain ⟨b1, b2, b3⟩ := insideV_facts hw hq
    unfold meetV at hap
    rw [Bool.and_eq_false_iff] at hap
    simp only [decide_eq_false_iff_not] at hap
    omega
def OneHolds (es : List En) (t w : Int) : Prop := ∀ i j (hj : j < es.length) (hij : i < j), insideV (es[i]'(by omega)).a (es[i]'(by omega)).s t w = true → insideV es[j].a es[j].s t w = false
/-- What the reference's Decode hands back. -/
def rhit : Option (Int × Int × Int) → Ending
  | none => .returned (.tuple #[.int .i64 0, .int .u64 0, .int .i64 0, .bool false])
  | some (d, o, h) => .returned (.tuple #[.int .i64 d, .int .u64 o, .int .i64 h, .bool true])
set_option maxHeartbeats 3200000 in
theorem rdecode_any (A : Option Addr) (c : Nat) (F : Fb) (hL : F.length ≤ maxLen) (t0 wd : Int) (ht : U t0) (hw : 0 < wd ∧ wd ≤ 8) (w : World) (hF : Fab w A F) (hr : rightB F = true) :
    Calls Try.prog 12 #[.slice A F.length c, .int .u64 t0, .int .i64 wd] w fun e w' => e = rhit (dec F wd F.length 0 t0 0) ∧ Below w.heap.size w w' := by
  have HF := Lib.hid hF
  have HR := Lib.hid hr
  have hq := (rightB_iff F).1 hr
  have HW := Lib.hid hw
  obtain ⟨L, hLL⟩ : ∃ L, L = F.length := ⟨_, rfl⟩
  have HL := Lib.hid hLL
  rw [← hLL] at hL ⊢
  have q1 : 1 ≤ L := by omega
  have q2 : L ≤ 256 := by omega
  obtain ⟨ht0, ht1⟩ := ht
  have hwn : IntKind.u64.wrap wd = wd := IntWalk.u64_in wd (by omega)
  obtain ⟨w0, w1⟩ := hw
  clear hF hr hq hLL
  go_enter Try.func12, Try.ntmps12
  go_wp2_with fail
  go_loopg [1, 6, 7, 8, 9, 10, 11, 12, 13, 14] L (fun gg s1 _ _ _ _ s10 s11 _ _ _ wr => ∃ (n h : Nat) (t : Int), n < L ∧ h ≤ n ∧ 0 ≤ t ∧ t < 18446744073709551616 ∧ L - n ≤ gg ∧ s1 = .int .u64 t ∧ s10 = .int .i64 n ∧ s11 = .int .i64 h ∧ Hid (Below w.heap.size w wr) ∧ Hid (dec F wd gg n t h = dec F wd F.length 0 t0 0))
  case atStart => exact ⟨0, 0, t0, by omega, by omega, ht0, ht1, by omega, rfl, rfl, rfl, Below.refl _ _, (by show dec F wd L 0 t0 0 = _; rw [HL.out])⟩
  case round =>
    obtain ⟨n, h, t, hn, hh, ht0', ht1', hg, rfl, rfl, rfl, BW, HD⟩ := hrel
    have hnF : n < F.length := by rw [← HL.out]; exact hn
    obtain ⟨ad, B, c1, rfl, hc, hl1, hl2, hE⟩ := (HF.out.stays BW.out) n hnF
    obtain ⟨gg, rfl⟩ : ∃ g', gk = g' + 1 := ⟨gk - 1, by omega⟩
    have hget : F[n]? = some F[n] := List.getElem?_eq_getElem hnF
    have hent : ∀ i (hi : i < F[n].length), entB F.length n F[n][i] = true := fun i hi => rightB_ent HR.out hnF hi
    have hone : OneHolds F[n] t wd := fun i j hj hij h1 => one_holds HR.out hnF HW.out.1 hj hij h1
    have hok : ∀ i (hi : i < F[n].length), F[n][i].Ok := fun i hi => by
      obtain ⟨_, _, _, ok⟩ := hE i hi
      exact ok
    have hstep : dec F wd (gg + 1) n t h = match hitE wd t F[n] with
        | none => none
        | some e => if e.y then dec F wd gg e.d.toNat (e.b + (t - e.a)) (h + 1) else some (e.d, t - e.a, (h : Int)) := by
      rw [dec, hget]; rfl
    generalize F[n] = es at hc hl1 hl2 hE hget hent hone hok hstep
    have hcb := World.block_lt_of_cell? _ _ hc
    unfold maxLen at hl2
    obtain ⟨N, hNN⟩ : ∃ N, N = es.length := ⟨_, rfl⟩
    have HNN := Lib.hid hNN
    rw [← hNN] at hc hl1
    have HC1 := Lib.hid hc
    have HE := Lib.hid hE
    have HEN := Lib.hid hent
    have HON := Lib.hid hone
    have HOK := Lib.hid hok
    unfold hitE at hstep
    have HST := Lib.hid hstep
    clear hNN hE hent hone hok hstep hget
    have n0 : (0 : Int) ≤ n := by omega
    have n1 : (n : Int) < L := by omega
    go_wp2_with fail
    obtain ⟨wo, rfl⟩ : ∃ wo : World, wo = wr := ⟨_, rfl⟩
    go_loopg [12, 13, 20] N (fun gg s12 _ s20 wr => ∃ (k : Nat) (r : Int), k ≤ N ∧ N - k ≤ gg ∧ s20 = .int .i64 k ∧ s12 = .int .i64 r ∧ -1 ≤ r ∧ r < k ∧ Hid (Below wo.heap.size wo wr) ∧
      Hid ((r = -1 → ∀ j (h : j < es.length), j < k → insideV es[j].a es[j].s t wd = false) ∧ (∀ j (h : j < es.length), r = (j : Int) → insideV es[j].a es[j].s t wd = true)))
    case atStart => exact ⟨0, -1, Nat.zero_le _, by omega, rfl, rfl, by omega, by omega, Below.refl _ _, fun _ j _ hj => absurd hj (Nat.not_lt_zero _), fun j _ h => by omega⟩
    case round =>
      obtain ⟨k, r, hk, hg2, rfl, rfl, r0, r1, BI, AR⟩ := hrel
      by_cases hkl : k < N
      · have hkE : k < es.length := by rw [← HNN.out]; exact hkl
        obtain ⟨bd, rfl, hat, hok⟩ := (HE.out.stays BI.out) k hkE
        have hwn2 := (entB_facts hok (HEN.out k hkE)).1
        have hstepT : Hid (insideV es[k].a es[k].s t wd = true → ((k : Int) = -1 → ∀ j (h : j < es.length), j < k + 1 → insideV es[j].a es[j].s t wd = false) ∧ (∀ j (h : j < es.length), (k : Int) = (j : Int) → insideV es[j].a es[j].s t wd = true)) := fun h0 =>
          ⟨fun h => by omega, fun j hj e => by obtain rfl : k = j := by omega
                                               exact h0⟩
        have hstepF : Hid (insideV es[k].a es[k].s t wd = false → ((r : Int) = -1 → ∀ j (h : j < es.length), j < k + 1 → insideV es[j].a es[j].s t wd = false) ∧ (∀ j (h : j < es.length), r = (j : Int) → insideV es[j].a es[j].s t wd = true)) := fun h0 =>
          ⟨fun h j hj hj2 => by
            by_cases e : j = k
            · subst e; exact h0
            · exact AR.out.1 h j hj (by omega), AR.out.2⟩
        generalize es[k] = y at hat hok hwn2 hstepT hstepF
        obtain ⟨ya, ys, yy, yd, yb⟩ := y
        obtain ⟨x0, x1, x2, x3, x4⟩ := hat
        have KM := Lib.hid (fun W => rinside_any ya ys t wd hwn2 hok.us ⟨ht0', ht1'⟩ ⟨by omega, by omega⟩ HW.out.1 W)
        simp only at KM x0 x1 x2 x3 x4 hstepT hstepF
        generalize insideV ya ys t wd = b at KM hstepT hstepF
        have hc3 := (BI.out.cell hcb).trans HC1.out
        clear hok hwn2
        have kk0 : (0 : Int) ≤ k := by omega
        have kk1 : (k : Int) < N := by omega
        have q2 := fun m os => cg hc3 m os
        have q3 := fun m os => cg x0 m os
        have q4 := fun m os => cg x1 m os
        have mixed : Try.prog.follows .mixedOrders = true := by kernel_rfl
        clear x0 x1 x2 x3 x4 hc3
        go_wp2_with fail
        go_quiet_grown (first | (go_at_call 22; exact Calls.grown_of (KM.out _)))
        have BF : Hid (RowKit.Below wo.heap.size wo (grow (wr.drewN nq) osq)) := bw_trans BI.out (Gr.below ⟨nq, osq, rfl⟩)
        cases b
        · go_wp2_with fail
          go_roundg (N - (k + 1))
          case measure => omega
          case rel => exact ⟨k + 1, r, by omega, by omega, by go_num, rfl, r0, by omega, BF, hstepF.out (by first | trivial | rfl)⟩
        · go_wp2_with fail
          go_roundg (N - (k + 1))
          case measure => omega
          case rel => exact ⟨k + 1, k, by omega, by omega, by go_num, rfl, by omega, by omega, BF, hstepT.out (by first | trivial | rfl)⟩
      · obtain rfl : k = N := by omega
        have hc3 := (BI.out.cell hcb).trans HC1.out
        by_cases hneg : r < 0
        · obtain rfl : r = -1 := by omega
          have hidx : idx (fun e => insideV e.a e.s t wd) es = -1 := idx_miss _ _ fun j hj => AR.out.1 rfl j hj (by have := HNN.out; omega)
          have hres : Hid (dec F wd F.length 0 t0 0 = none) := by
            show _ = _
            rw [← HD.out, HST.out, hidx, if_pos (by omega)]
          clear hidx
          go_wp2_with fail
          refine bodyPost_ret (v := .tuple #[.int .i64 0, .int .u64 0, .int .i64 0, .bool false]) (by simp [results, Try.results12, go_sem]) rfl ⟨?_, bw_trans BW.out BI.out⟩
          rw [HL.out, hres.out]; rfl
        · obtain ⟨j, rfl⟩ : ∃ j : Nat, r = j := ⟨r.toNat, by omega⟩
          have hjE : j < es.length := by have := HNN.out; omega
          have hins := AR.out.2 j hjE rfl
          have hidx : idx (fun e => insideV e.a e.s t wd) es = j := idx_hit _ _ j hjE hins fun i hi => by
            cases hq : insideV (es[i]'(by omega)).a (es[i]'(by omega)).s t wd
            · rfl
            · have := HON.out i j hjE hi hq
              rw [hins] at this
              cases this
          have hke := HEN.out j hjE
          have hko := HOK.out j hjE
          obtain ⟨bd, rfl, hat, _⟩ := (HE.out.stays BI.out) j hjE
          have hres : dec F wd F.length 0 t0 0 = if es[j].y then dec F wd gg es[j].d.toNat (es[j].b + (t - es[j].a)) (h + 1) else some (es[j].d, t - es[j].a, (h : Int)) := by
            rw [← HD.out, HST.out, hidx, if_neg (by omega), Int.toNat_natCast, List.getElem?_eq_getElem hjE]
          clear hidx
          generalize es[j] = e at hins hke hko hat hres
          obtain ⟨win, hd0, hbr⟩ := entB_facts hko hke
          obtain ⟨i1, i2, i3⟩ := insideV_facts HW.out.1 hins
          obtain ⟨ea, es', ey, ed, eb⟩ := e
          obtain ⟨u1, u2, u3, u4⟩ := hko
          obtain ⟨m0, m1, m2, m3, m4⟩ := hat
          simp only at u1 u2 u3 u4 hd0 hbr i1 i2 hres win m0 m1 m2 m3 m4
          have j1 : 0 ≤ t - ea := by omega
          have wx := win.x0
          have we := win.end_
          have ws := win.s0
          have j2 : t - ea < es' := by omega
          have HRS := Lib.hid hres
          have HBR := Lib.hid hbr
          obtain ⟨u31, u32⟩ := u3
          have jj0 : (0 : Int) ≤ j := by omega
          have jj1 : (j : Int) < k := by omega
          clear HST HEN HOK HON hneg hke hins hres hbr i2 i3 win u1 u2 u4
          cases ey
          · have hr2 := HRS.out
            rw [if_neg (by decide)] at hr2
            have HR2 := Lib.hid hr2
            clear hr2 HRS HBR
            go_wp2_with fail
            refine bodyPost_ret (v := .tuple #[.int .i64 ed, .int .u64 (t - ea), .int .i64 h, .bool true]) (by simp [results, Try.results12, go_sem]) rfl ⟨?_, bw_alloc (bw_trans BW.out BI.out) _⟩
            rw [HL.out, HR2.out]; rfl
          · have hr2 := HRS.out
            rw [if_pos (by rfl)] at hr2
            have HR2 := Lib.hid hr2
            obtain ⟨wb, hlt, hlt2⟩ := HBR.out rfl
            obtain ⟨d, rfl⟩ : ∃ d : Nat, ed = d := ⟨ed.toNat, by omega⟩
            have wb0 := wb.x0
            have wb1 := wb.end_
            clear hr2 HRS HBR wb
            rw [← HL.out] at hlt2
            have j3 : t - ea + eb < 18446744073709551616 := by omega
            have j4 : 0 ≤ t - ea + eb := by omega
            go_wp2_with fail
            go_roundg gg
            case measure => omega
            case rel =>
              refine ⟨d, h + 1, t - ea + eb, by omega, by omega, j4, j3, by omega, rfl, rfl, by go_num, bw_alloc (bw_trans BW.out BI.out) _, ?_⟩
              show _ = _
              rw [HR2.out, Int.toNat_natCast, Int.add_comm]
              rfl
end Go.Proofs.Ytlamkhmbjkjbdaa
