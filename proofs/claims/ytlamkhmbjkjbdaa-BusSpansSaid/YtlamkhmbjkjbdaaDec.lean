/- The contracts of bus.Right and bus.Decode (layer 21). Conditions: buses of entries of 64-bit numbers. -/
import Derived.Test.YtlamkhmbjkjbdaaFab
namespace Go.Proofs.Ytlamkhmbjkjbdaa
open Go.RowKit Go.Sort
set_option linter.unusedVariables false
/-- May buses be? -/
def rightB (F : Fb) : Bool := decide (1 ≤ F.length) && (decide (F.length ≤ 256) && (List.range F.length).all fun n => (F[n]?.map fun es => rbV F.length n es).getD true)
theorem rightB_iff (F : Fb) : rightB F = true ↔ (1 ≤ F.length ∧ F.length ≤ 256 ∧ ∀ n (h : n < F.length), rbV F.length n F[n] = true) := by
  unfold rightB
  simp only [Bool.and_eq_true, decide_eq_true_eq, List.all_eq_true, List.mem_range]
  constructor
  · rintro ⟨a, b, c⟩
    refine ⟨a, b, fun n h => ?_⟩
    have := c n h
    rw [List.getElem?_eq_getElem h] at this
    simpa using this
  · rintro ⟨a, b, c⟩
    refine ⟨a, b, fun n h => ?_⟩
    rw [List.getElem?_eq_getElem h]
    simpa using c n h
theorem rightB_bad {F : Fb} (h : ¬ (1 ≤ F.length ∧ F.length ≤ 256 ∧ ∀ n (h : n < F.length), rbV F.length n F[n] = true)) : rightB F = false := by
  cases hq : rightB F
  · rfl
  · exact absurd ((rightB_iff F).1 hq) h
set_option maxHeartbeats 800000 in
theorem right_any (A : Option Addr) (c : Nat) (F : Fb) (hL : F.length ≤ maxLen) (w : World) (hF : Fab w A F) :
    Calls Try.prog 11 #[.slice A F.length c] w fun e w' => e = .returned (.bool (rightB F)) ∧ Below w.heap.size w w' := by
  unfold maxLen at hL
  by_cases h1 : F.length < 1
  · rw [rightB_bad (by omega)]
    clear hF
    generalize F.length = L at *
    obtain rfl : L = 0 := by omega
    go_enter Try.func11, Try.ntmps11
    go_wp2_with fail
    go_ret
    exact ⟨rfl, Below.refl _ _⟩
  by_cases h2 : 256 < F.length
  · rw [rightB_bad (by omega)]
    clear hF
    generalize F.length = L at *
    have h1' : ¬ (L : Int) < 1 := by omega
    have h2' : (256 : Int) < L := by omega
    go_enter Try.func11, Try.ntmps11
    go_wp2_with fail
    go_ret
    exact ⟨rfl, Below.refl _ _⟩
  have HF := Lib.hid hF
  have K := fun n h W hW => Lib.hid (rightBus_any A c F n h (by omega) W hW)
  have HB := Lib.hid (rightB_iff F)
  have HC := Lib.hid (@rightB_bad F)
  clear hF
  have hx : ∃ N, N = F.length := ⟨_, rfl⟩
  obtain ⟨N, hN⟩ := hx
  have HN := Lib.hid hN
  rw [← hN] at h1 h2 hL ⊢
  have HK : Hid (∀ n (h : n < F.length) W, Fab W A F → Calls Try.prog 21 #[.slice A N c, .int .i64 n] W fun e w' => e = .returned (.bool (rbV F.length n F[n])) ∧ Below W.heap.size W w') := by
    intro n h W hW
    rw [HN.out]
    exact (K n h W hW).out
  clear K hN
  have h1' : ¬ (N : Int) < 1 := by omega
  have h2' : ¬ (256 : Int) < N := by omega
  go_enter Try.func11, Try.ntmps11
  go_wp2_with fail
  go_loopg [2, 3, 14] N (fun gg _ _ s14 wr => ∃ kk : Nat, kk ≤ N ∧ N - kk ≤ gg ∧ s14 = .int .i64 kk ∧ Hid (Below w.heap.size w wr) ∧ Hid (∀ n (h : n < F.length), n < kk → rbV F.length n F[n] = true))
  case atStart => exact ⟨0, Nat.zero_le _, by omega, rfl, Below.refl _ _, fun j _ hj => absurd hj (Nat.not_lt_zero _)⟩
  case round =>
    obtain ⟨kk, hkk, hg, rfl, BW, AF⟩ := hrel
    by_cases hlt : kk < N
    · have hk' : kk < F.length := by rw [← HN.out]; exact hlt
      have K := HK.out kk hk' wr (HF.out.stays BW.out)
      generalize hr : rbV F.length kk F[kk] = r at K
      have HR := Lib.hid hr
      clear hr
      go_wp2_with fail
      refine K.mono ?_
      rintro e w1 ⟨rfl, g1⟩
      have G1 := Lib.hid g1
      clear g1 K
      cases r
      · go_wp2_with fail
        go_ret
        exact ⟨by rw [HC.out (fun h => by have := h.2.2 kk hk'; rw [HR.out] at this; cases this)]; rfl, bw_trans BW.out G1.out⟩
      · go_wp2_with fail
        go_roundg (N - (kk + 1))
        case measure => omega
        case rel =>
          refine ⟨kk + 1, by omega, by omega, by go_num, bw_trans BW.out G1.out, (show Hid _ from fun j hj hjk => ?_)⟩
          by_cases e : j = kk
          · subst e
            exact HR.out
          · exact AF.out j hj (by omega)
    · go_wp2_with fail
      go_ret
      exact ⟨by rw [HB.out.2 ⟨by have := HN.out; omega, by have := HN.out; omega, fun n h => AF.out n h (by have := HN.out; omega)⟩]; rfl, BW.out⟩
/-- The entry that holds w bytes from t on: the first one. -/
def hitE (w t : Int) (es : List En) : Option En := if idx (fun e => insideV e.a e.s t w) es < 0 then none else es[(idx (fun e => insideV e.a e.s t w) es).toNat]?
/-- To what an access comes, in so many steps at most. -/
def dec (F : Fb) (w : Int) : Nat → Nat → Int → Int → Option (Int × Int × Int)
  | 0, _, _, _ => none
  | f + 1, n, t, h => match F[n]?.bind (hitE w t) with
    | none => none
    | some e => if e.y then dec F w f e.d.toNat (e.b + (t - e.a)) (h + 1) else some (e.d, t - e.a, h)
theorem idx_spec {α : Type} (p : α → Bool) (l : List α) (k : Nat) (h : idx p l = k) : ∃ hk : k < l.length, p l[k] = true := by
  induction l generalizing k with
  | nil => simp [idx] at h
  | cons x xs ih =>
    unfold idx at h
    split at h
    · rename_i hx
      obtain rfl : k = 0 := by omega
      exact ⟨by simp, by simpa using hx⟩
    · split at h
      · exact absurd h (by omega)
      · obtain ⟨j, rfl⟩ : ∃ j, k = j + 1 := ⟨k - 1, by omega⟩
        obtain ⟨hk, hp⟩ := ih j (by omega)
        exact ⟨by simpa using hk, by simpa using hp⟩
theorem entB_facts {L n : Int} {e : En} (o : e.Ok) (h : entB L n e = true) : Win e.a e.s ∧ 0 ≤ e.d ∧ (e.y = true → Win e.b e.s ∧ n < e.d ∧ e.d < L) := by
  unfold entB at h
  simp only [Bool.and_eq_true, Bool.or_eq_true, decide_eq_true_eq, Bool.not_eq_true'] at h
  obtain ⟨h1, h2, h3⟩ := h
  refine ⟨(winB_iff o.ua o.us).1 h1, h3, fun hy => ?_⟩
  rcases h2 with h2 | ⟨h2, h4, h5⟩
  · rw [hy] at h2; cases h2
  · exact ⟨(winB_iff o.ub o.us).1 h2, h4, h5⟩
theorem rightB_ent {F : Fb} (h : rightB F = true) {n : Nat} (hn : n < F.length) {i : Nat} (hi : i < F[n].length) : entB F.length n F[n][i] = true := by
  have := ((rightB_iff F).1 h).2.2 n hn
  unfold rbV at this
  rw [Bool.and_eq_true] at this
  exact ((busB_iff _ _ _).1 this.1 i hi).1
theorem insideV_facts {x s p n : Int} (hn : 0 < n) (h : insideV x s p n = true) : x ≤ p ∧ p + (n - 1) ≤ x + (s - 1) ∧ p + (n - 1) < 18446744073709551616 := by
  unfold insideV wholeV at h
  simp only [Bool.and_eq_true, Bool.or_eq_true, decide_eq_true_eq, beq_iff_eq] at h
  omega
/-- What Decode hands back. -/
def decRes (F : Fb) (t w : Int) : Value × Int :=
  if rightB F = false then (.agg #[.int .i64 0, .int .u64 0, .int .i64 0], 1)
  else if w ≠ 1 ∧ w ≠ 2 ∧ w ≠ 4 ∧ w ≠ 8 then (.agg #[.int .i64 0, .int .u64 0, .int .i64 0], 18)
  else match dec F w F.length 0 t 0 with
    | none => (.agg #[.int .i64 0, .int .u64 0, .int .i64 0], 17)
    | some (d, o, h) => (.agg #[.int .i64 d, .int .u64 o, .int .i64 h], 0)
/-- The three variables of Decode: the address, the width, the result. -/
structure Vars (w : World) (H : Nat) (t wd : Int) (r0 r1 r2 : Value) : Prop where
  k0 : Bk w H 23 #[.int .u64 t]
  k1 : Bk w (H + 1) 3 #[.int .i64 wd]
  k2 : Bk w (H + 2) 27 #[r0, r1, r2]
theorem Vars.below {w w1 : World} {H : Nat} {t wd : Int} {r0 r1 r2 : Value} (h : Vars w H t wd r0 r1 r2) (hb : Below w.heap.size w w1) : Vars w1 H t wd r0 r1 r2 := ⟨h.k0.below hb, h.k1.below hb, h.k2.below hb⟩
theorem Vars.start (w : World) (t wd : Int) : Vars (((w.alloc (.cells #[.int .u64 t] 23)).alloc (.cells #[.int .i64 wd] 3)).alloc (.cells #[.int .i64 0, .int .u64 0, .int .i64 0] 27)) w.heap.size t wd (.int .i64 0) (.int .u64 0) (.int .i64 0) :=
  ⟨((Bk.new w _ _).alloc _).alloc _, by have := (Bk.new (w.alloc (.cells #[.int .u64 t] 23)) 3 #[.int .i64 wd]).alloc (.cells #[.int .i64 0, .int .u64 0, .int .i64 0] 27); simpa using this,
   by have := Bk.new ((w.alloc (.cells #[.int .u64 t] 23)).alloc (.cells #[.int .i64 wd] 3)) 27 #[.int .i64 0, .int .u64 0, .int .i64 0]; simpa using this⟩
theorem Vars.facts {w : World} {H : Nat} {t wd : Int} {r0 r1 r2 : Value} (h : Vars w H t wd r0 r1 r2) :
    w.cell? ⟨H, 0, none⟩ = some (.int .u64 t) ∧ w.cell? ⟨H + 1, 0, none⟩ = some (.int .i64 wd) ∧ w.cell? ⟨H + 2, 0, none⟩ = some r0 ∧ w.cell? ⟨H + 2, 1, none⟩ = some r1 ∧ w.cell? ⟨H + 2, 2, none⟩ = some r2 ∧
    w.frozen? ⟨H, 0, none⟩ = false ∧ w.frozen? ⟨H + 2, 0, none⟩ = false ∧ w.frozen? ⟨H + 2, 1, none⟩ = false ∧ w.frozen? ⟨H + 2, 2, none⟩ = false ∧ H + 2 < w.heap.size :=
  ⟨by simpa using h.k0.cell 0, by simpa using h.k1.cell 0, by simpa using h.k2.cell 0, by simpa using h.k2.cell 1, by simpa using h.k2.cell 2, h.k0.free 0, h.k2.free 0, h.k2.free 1, h.k2.free 2, h.k2.lt⟩
theorem Vars.alloc {w : World} {H : Nat} {t wd : Int} {r0 r1 r2 : Value} (h : Vars w H t wd r0 r1 r2) (o : Obj) : Vars (w.alloc o) H t wd r0 r1 r2 := ⟨h.k0.alloc o, h.k1.alloc o, h.k2.alloc o⟩
theorem bk_far {w : World} {g : Nat} {t : TypeId} {cs : Array Value} (h : Bk w g t cs) {p : Addr} (hp : g ≠ p.block) (u : Value) : Bk (w.setCell p u) g t cs := (Below.heap_setCell w p u g hp).trans h
theorem Vars.set3 {w : World} {H : Nat} {t wd : Int} {r0 r1 r2 : Value} (h : Vars w H t wd r0 r1 r2) (s0 s1 s2 : Value) :
    Vars (((w.setCell ⟨H + 1 + 1, 0, none⟩ s0).setCell ⟨H + 1 + 1, 1, none⟩ s1).setCell ⟨H + 1 + 1, 2, none⟩ s2) H t wd s0 s1 s2 := by
  refine ⟨bk_far (bk_far (bk_far h.k0 ?_ _) ?_ _) ?_ _, bk_far (bk_far (bk_far h.k1 ?_ _) ?_ _) ?_ _, ?_⟩
  iterate 6 (show _ ≠ H + 1 + 1; omega)
  exact ((h.k2.set 0 s0).set 1 s1).set 2 s2
theorem Vars.set0 {w : World} {H : Nat} {t wd : Int} {r0 r1 r2 : Value} (h : Vars w H t wd r0 r1 r2) (u : Int) : Vars (w.setCell ⟨H, 0, none⟩ (.int .u64 u)) H u wd r0 r1 r2 := by
  refine ⟨h.k0.set 0 _, bk_far h.k1 ?_ _, bk_far h.k2 ?_ _⟩
  · show H + 1 ≠ H; omega
  · show H + 2 ≠ H; omega
set_option maxHeartbeats 800000 in
theorem decode_wrong (A : Option Addr) (c : Nat) (F : Fb) (hL : F.length ≤ maxLen) (t wd : Int) (w : World) (hF : Fab w A F) (hr : rightB F = false) :
    Calls Try.prog 8 #[.slice A F.length c, .int .u64 t, .int .i64 wd] w fun e w' => e = .returned (.tuple #[.agg #[.int .i64 0, .int .u64 0, .int .i64 0], .int .i64 1]) ∧ Below w.heap.size w w' := by
  have HF := Lib.hid hF
  have K := fun W h => Lib.hid (right_any A c F hL W h)
  rw [hr] at K
  clear hF hr
  generalize F.length = L at *
  go_enter Try.func8, Try.ntmps8
  go_wp2_with fail
  have hb0 := bw_alloc (bw_alloc (bw_alloc (Below.refl w.heap.size w) (.cells #[.int .u64 t] 23)) (.cells #[.int .i64 wd] 3)) (.cells #[.int .i64 0, .int .u64 0, .int .i64 0] 27)
  have v0 := Vars.start w t wd
  refine ((K _ (HF.out.stays hb0)).out).mono ?_
  rintro e w1 ⟨rfl, g1⟩
  have HB := Lib.hid (bw_trans hb0 g1)
  obtain ⟨c0, c1, c2, c3, c4, f0, f2, f3, f4, hz⟩ := (v0.below g1).facts
  clear g1 hb0 v0
  go_wp2_with fail
  refine bodyPost_ret (v := .tuple #[.agg #[.int .i64 0, .int .u64 0, .int .i64 0], .int .i64 1]) (by simp [results, Try.results8, go_sem, c2, c3, c4]) rfl ⟨rfl, ?_⟩
  exact ((HB.out.setCell (by simp; omega) _).setCell (by simp; omega) _).setCell (by simp; omega) _
set_option maxHeartbeats 800000 in
theorem decode_width (A : Option Addr) (c : Nat) (F : Fb) (hL : F.length ≤ maxLen) (t wd : Int) (w : World) (hF : Fab w A F) (hr : rightB F = true) (hw : wd ≠ 1 ∧ wd ≠ 2 ∧ wd ≠ 4 ∧ wd ≠ 8) :
    Calls Try.prog 8 #[.slice A F.length c, .int .u64 t, .int .i64 wd] w fun e w' => e = .returned (.tuple #[.agg #[.int .i64 0, .int .u64 0, .int .i64 0], .int .i64 18]) ∧ Below w.heap.size w w' := by
  have HF := Lib.hid hF
  have K := fun W h => Lib.hid (right_any A c F hL W h)
  rw [hr] at K
  have a1 : (wd != 1) = true := by simp [hw]
  have a2 : (wd != 2) = true := by simp [hw]
  have a3 : (wd != 4) = true := by simp [hw]
  have a4 : (wd != 8) = true := by simp [hw]
  clear hF hr hw
  generalize F.length = L at *
  go_enter Try.func8, Try.ntmps8
  go_wp2_with fail
  have hb0 := bw_alloc (bw_alloc (bw_alloc (Below.refl w.heap.size w) (.cells #[.int .u64 t] 23)) (.cells #[.int .i64 wd] 3)) (.cells #[.int .i64 0, .int .u64 0, .int .i64 0] 27)
  have v0 := Vars.start w t wd
  refine ((K _ (HF.out.stays hb0)).out).mono ?_
  rintro e w1 ⟨rfl, g1⟩
  have HB := Lib.hid (bw_trans hb0 g1)
  obtain ⟨c0, c1, c2, c3, c4, f0, f2, f3, f4, hz⟩ := (v0.below g1).facts
  clear g1 hb0 v0
  go_wp2_with fail
  refine bodyPost_ret (v := .tuple #[.agg #[.int .i64 0, .int .u64 0, .int .i64 0], .int .i64 18]) (by simp [results, Try.results8, go_sem, c2, c3, c4]) rfl ⟨rfl, ?_⟩
  exact ((HB.out.setCell (by simp; omega) _).setCell (by simp; omega) _).setCell (by simp; omega) _
def zeroHit : Value := .agg #[.int .i64 0, .int .u64 0, .int .i64 0]
/-- What the loop of Decode hands back. -/
def hitRes : Option (Int × Int × Int) → Ending
  | none => .returned (.tuple #[.agg #[.int .i64 0, .int .u64 0, .int .i64 0], .int .i64 17])
  | some (d, o, h) => .returned (.tuple #[.agg #[.int .i64 d, .int .u64 o, .int .i64 h], .int .i64 0])
set_option maxHeartbeats 6400000 in
theorem decode_loop (A : Option Addr) (c : Nat) (F : Fb) (hL : F.length ≤ maxLen) (t0 wd : Int) (ht : U t0) (w : World) (hF : Fab w A F) (hr : rightB F = true) (hw : wd = 1 ∨ wd = 2 ∨ wd = 4 ∨ wd = 8) :
    Calls Try.prog 8 #[.slice A F.length c, .int .u64 t0, .int .i64 wd] w fun e w' => e = hitRes (dec F wd F.length 0 t0 0) ∧ Below w.heap.size w w' := by
  have HF := Lib.hid hF
  have K := fun W h => Lib.hid (right_any A c F hL W h)
  rw [hr] at K
  have HR := Lib.hid hr
  have hq := (rightB_iff F).1 hr
  have hd1 : 0 < wd ∧ wd ≤ 8 := by omega
  have HW := Lib.hid hd1
  obtain ⟨L, hLL⟩ : ∃ L, L = F.length := ⟨_, rfl⟩
  have HL := Lib.hid hLL
  rw [← hLL] at K hL ⊢
  have q1 : 1 ≤ L := by omega
  have q2 : L ≤ 256 := by omega
  obtain ⟨ht0, ht1⟩ := ht
  clear hF hr hq hd1 hLL
  have hcase : (wd != 1) = false ∨ ((wd != 1) = true ∧ (wd != 2) = false) ∨ ((wd != 1) = true ∧ (wd != 2) = true ∧ (wd != 4) = false) ∨ ((wd != 1) = true ∧ (wd != 2) = true ∧ (wd != 4) = true ∧ (wd != 8) = false) := by
    rcases hw with rfl | rfl | rfl | rfl <;> simp
  clear hw
  rcases hcase with a1 | ⟨a1, a2⟩ | ⟨a1, a2, a3⟩ | ⟨a1, a2, a3, a4⟩
  all_goals
    go_enter Try.func8, Try.ntmps8
    go_wp2_with fail
    have hb0 := bw_alloc (bw_alloc (bw_alloc (Below.refl w.heap.size w) (.cells #[.int .u64 t0] 23)) (.cells #[.int .i64 wd] 3)) (.cells #[.int .i64 0, .int .u64 0, .int .i64 0] 27)
    have v0 := Vars.start w t0 wd
    refine ((K _ (HF.out.stays hb0)).out).mono ?_
    rintro e w1 ⟨rfl, g1⟩
    have HB := Lib.hid (bw_trans hb0 g1)
    have HV := Lib.hid (v0.below g1)
    obtain ⟨c0, c1, c2, c3, c4, f0, f2, f3, f4, hz⟩ := (v0.below g1).facts
    clear g1 hb0 v0
    go_wp2_with fail
    clear c0 c1 c2 c3 c4 f0 f2 f3 f4 hz K
    generalize hH : w.heap.size = H at HV ⊢
    have HS := Lib.hid hH
    clear hH
    go_loopg [7, 8, 9, 10, 11] L (fun gg _ s8 s9 _ _ wr => ∃ (n h : Nat) (t : Int), n < L ∧ h ≤ n ∧ 0 ≤ t ∧ t < 18446744073709551616 ∧ L - n ≤ gg ∧ s8 = .int .i64 n ∧ s9 = .int .i64 h ∧ Hid (Below w.heap.size w wr) ∧ Hid (Vars wr H t wd (.int .i64 0) (.int .u64 0) (.int .i64 0)) ∧ Hid (dec F wd gg n t h = dec F wd F.length 0 t0 0))
    case atStart => exact ⟨0, 0, t0, by omega, by omega, ht0, ht1, by omega, rfl, rfl, HB, HV, (by show dec F wd L 0 t0 0 = _; rw [HL.out])⟩
    case round =>
      obtain ⟨n, h, t, hn, hh, ht0', ht1', hg, rfl, rfl, BW, VV, HD⟩ := hrel
      obtain ⟨ad, B, c1, rfl, hc, hl1, hl2, hE⟩ := (HF.out.stays (BW.out.mono (Nat.le_refl _))) n (by rw [← HL.out]; exact hn)
      obtain ⟨c0, c1', c2, c3, c4, f0, f2, f3, f4, hz⟩ := VV.out.facts
      obtain ⟨gg, rfl⟩ : ∃ g', gk = g' + 1 := ⟨gk - 1, by omega⟩
      have hnF : n < F.length := by rw [← HL.out]; exact hn
      have hget : F[n]? = some F[n] := List.getElem?_eq_getElem hnF
      have hent : ∀ i (hi : i < F[n].length), entB F.length n F[n][i] = true := fun i hi => rightB_ent HR.out hnF hi
      have hok : ∀ e ∈ F[n], e.Ok := by
        intro e he
        obtain ⟨j, hj, rfl⟩ := List.getElem_of_mem he
        obtain ⟨_, _, _, ok⟩ := hE j hj
        exact ok
      have hcn : w.heap.size ≤ wr.heap.size := BW.out.size
      generalize F[n] = es at hc hl1 hl2 hE hget hent hok
      have hbx := idx_bounds (fun e => insideV e.a e.s t wd) es
      have KI := index_any 16 #[.pointer (some ⟨H, 0, none⟩), .pointer (some ⟨H + 1, 0, none⟩)] En.Ok (fun e => insideV e.a e.s t wd) wr (dec_tells wr H (H + 1) t wd ⟨ht0', ht1'⟩ HW.out c0 c1') (enters_of Try.func16 (by kernel_rfl) rfl) B es.length c1 es rfl (by unfold maxLen at *; omega) hE hok
      have hstep : dec F wd (gg + 1) n t h = match hitE wd t es with
          | none => none
          | some e => if e.y then dec F wd gg e.d.toNat (e.b + (t - e.a)) (h + 1) else some (e.d, t - e.a, (h : Int)) := by
        rw [dec, hget]; rfl
      have hsp := idx_spec (fun e => insideV e.a e.s t wd) es
      unfold hitE at hstep
      have HC := Lib.hid hc
      have HEN := Lib.hid hent
      have HOK := Lib.hid hok
      have HE := Lib.hid hE
      have hcb := World.block_lt_of_cell? _ _ hc
      generalize idx (fun e => insideV e.a e.s t wd) es = r at *
      have HSP := Lib.hid hsp
      have HST := Lib.hid hstep
      clear hsp hstep hget hent hok hE hnF hl2
      by_cases hneg : r < 0
      · obtain rfl : r = -1 := by omega
        have hres : Hid (dec F wd F.length 0 t0 0 = none) := by
          show _ = _
          rw [← HD.out, HST.out]; rfl
        clear HST HSP HEN HOK HE hbx hneg
        go_wp2_with fail
        refine KI.mono ?_
        rintro e w2 ⟨rfl, g2⟩
        have hb2 := g2.below
        obtain ⟨d0, d1, d2, d3, d4, p0, p2, p3, p4, hz2⟩ := (VV.out.below hb2).facts
        have B2 := Lib.hid (bw_trans BW.out hb2)
        clear KI g2 hb2 c0 c1' c2 c3 c4 f0 f2 f3 f4 hz hc
        go_wp2_with fail
        refine bodyPost_ret (v := .tuple #[.agg #[.int .i64 0, .int .u64 0, .int .i64 0], .int .i64 17]) (by simp [results, Try.results8, go_sem, d2, d3, d4]) rfl ⟨?_, ?_⟩
        · rw [← HL.out] at hres
          rw [hres.out]; rfl
        · have := HS.out
          exact ((B2.out.setCell (by simp; omega) _).setCell (by simp; omega) _).setCell (by simp; omega) _
      · obtain ⟨k, rfl⟩ : ∃ k : Nat, r = k := ⟨r.toNat, by omega⟩
        obtain ⟨hk, hins⟩ := HSP.out k rfl
        have hke := HEN.out k hk
        have hko := HOK.out es[k] (List.getElem_mem hk)
        obtain ⟨bd, rfl, hat, _⟩ := HE.out k hk
        have hres : dec F wd F.length 0 t0 0 = if es[k].y then dec F wd gg es[k].d.toNat (es[k].b + (t - es[k].a)) (h + 1) else some (es[k].d, t - es[k].a, (h : Int)) := by
          rw [← HD.out, HST.out, if_neg (by omega), Int.toNat_natCast, List.getElem?_eq_getElem hk]
        generalize es[k] = e at *
        obtain ⟨win, hd0, hbr⟩ := entB_facts hko hke
        obtain ⟨i1, i2, i3⟩ := insideV_facts HW.out.1 hins
        obtain ⟨ea, es', ey, ed, eb⟩ := e
        obtain ⟨u1, u2, u3, u4⟩ := hko
        simp only at u1 u2 u3 u4 hd0 hbr i1 i2 hres win
        have hw0 := HW.out.1
        have j1 : 0 ≤ t - ea := by omega
        have wx := win.x0
        have we := win.end_
        have ws := win.s0
        have j2 : t - ea < es' := by omega
        have HRS := Lib.hid hres
        have HBR := Lib.hid hbr
        obtain ⟨u31, u32⟩ := u3
        clear HST HSP HEN HOK HE hbx hneg hke hins hres hbr i2 i3 win u1 u2 u4 hw0
        go_wp2_with fail
        refine KI.mono ?_
        rintro e w2 ⟨rfl, g2⟩
        have hb2 := g2.below
        obtain ⟨d0, d1, d2, d3, d4, p0, p2, p3, p4, hz2⟩ := (VV.out.below hb2).facts
        obtain ⟨m0, m1, m2, m3, m4⟩ := hat.stays hb2
        simp only at m0 m1 m2 m3 m4
        have d5 := (hb2.cell hcb).trans HC.out
        have V2 := Lib.hid (VV.out.below hb2)
        have B2 := Lib.hid (bw_trans BW.out hb2)
        have hz3 : wr.heap.size ≤ w2.heap.size := hb2.size
        have hk2 := World.block_lt_of_cell? _ _ m0
        have hz4 : H < w2.heap.size := by omega
        have hz5 : H + 1 < w2.heap.size := by omega
        clear KI g2 hb2 c0 c1' c2 c3 c4 f0 f2 f3 f4 hz hat hc
        cases ey
        · have hr2 := HRS.out
          rw [if_neg (by decide), ← HL.out] at hr2
          have HR2 := Lib.hid hr2
          clear hr2 HRS HBR
          go_wp2_with fail
          obtain ⟨_, _, r0, r1, r2, _⟩ := ((V2.out.set3 (.int .i64 ed) (.int .u64 (t - ea)) (.int .i64 h)).alloc (.cells #[.int .u64 ea, .int .u64 es', .bool false, .int .i64 ed, .int .u64 eb] 48)).facts
          refine bodyPost_ret (v := .tuple #[.agg #[.int .i64 ed, .int .u64 (t - ea), .int .i64 h], .int .i64 0]) (by simp [results, Try.results8, go_sem, r0, r1, r2]) rfl ⟨?_, ?_⟩
          · rw [HR2.out]; rfl
          · have := HS.out
            have hle : w.heap.size ≤ H + 1 + 1 := by omega
            exact bw_alloc (((B2.out.setCell hle _).setCell hle _).setCell hle _) _
        · have hr2 := HRS.out
          rw [if_pos (by rfl)] at hr2
          have HR2 := Lib.hid hr2
          obtain ⟨wb, hlt, hlt2⟩ := HBR.out rfl
          obtain ⟨d, rfl⟩ : ∃ d : Nat, ed = d := ⟨ed.toNat, by omega⟩
          have wb0 := wb.x0
          have wb1 := wb.end_
          clear hr2 HRS HBR wb
          rw [← HL.out] at hlt2
          have j3 : eb + (t - ea) < 18446744073709551616 := by omega
          have j4 : 0 ≤ eb + (t - ea) := by omega
          go_wp2_with fail
          go_region
          all_goals
            go_wp2_with fail
            go_roundg gg
            case measure => omega
            case rel =>
              have := HS.out
              have hle : w.heap.size ≤ H := by omega
              refine ⟨d, h + 1, eb + (t - ea), by omega, by omega, j4, j3, by omega, rfl, by go_num, ?_, ?_, ?_⟩
              · exact bw_drewN (bw_alloc (B2.out.setCell (p := ⟨H, 0, none⟩) hle _) _) 1
              · have v3 := (V2.out.set0 (eb + (t - ea))).alloc (.cells #[.int .u64 ea, .int .u64 es', .bool true, .int .i64 (d : Int), .int .u64 eb] 48)
                exact ⟨v3.k0, v3.k1, v3.k2⟩
              · show _ = _
                rw [HR2.out, Int.toNat_natCast]
                rfl
end Go.Proofs.Ytlamkhmbjkjbdaa
