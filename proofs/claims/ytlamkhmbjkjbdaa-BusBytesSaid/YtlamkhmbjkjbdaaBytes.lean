/- The walk of the law BusBytes, and the plain law under it: what comes to a device as a whole does so byte by byte (layer 21). Conditions: rows of less than 2^47 entries. -/
import Derived.Test.YtlamkhmbjkjbdaaFew
import Derived.Test.YtlamkhmbjkjbdaaTheirs
import Derived.Test.YtlamkhmbjkjbdaaRef
namespace Go.Proofs.Ytlamkhmbjkjbdaa
open Go.RowKit Go.Sort
set_option linter.unusedVariables false
theorem rightB_apart {F : Fb} (h : rightB F = true) {n : Nat} (hn : n < F.length) {i j : Nat} (hj : j < F[n].length) (hij : i < j) : meetV (F[n][i]'(by omega)).a (F[n][i]'(by omega)).s F[n][j].a F[n][j].s = false := by
  have := ((rightB_iff F).1 h).2.2 n hn
  unfold rbV at this
  rw [Bool.and_eq_true] at this
  have h2 := ((busB_iff _ _ _).1 this.1 j hj).2
  unfold meets at h2
  have hmem : F[n][i]'(by omega) ∈ F[n].take j := by
    rw [List.mem_iff_getElem]
    exact ⟨i, by rw [List.length_take]; omega, by simp⟩
  cases hq : meetV (F[n][i]'(by omega)).a (F[n][i]'(by omega)).s F[n][j].a F[n][j].s
  · rfl
  · have : (F[n].take j).any (fun x => meetV x.a x.s F[n][j].a F[n][j].s) = true := List.any_eq_true.2 ⟨_, hmem, hq⟩
    rw [h2] at this
    cases this
/-- All numbers are of their kinds. -/
def FbOk (F : Fb) : Prop := ∀ es ∈ F, ∀ e ∈ es, e.Ok
theorem insideV_mk {x s p n : Int} (h : Win x s) (hn : 0 < n) (h1 : x ≤ p) (h2 : p + (n - 1) ≤ x + (s - 1)) : insideV x s p n = true := by
  have := h.end_
  rw [inside_win h hn]
  unfold wholeV
  simp
  omega
theorem hit_byte {F : Fb} (hr : rightB F = true) (ho : FbOk F) {n : Nat} (hn : n < F.length) {w t i : Int} (hw : 0 < w) (hi : 0 ≤ i ∧ i < w) {e : En} (h : hitE w t F[n] = some e) :
    hitE 1 (t + i) F[n] = some e ∧ insideV e.a e.s t w = true ∧ e ∈ F[n] ∧ entB F.length n e = true := by
  unfold hitE at h
  split at h
  · cases h
  rename_i hneg
  have hb := idx_bounds (fun e => insideV e.a e.s t w) F[n]
  obtain ⟨k, hk⟩ : ∃ k : Nat, idx (fun e => insideV e.a e.s t w) F[n] = k := ⟨(idx (fun e => insideV e.a e.s t w) F[n]).toNat, by omega⟩
  obtain ⟨hkl, hp⟩ := idx_spec _ _ k hk
  rw [hk, Int.toNat_natCast, List.getElem?_eq_getElem hkl] at h
  injection h with h
  have hmem : e ∈ F[n] := h ▸ List.getElem_mem hkl
  have hent := rightB_ent hr hn hkl
  have hok := ho _ (List.getElem_mem hn) _ (List.getElem_mem hkl)
  obtain ⟨win, _, _⟩ := entB_facts hok hent
  obtain ⟨a1, a2, a3⟩ := insideV_facts hw hp
  have hins : insideV F[n][k].a F[n][k].s (t + i) 1 = true := insideV_mk win (by omega) (by omega) (by omega)
  have hidx : idx (fun e => insideV e.a e.s (t + i) 1) F[n] = k := by
    refine idx_hit _ _ k hkl hins fun j hj => ?_
    have hap := rightB_apart hr hn hkl hj
    have hentj := rightB_ent hr hn (i := j) (by omega)
    have hokj := ho _ (List.getElem_mem hn) _ (List.getElem_mem (by omega : j < F[n].length))
    obtain ⟨winj, _, _⟩ := entB_facts hokj hentj
    cases hq : insideV (F[n][j]'(by omega)).a (F[n][j]'(by omega)).s (t + i) 1
    · rfl
    · obtain ⟨b1, b2, b3⟩ := insideV_facts (by omega) hq
      unfold meetV at hap
      rw [Bool.and_eq_false_iff] at hap
      simp only [decide_eq_false_iff_not] at hap
      omega
  refine ⟨?_, h ▸ hp, hmem, h ▸ hent⟩
  unfold hitE
  rw [hidx, if_neg (by omega), Int.toNat_natCast, List.getElem?_eq_getElem hkl, h]
theorem dec_byte {F : Fb} (hr : rightB F = true) (ho : FbOk F) {w i : Int} (hw : 0 < w) (hi : 0 ≤ i ∧ i < w) : ∀ (f n : Nat) (t h : Int) (d o h' : Int), n < F.length → 0 ≤ t → dec F w f n t h = some (d, o, h') →
    dec F 1 f n (t + i) h = some (d, o + i, h') ∧ 0 ≤ o ∧ o + i < 18446744073709551616 ∧ t + i < 18446744073709551616 := by
  intro f
  induction f with
  | zero => intro n t h d o h' hn ht he; simp [dec] at he
  | succ f ih =>
    intro n t h d o h' hn ht he
    rw [dec, List.getElem?_eq_getElem hn, Option.bind_some] at he
    rw [dec, List.getElem?_eq_getElem hn, Option.bind_some]
    cases hh : hitE w t F[n] with
    | none => rw [hh] at he; cases he
    | some e =>
      rw [hh] at he
      obtain ⟨h1, h2, h3, h4⟩ := hit_byte hr ho hn hw hi hh
      rw [h1]
      have hok := ho _ (List.getElem_mem hn) _ h3
      obtain ⟨win, hd0, hbr⟩ := entB_facts hok h4
      obtain ⟨a1, a2, a3⟩ := insideV_facts hw h2
      have := win.x0
      have := win.end_
      simp only at he ⊢
      cases hy : e.y
      · rw [hy] at he
        simp only [Bool.false_eq_true, if_false, Option.some.injEq, Prod.mk.injEq] at he ⊢
        obtain ⟨rfl, rfl, rfl⟩ := he
        refine ⟨⟨rfl, by omega, rfl⟩, by omega, by omega, by omega⟩
      · rw [hy] at he
        simp only [if_true] at he ⊢
        obtain ⟨wb, hlt, hlt2⟩ := hbr hy
        have := wb.x0
        obtain ⟨g1, g2, g3, g4⟩ := ih e.d.toNat _ _ d o h' (by omega) (by omega) he
        rw [show e.b + (t + i - e.a) = e.b + (t - e.a) + i from by omega]
        exact ⟨g1, g2, g3, by omega⟩
theorem fab_ok {w : World} {A : Option Addr} {F : Fb} (h : Fab w A F) : FbOk F := by
  intro es hes e he
  obtain ⟨i, hi, rfl⟩ := List.getElem_of_mem hes
  obtain ⟨_, _, _, _, _, _, _, hE⟩ := h i hi
  obtain ⟨j, hj, rfl⟩ := List.getElem_of_mem he
  obtain ⟨_, _, _, ok⟩ := hE j hj
  exact ok
theorem bytes_few (A : Option Addr) (c : Nat) (F : Fb) (hL : F.length ≤ 140737488355328) (hR : ∀ es ∈ F, es.length ≤ 140737488355328) (t b : Int) (w : World) (hF : Fab w A F) (hf : fewB F = false) :
    Calls Try.prog 4 #[.slice A F.length c, .int .u64 t, .int .u8 b] w fun e w' => e = .returned (.bool true) ∧ Below w.heap.size w w' := by
  have HF := Lib.hid hF
  have K := fun (W : World) h => Lib.hid (few_any A c F hL hR W h)
  rw [hf] at K
  clear hF hf hR
  generalize F.length = L at *
  go_enter Try.func4, Try.ntmps4
  go_wp2_with fail
  refine (awake_any _).mono ?_
  rintro e w1 ⟨rfl, g1⟩
  have G1 := Lib.hid g1
  clear g1
  go_wp2_with fail
  refine ((K _ (HF.out.stays G1.out)).out).mono ?_
  rintro e w2 ⟨rfl, rfl⟩
  go_wp2_with fail
  refine (awake_any _).mono ?_
  rintro e w3 ⟨rfl, g3⟩
  have G3 := Lib.hid (bw_trans G1.out g3)
  clear g3
  go_wp2_with fail
  go_ret
  exact ⟨rfl, G3.out⟩
set_option maxHeartbeats 1600000 in
/-- An access that is refused. -/
theorem bytes_no (A : Option Addr) (c : Nat) (F : Fb) (hL : F.length ≤ 140737488355328) (hR : ∀ es ∈ F, es.length ≤ 140737488355328) (t b wd x : Int) (hx : x = 1 ∨ x = 17) (ht : U t) (hb : 0 ≤ b ∧ b ≤ 255)
    (hm : b % 4 = 0 ∧ wd = 1 ∨ b % 4 = 1 ∧ wd = 2 ∨ b % 4 = 2 ∧ wd = 4 ∨ b % 4 = 3 ∧ wd = 8) (w : World) (hF : Fab w A F) (hf : fewB F = true)
    (hd : ∀ (B : Option Addr) (d : Nat) (W : World), Fab W B F → Calls Try.prog 8 #[.slice B F.length d, .int .u64 t, .int .i64 wd] W fun e w' => e = .returned (.tuple #[.agg #[.int .i64 0, .int .u64 0, .int .i64 0], .int .i64 x]) ∧ Below W.heap.size W w') :
    Calls Try.prog 4 #[.slice A F.length c, .int .u64 t, .int .u8 b] w fun e w' => e = .returned (.bool true) ∧ Below w.heap.size w w' := by
  have HF := Lib.hid hF
  have K := fun (W : World) h => Lib.hid (few_any A c F hL hR W h)
  rw [hf] at K
  have hf' : tot F ≤ 600 := of_decide_eq_true hf
  have h6 : F.length ≤ 600 := Nat.le_trans (tot_len F) hf'
  have h6R : ∀ es ∈ F, es.length ≤ 600 := fun es he => by have := tot_mem he; omega
  have KT := fun (W : World) h => Lib.hid (theirs_any A c F h6 h6R W h)
  have KD := fun B d W h => Lib.hid (hd B d W h)
  clear hF hf hR h6R hf' hd
  obtain ⟨b0, b1⟩ := hb
  rcases hx with rfl | rfl <;> rcases hm with ⟨hm, rfl⟩ | ⟨hm, rfl⟩ | ⟨hm, rfl⟩ | ⟨hm, rfl⟩
  all_goals
    unfold TheirsPost at KT
    generalize F.length = L at *
    go_enter Try.func4, Try.ntmps4
    go_wp2_with fail
    refine (awake_any _).mono ?_
    rintro e w1 ⟨rfl, g1⟩
    have G1 := Lib.hid g1
    clear g1
    go_wp2_with fail
    refine ((K _ (HF.out.stays G1.out)).out).mono ?_
    rintro e w2 ⟨rfl, rfl⟩
    go_wp2_with fail
    refine ((KT _ (HF.out.stays G1.out)).out).mono ?_
    rintro e w3 ⟨A3, c3, rfl, f3, g3⟩
    have F3 := Lib.hid f3
    have G3 := Lib.hid (bw_trans G1.out g3)
    clear g3 f3
    go_wp2_with fail
    refine ((KD _ _ _ F3.out).out).mono ?_
    rintro e w4 ⟨rfl, g4⟩
    have G4 := Lib.hid (bw_trans G3.out g4)
    clear g4
    go_wp2_with fail
    go_ret
    exact ⟨rfl, bw_alloc G4.out _⟩
set_option maxHeartbeats 6400000 in
/-- An access that comes to a device. -/
theorem bytes_yes (A : Option Addr) (c : Nat) (F : Fb) (hL : F.length ≤ 140737488355328) (hR : ∀ es ∈ F, es.length ≤ 140737488355328) (t b : Int) (wd : Nat) (d o h : Int) (ht : U t) (hb : 0 ≤ b ∧ b ≤ 255)
    (hm : b % 4 = 0 ∧ wd = 1 ∨ b % 4 = 1 ∧ wd = 2 ∨ b % 4 = 2 ∧ wd = 4 ∨ b % 4 = 3 ∧ wd = 8) (w : World) (hF : Fab w A F) (hf : fewB F = true) (hr : rightB F = true) (hd : dec F wd F.length 0 t 0 = some (d, o, h)) :
    Calls Try.prog 4 #[.slice A F.length c, .int .u64 t, .int .u8 b] w fun e w' => e = .returned (.bool true) ∧ Below w.heap.size w w' := by
  have hwd : 0 < wd ∧ wd ≤ 8 := by omega
  have hq := (rightB_iff F).1 hr
  have hby : ∀ i : Nat, i < wd → dec F 1 F.length 0 (t + i) 0 = some (d, o + i, h) ∧ 0 ≤ o ∧ o + i < 18446744073709551616 ∧ t + i < 18446744073709551616 := fun i hi =>
    dec_byte hr (fab_ok hF) (w := wd) (by omega) (by omega) F.length 0 t 0 d o h (by omega) ht.1 hd
  have HF := Lib.hid hF
  have K := fun (W : World) h => Lib.hid (few_any A c F hL hR W h)
  rw [hf] at K
  have hf' : tot F ≤ 600 := of_decide_eq_true hf
  have h6 : F.length ≤ 600 := Nat.le_trans (tot_len F) hf'
  have h6R : ∀ es ∈ F, es.length ≤ 600 := fun es he => by have := tot_mem he; omega
  have KT := fun (W : World) h => Lib.hid (theirs_any A c F h6 h6R W h)
  have KD := fun B c (W : World) h => Lib.hid (decode_loop B c F (by unfold maxLen; omega) t wd ht W h hr (by omega))
  have KB := fun (i : Nat) (hi : i < wd) B c (W : World) h => Lib.hid (decode_loop B c F (by unfold maxLen; omega) (t + i) 1 ⟨by have := ht.1; omega, (hby i hi).2.2.2⟩ W h hr (by omega))
  have KB' : ∀ (i : Nat) (hi : i < wd) B c (W : World), Fab W B F → Hid (Calls Try.prog 8 #[.slice B F.length c, .int .u64 (t + i), .int .i64 1] W fun e w' => e = .returned (.tuple #[.agg #[.int .i64 d, .int .u64 (o + i), .int .i64 h], .int .i64 0]) ∧ Below W.heap.size W w') := by
    intro i hi B c W h
    have := (KB i hi B c W h).out
    rw [(hby i hi).1] at this
    exact this
  rw [hd] at KD
  unfold hitRes at KD
  have HB := Lib.hid (fun i hi => (hby i hi).2)
  clear hF hf hR h6R hf' KB hby hd hr hq
  obtain ⟨b0, b1⟩ := hb
  obtain ⟨t0, t1⟩ := ht
  rcases hm with ⟨hm, rfl⟩ | ⟨hm, rfl⟩ | ⟨hm, rfl⟩ | ⟨hm, rfl⟩
  · unfold TheirsPost at KT
    generalize F.length = L at *
    go_enter Try.func4, Try.ntmps4
    go_wp2_with fail
    refine (awake_any _).mono ?_
    rintro e w1 ⟨rfl, g1⟩
    have G1 := Lib.hid g1
    clear g1
    go_wp2_with fail
    refine ((K _ (HF.out.stays G1.out)).out).mono ?_
    rintro e w2 ⟨rfl, rfl⟩
    go_wp2_with fail
    refine ((KT _ (HF.out.stays G1.out)).out).mono ?_
    rintro e w3 ⟨A3, c3, rfl, f3, g3⟩
    have F3 := Lib.hid f3
    have G3 := Lib.hid (bw_trans G1.out g3)
    clear g3 f3
    go_wp2_with fail
    refine ((KD _ _ _ F3.out).out).mono ?_
    rintro e w4 ⟨rfl, g4⟩
    have G4 := Lib.hid (bw_alloc (bw_trans G3.out g4) (.cells #[.int .i64 d, .int .u64 o, .int .i64 h] 27))
    have K4 := Lib.hid (Bk.new w4 27 #[.int .i64 d, .int .u64 o, .int .i64 h])
    clear g4 F3 KD K
    go_wp2_with fail
    go_loopg [6, 10, 11, 12, 38] 1 (fun gg _ _ _ _ s38 wr => ∃ k : Nat, k ≤ 1 ∧ 1 - k ≤ gg ∧ s38 = .int .i64 k ∧ Hid (Below w.heap.size w wr) ∧ Hid (Bk wr w4.heap.size 27 #[.int .i64 d, .int .u64 o, .int .i64 h]))
    case atStart => exact ⟨0, by omega, by omega, rfl, G4, K4⟩
    case round =>
      obtain ⟨k, hk, hg, rfl, BW, BK⟩ := hrel
      by_cases hlt : k < 1
      · have KC := KB' k hlt
        obtain ⟨o0, o1, o2⟩ := HB.out k hlt
        have tk : 0 ≤ t + k := by omega
        have ok : 0 ≤ o + k := by omega
        go_wp2_with fail
        refine ((KT _ (HF.out.stays BW.out)).out).mono ?_
        rintro e w5 ⟨A5, c5, rfl, f5, g5⟩
        have F5 := Lib.hid f5
        have K5 := Lib.hid (BK.out.below g5)
        have G5 := Lib.hid (bw_trans BW.out g5)
        clear g5 f5
        go_wp2_with fail
        refine ((KC _ _ _ F5.out).out).mono ?_
        rintro e w6 ⟨rfl, g6⟩
        have G6 := Lib.hid (bw_alloc (bw_trans G5.out g6) (.cells #[.int .i64 d, .int .u64 (o + k), .int .i64 h] 27))
        have K6 := Lib.hid ((K5.out.below g6).alloc (.cells #[.int .i64 d, .int .u64 (o + k), .int .i64 h] 27))
        have c0 := (K5.out.below g6).cell 0
        have c1 := (K5.out.below g6).cell 1
        have c2 := (K5.out.below g6).cell 2
        have hz := (K5.out.below g6).lt
        simp at c0 c1 c2
        clear g6 F5 KC
        go_wp2_with fail
        go_roundg (1 - (k + 1))
        case measure => omega
        case rel => exact ⟨k + 1, by omega, by omega, by go_num, G6, K6⟩
      · go_wp2_with fail
        go_ret
        exact ⟨rfl, BW.out⟩
  · unfold TheirsPost at KT
    generalize F.length = L at *
    go_enter Try.func4, Try.ntmps4
    go_wp2_with fail
    refine (awake_any _).mono ?_
    rintro e w1 ⟨rfl, g1⟩
    have G1 := Lib.hid g1
    clear g1
    go_wp2_with fail
    refine ((K _ (HF.out.stays G1.out)).out).mono ?_
    rintro e w2 ⟨rfl, rfl⟩
    go_wp2_with fail
    refine ((KT _ (HF.out.stays G1.out)).out).mono ?_
    rintro e w3 ⟨A3, c3, rfl, f3, g3⟩
    have F3 := Lib.hid f3
    have G3 := Lib.hid (bw_trans G1.out g3)
    clear g3 f3
    go_wp2_with fail
    refine ((KD _ _ _ F3.out).out).mono ?_
    rintro e w4 ⟨rfl, g4⟩
    have G4 := Lib.hid (bw_alloc (bw_trans G3.out g4) (.cells #[.int .i64 d, .int .u64 o, .int .i64 h] 27))
    have K4 := Lib.hid (Bk.new w4 27 #[.int .i64 d, .int .u64 o, .int .i64 h])
    clear g4 F3 KD K
    go_wp2_with fail
    go_loopg [6, 10, 11, 12, 38] 2 (fun gg _ _ _ _ s38 wr => ∃ k : Nat, k ≤ 2 ∧ 2 - k ≤ gg ∧ s38 = .int .i64 k ∧ Hid (Below w.heap.size w wr) ∧ Hid (Bk wr w4.heap.size 27 #[.int .i64 d, .int .u64 o, .int .i64 h]))
    case atStart => exact ⟨0, by omega, by omega, rfl, G4, K4⟩
    case round =>
      obtain ⟨k, hk, hg, rfl, BW, BK⟩ := hrel
      by_cases hlt : k < 2
      · have KC := KB' k hlt
        obtain ⟨o0, o1, o2⟩ := HB.out k hlt
        have tk : 0 ≤ t + k := by omega
        have ok : 0 ≤ o + k := by omega
        go_wp2_with fail
        refine ((KT _ (HF.out.stays BW.out)).out).mono ?_
        rintro e w5 ⟨A5, c5, rfl, f5, g5⟩
        have F5 := Lib.hid f5
        have K5 := Lib.hid (BK.out.below g5)
        have G5 := Lib.hid (bw_trans BW.out g5)
        clear g5 f5
        go_wp2_with fail
        refine ((KC _ _ _ F5.out).out).mono ?_
        rintro e w6 ⟨rfl, g6⟩
        have G6 := Lib.hid (bw_alloc (bw_trans G5.out g6) (.cells #[.int .i64 d, .int .u64 (o + k), .int .i64 h] 27))
        have K6 := Lib.hid ((K5.out.below g6).alloc (.cells #[.int .i64 d, .int .u64 (o + k), .int .i64 h] 27))
        have c0 := (K5.out.below g6).cell 0
        have c1 := (K5.out.below g6).cell 1
        have c2 := (K5.out.below g6).cell 2
        have hz := (K5.out.below g6).lt
        simp at c0 c1 c2
        clear g6 F5 KC
        go_wp2_with fail
        go_roundg (2 - (k + 1))
        case measure => omega
        case rel => exact ⟨k + 1, by omega, by omega, by go_num, G6, K6⟩
      · go_wp2_with fail
        go_ret
        exact ⟨rfl, BW.out⟩
  · unfold TheirsPost at KT
    generalize F.length = L at *
    go_enter Try.func4, Try.ntmps4
    go_wp2_with fail
    refine (awake_any _).mono ?_
    rintro e w1 ⟨rfl, g1⟩
    have G1 := Lib.hid g1
    clear g1
    go_wp2_with fail
    refine ((K _ (HF.out.stays G1.out)).out).mono ?_
    rintro e w2 ⟨rfl, rfl⟩
    go_wp2_with fail
    refine ((KT _ (HF.out.stays G1.out)).out).mono ?_
    rintro e w3 ⟨A3, c3, rfl, f3, g3⟩
    have F3 := Lib.hid f3
    have G3 := Lib.hid (bw_trans G1.out g3)
    clear g3 f3
    go_wp2_with fail
    refine ((KD _ _ _ F3.out).out).mono ?_
    rintro e w4 ⟨rfl, g4⟩
    have G4 := Lib.hid (bw_alloc (bw_trans G3.out g4) (.cells #[.int .i64 d, .int .u64 o, .int .i64 h] 27))
    have K4 := Lib.hid (Bk.new w4 27 #[.int .i64 d, .int .u64 o, .int .i64 h])
    clear g4 F3 KD K
    go_wp2_with fail
    go_loopg [6, 10, 11, 12, 38] 4 (fun gg _ _ _ _ s38 wr => ∃ k : Nat, k ≤ 4 ∧ 4 - k ≤ gg ∧ s38 = .int .i64 k ∧ Hid (Below w.heap.size w wr) ∧ Hid (Bk wr w4.heap.size 27 #[.int .i64 d, .int .u64 o, .int .i64 h]))
    case atStart => exact ⟨0, by omega, by omega, rfl, G4, K4⟩
    case round =>
      obtain ⟨k, hk, hg, rfl, BW, BK⟩ := hrel
      by_cases hlt : k < 4
      · have KC := KB' k hlt
        obtain ⟨o0, o1, o2⟩ := HB.out k hlt
        have tk : 0 ≤ t + k := by omega
        have ok : 0 ≤ o + k := by omega
        go_wp2_with fail
        refine ((KT _ (HF.out.stays BW.out)).out).mono ?_
        rintro e w5 ⟨A5, c5, rfl, f5, g5⟩
        have F5 := Lib.hid f5
        have K5 := Lib.hid (BK.out.below g5)
        have G5 := Lib.hid (bw_trans BW.out g5)
        clear g5 f5
        go_wp2_with fail
        refine ((KC _ _ _ F5.out).out).mono ?_
        rintro e w6 ⟨rfl, g6⟩
        have G6 := Lib.hid (bw_alloc (bw_trans G5.out g6) (.cells #[.int .i64 d, .int .u64 (o + k), .int .i64 h] 27))
        have K6 := Lib.hid ((K5.out.below g6).alloc (.cells #[.int .i64 d, .int .u64 (o + k), .int .i64 h] 27))
        have c0 := (K5.out.below g6).cell 0
        have c1 := (K5.out.below g6).cell 1
        have c2 := (K5.out.below g6).cell 2
        have hz := (K5.out.below g6).lt
        simp at c0 c1 c2
        clear g6 F5 KC
        go_wp2_with fail
        go_roundg (4 - (k + 1))
        case measure => omega
        case rel => exact ⟨k + 1, by omega, by omega, by go_num, G6, K6⟩
      · go_wp2_with fail
        go_ret
        exact ⟨rfl, BW.out⟩
  · unfold TheirsPost at KT
    generalize F.length = L at *
    go_enter Try.func4, Try.ntmps4
    go_wp2_with fail
    refine (awake_any _).mono ?_
    rintro e w1 ⟨rfl, g1⟩
    have G1 := Lib.hid g1
    clear g1
    go_wp2_with fail
    refine ((K _ (HF.out.stays G1.out)).out).mono ?_
    rintro e w2 ⟨rfl, rfl⟩
    go_wp2_with fail
    refine ((KT _ (HF.out.stays G1.out)).out).mono ?_
    rintro e w3 ⟨A3, c3, rfl, f3, g3⟩
    have F3 := Lib.hid f3
    have G3 := Lib.hid (bw_trans G1.out g3)
    clear g3 f3
    go_wp2_with fail
    refine ((KD _ _ _ F3.out).out).mono ?_
    rintro e w4 ⟨rfl, g4⟩
    have G4 := Lib.hid (bw_alloc (bw_trans G3.out g4) (.cells #[.int .i64 d, .int .u64 o, .int .i64 h] 27))
    have K4 := Lib.hid (Bk.new w4 27 #[.int .i64 d, .int .u64 o, .int .i64 h])
    clear g4 F3 KD K
    go_wp2_with fail
    go_loopg [6, 10, 11, 12, 38] 8 (fun gg _ _ _ _ s38 wr => ∃ k : Nat, k ≤ 8 ∧ 8 - k ≤ gg ∧ s38 = .int .i64 k ∧ Hid (Below w.heap.size w wr) ∧ Hid (Bk wr w4.heap.size 27 #[.int .i64 d, .int .u64 o, .int .i64 h]))
    case atStart => exact ⟨0, by omega, by omega, rfl, G4, K4⟩
    case round =>
      obtain ⟨k, hk, hg, rfl, BW, BK⟩ := hrel
      by_cases hlt : k < 8
      · have KC := KB' k hlt
        obtain ⟨o0, o1, o2⟩ := HB.out k hlt
        have tk : 0 ≤ t + k := by omega
        have ok : 0 ≤ o + k := by omega
        go_wp2_with fail
        refine ((KT _ (HF.out.stays BW.out)).out).mono ?_
        rintro e w5 ⟨A5, c5, rfl, f5, g5⟩
        have F5 := Lib.hid f5
        have K5 := Lib.hid (BK.out.below g5)
        have G5 := Lib.hid (bw_trans BW.out g5)
        clear g5 f5
        go_wp2_with fail
        refine ((KC _ _ _ F5.out).out).mono ?_
        rintro e w6 ⟨rfl, g6⟩
        have G6 := Lib.hid (bw_alloc (bw_trans G5.out g6) (.cells #[.int .i64 d, .int .u64 (o + k), .int .i64 h] 27))
        have K6 := Lib.hid ((K5.out.below g6).alloc (.cells #[.int .i64 d, .int .u64 (o + k), .int .i64 h] 27))
        have c0 := (K5.out.below g6).cell 0
        have c1 := (K5.out.below g6).cell 1
        have c2 := (K5.out.below g6).cell 2
        have hz := (K5.out.below g6).lt
        simp at c0 c1 c2
        clear g6 F5 KC
        go_wp2_with fail
        go_roundg (8 - (k + 1))
        case measure => omega
        case rel => exact ⟨k + 1, by omega, by omega, by go_num, G6, K6⟩
      · go_wp2_with fail
        go_ret
        exact ⟨rfl, BW.out⟩
theorem bytes_any (A : Option Addr) (n c : Nat) (F : Fb) (hn : F.length = n) (hL : F.length ≤ 140737488355328) (hR : ∀ es ∈ F, es.length ≤ 140737488355328) (t b : Int) (ht : U t) (hb : 0 ≤ b ∧ b ≤ 255) (w : World) (hF : Fab w A F) :
    Calls Try.prog 4 #[.slice A n c, .int .u64 t, .int .u8 b] w fun e w' => e = .returned (.bool true) ∧ Below w.heap.size w w' := by
  subst hn
  cases hf : fewB F
  · exact bytes_few A c F hL hR t b w hF hf
  have hL' : F.length ≤ maxLen := by unfold maxLen; omega
  obtain ⟨wd, hm⟩ : ∃ wd : Nat, b % 4 = 0 ∧ wd = 1 ∨ b % 4 = 1 ∧ wd = 2 ∨ b % 4 = 2 ∧ wd = 4 ∨ b % 4 = 3 ∧ wd = 8 := by
    have : b % 4 = 0 ∨ b % 4 = 1 ∨ b % 4 = 2 ∨ b % 4 = 3 := by omega
    rcases this with h | h | h | h
    · exact ⟨1, .inl ⟨h, rfl⟩⟩
    · exact ⟨2, .inr (.inl ⟨h, rfl⟩)⟩
    · exact ⟨4, .inr (.inr (.inl ⟨h, rfl⟩))⟩
    · exact ⟨8, .inr (.inr (.inr ⟨h, rfl⟩))⟩
  have hm' : b % 4 = 0 ∧ (wd : Int) = 1 ∨ b % 4 = 1 ∧ (wd : Int) = 2 ∨ b % 4 = 2 ∧ (wd : Int) = 4 ∨ b % 4 = 3 ∧ (wd : Int) = 8 := by omega
  cases hr : rightB F
  · exact bytes_no A c F hL hR t b wd 1 (.inl rfl) ht hb hm' w hF hf fun B d W h => decode_wrong B d F hL' t wd W h hr
  · cases hd : dec F wd F.length 0 t 0 with
    | none =>
      refine bytes_no A c F hL hR t b wd 17 (.inr rfl) ht hb hm' w hF hf fun B d W h => ?_
      have := decode_loop B d F hL' t wd ht W h hr (by omega)
      rw [hd] at this
      exact this
    | some x =>
      obtain ⟨d, o, h⟩ := x
      exact bytes_yes A c F hL hR t b wd d o h ht hb hm w hF hf hr hd
end Go.Proofs.Ytlamkhmbjkjbdaa
namespace Go.Proofs.Ytlamkhmbjkjbdaa
open Go.RowKit Go.Deep Go.ChangeShapes Go.WideShapes Go.Joins
theorem bytes_row (A : Option Addr) (n c : Nat) (F : Fb) (hn : F.length = n) (hL : F.length ≤ 140737488355328) (hR : ∀ es ∈ F, es.length ≤ 140737488355328) (t b : Int) (w : World) (hF : Fab w A F) (ht : (Lit.int .u64 t).wf = true) (hb : (Lit.int .u8 b).wf = true) :
    Calls Try.prog 4 #[.slice A n c, .int .u64 t, .int .u8 b] w fun e w' => e = .returned (.bool true) ∧ Below w.heap.size w w' := by
  have h1 := bounds_u64 ht
  exact bytes_any A n c F hn hL hR t b ⟨h1.1, Int.lt_of_le_of_lt h1.2 (by omega)⟩ (bounds_u8 hb) w hF
end Go.Proofs.Ytlamkhmbjkjbdaa
