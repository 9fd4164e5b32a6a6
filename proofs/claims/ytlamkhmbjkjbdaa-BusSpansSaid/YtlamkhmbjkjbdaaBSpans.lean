/- The walk of the law BusSpans (layer 21). Conditions: rows of less than 2^47 entries. -/
import Derived.Test.YtlamkhmbjkjbdaaSpans
import Derived.Test.YtlamkhmbjkjbdaaWays
import Derived.Test.YtlamkhmbjkjbdaaFew
namespace Go.Proofs.Ytlamkhmbjkjbdaa
open Go.RowKit Go.Sort
set_option linter.unusedVariables false
set_option linter.unusedSimpArgs false
/-- The cells of a span lie at an address. -/
structure SpAt (w : World) (ad : Addr) (s : Sp) : Prop where
  c0 : w.cell? ad = some (.int .u64 s.a)
  c1 : w.cell? ⟨ad.block, ad.off + 1, none⟩ = some (.int .u64 s.s)
  c2 : w.cell? ⟨ad.block, ad.off + 2, none⟩ = some (.int .i64 s.d)
  c3 : w.cell? ⟨ad.block, ad.off + 3, none⟩ = some (.int .u64 s.o)
def SpansAt (w : World) (A : Option Addr) (l : List Sp) : Prop := ∀ i (h : i < l.length), ∃ ad, A = some ad ∧ SpAt w (ad.add (i * 4)) l[i]
theorem SpansAt.stays {w w1 : World} {A : Option Addr} {l : List Sp} (h : SpansAt w A l) (hb : Below w.heap.size w w1) : SpansAt w1 A l := fun i hi => by
  obtain ⟨ad, e, k⟩ := h i hi
  exact ⟨ad, e, ⟨cell_stays hb k.c0, cell_stays hb k.c1, cell_stays hb k.c2, cell_stays hb k.c3⟩⟩
theorem spans_own {w : World} {base n c : Nat} {A : Option Addr} {l : List Sp} (h : w.ownsRow base 43 4 (.slice A n c) n (spc l)) (hn : l.length = n) : SpansAt w A l := by
  intro i hi
  obtain ⟨g, cap, hv, hb, hlt⟩ := h.form (by omega)
  injection hv with hA _ hc0
  subst hA hc0
  refine ⟨_, rfl, ?_⟩
  have hc : ∀ j, j < 4 → w.cell? ⟨g, i * 4 + j, none⟩ = l[i].cs[j]? := fun j hj => by
    rw [← spc_at l i hi j hj, ← h.cellAt (i * 4 + j) (by omega)]
  rw [adr]
  exact ⟨hc 0 (by omega), hc 1 (by omega), hc 2 (by omega), hc 3 (by omega)⟩
/-- Is an access in a span? -/
def hasB (t w : Int) (s : Sp) : Bool := decide (s.a ≤ t) && (decide (w ≤ s.s) && decide (t - s.a ≤ s.s - w))
theorem hasB_iff {t w : Int} {s : Sp} : hasB t w s = true ↔ s.a ≤ t ∧ w ≤ s.s ∧ t - s.a ≤ s.s - w := by
  unfold hasB
  simp only [Bool.and_eq_true, decide_eq_true_eq]
/-- What the law asks of the spans, in plain words. -/
structure Fine (F : Fb) (l : List Sp) (t w : Int) : Prop where
  nums : ∀ i (h : i < l.length), 0 ≤ l[i].a ∧ 1 ≤ l[i].s ∧ l[i].a + l[i].s ≤ 18446744073709551616 ∧ 0 ≤ l[i].o ∧ l[i].o + l[i].s ≤ 18446744073709551616
  rise : ∀ i (h : i + 1 < l.length), l[i].a + l[i].s ≤ l[i + 1].a
  come : ∀ i (h : i < l.length), hasB t w l[i] = true → ∃ h', dec F w F.length 0 t 0 = some (l[i].d, l[i].o + (t - l[i].a), h')
  stay : ∀ x, dec F w F.length 0 t 0 = some x → l.any (hasB t w) = true
theorem fine {F : Fb} (hr : rightB F = true) (ho : FbOk' F) {l : List Sp} (hp : l.Perm (spansS F)) (hris : Rising l) {t w : Int} (ht : U t) (hw : 0 < w) : Fine F l t w := by
  obtain ⟨hl1, _, _⟩ := (rightB_iff F).1 hr
  have h0 : 0 < F.length := by omega
  have W : Win 0 18446744073709551616 := ⟨by omega, by omega, by omega⟩
  have hin : ∀ s ∈ l, SpIn 0 18446744073709551616 s := fun s hs => by
    have := gat_in hr ho F.length 0 0 18446744073709551616 0 h0 W W s (hp.subset hs)
    simpa using this
  have hap : l.Pairwise Apart := hp.symm.pairwise (gat_apart hr ho F.length 0 0 18446744073709551616 0 h0 W W) (fun {a b} h => by unfold Apart at *; omega)
  refine ⟨fun i h => ?_, fun i h => ?_, fun i h hb => ?_, fun x hx => ?_⟩
  · have := hin _ (List.getElem_mem h)
    unfold SpIn at this
    omega
  · have h1 := hin _ (List.getElem_mem (by omega : i < l.length))
    have h2 := hin _ (List.getElem_mem h)
    have h3 := List.pairwise_iff_getElem.1 hap i (i + 1) (by omega) h (by omega)
    have h4 := List.pairwise_iff_getElem.1 hris i (i + 1) (by omega) h (by omega)
    unfold SpIn at h1 h2
    unfold Apart at h3
    omega
  · obtain ⟨b1, b2, b3⟩ := hasB_iff.1 hb
    obtain ⟨h', hd⟩ := span_dec hr ho hw F.length 0 0 18446744073709551616 0 t 0 l[i] h0 W W (hp.subset (List.getElem_mem h)) b1 (by omega)
    exact ⟨h', by rw [← hd]; congr 1; omega⟩
  · obtain ⟨d, o, h'⟩ := x
    have hb : t + w ≤ 18446744073709551616 := by
      obtain ⟨f, hf⟩ : ∃ f, F.length = f + 1 := ⟨F.length - 1, by omega⟩
      rw [hf, dec, List.getElem?_eq_getElem h0, Option.bind_some] at hx
      cases hh : hitE w t F[0] with
      | none => rw [hh] at hx; cases hx
      | some e =>
        obtain ⟨_, hins⟩ := hit_mem h0 hh
        obtain ⟨_, _, a3⟩ := insideV_facts hw hins
        omega
    obtain ⟨s, hs, g1, g2, g3, g4⟩ := dec_span hr ho hw F.length 0 0 18446744073709551616 0 t 0 d o h' h0 W W (by have := ht.1; omega) (by omega) hx
    refine List.any_eq_true.2 ⟨s, hp.symm.subset hs, hasB_iff.2 ⟨by omega, by omega, by omega⟩⟩
set_option maxHeartbeats 1600000 in
set_option maxRecDepth 100000 in
theorem spans_few (A : Option Addr) (c : Nat) (F : Fb) (hL : F.length ≤ 140737488355328) (hR : ∀ es ∈ F, es.length ≤ 140737488355328) (t b : Int) (ht : U t) (hb : 0 ≤ b ∧ b ≤ 255) (w : World) (hF : Fab w A F) (hf : fewB F = false) :
    Calls Try.prog 5 #[.slice A F.length c, .int .u64 t, .int .u8 b] w fun e w' => e = .returned (.bool true) ∧ Below w.heap.size w w' := by
  have HF := Lib.hid hF
  have K := fun (W : World) h => Lib.hid (few_any A c F hL hR W h)
  rw [hf] at K
  clear hF hf hR
  generalize F.length = L at *
  go_enter Try.func5, Try.ntmps5
  go_wp2_with fail
  refine (awake_any _).mono ?_
  rintro e w1 ⟨rfl, g1⟩
  have G1 := Lib.hid g1
  clear g1
  go_wp2_with fail
  refine ((K _ (HF.out.stays G1.out)).out).mono ?_
  rintro e w2 ⟨rfl, rfl⟩
  go_wp2_with fail
  refine (awake_any _).mono ?_
  rintro e w9 ⟨rfl, g9⟩
  have G9 := Lib.hid (bw_trans G1.out g9)
  clear g9
  go_wp2_with fail
  go_ret
  exact ⟨rfl, G9.out⟩
set_option maxHeartbeats 1600000 in
set_option maxRecDepth 100000 in
theorem spans_wrong (A : Option Addr) (c : Nat) (F : Fb) (hL : F.length ≤ 140737488355328) (hR : ∀ es ∈ F, es.length ≤ 140737488355328) (t b : Int) (ht : U t) (hb : 0 ≤ b ∧ b ≤ 255) (w : World) (hF : Fab w A F) (hf : fewB F = true) (hr : rightB F = false) :
    Calls Try.prog 5 #[.slice A F.length c, .int .u64 t, .int .u8 b] w fun e w' => e = .returned (.bool true) ∧ Below w.heap.size w w' := by
  have HF := Lib.hid hF
  have K := fun (W : World) h => Lib.hid (few_any A c F hL hR W h)
  rw [hf] at K
  have hf' : tot F ≤ 600 := of_decide_eq_true hf
  have h6 : F.length ≤ 600 := Nat.le_trans (tot_len F) hf'
  have h6R : ∀ es ∈ F, es.length ≤ 600 := fun es he => by have := tot_mem he; omega
  have hm : F.length ≤ maxLen := by unfold maxLen; omega
  have KR := fun (W : World) h => Lib.hid (rright_any A c F hm W h)
  rw [hr] at KR
  clear hF hf hR h6R hf' hr hm
  generalize F.length = L at *
  go_enter Try.func5, Try.ntmps5
  go_wp2_with fail
  refine (awake_any _).mono ?_
  rintro e w1 ⟨rfl, g1⟩
  have G1 := Lib.hid g1
  clear g1
  go_wp2_with fail
  refine ((K _ (HF.out.stays G1.out)).out).mono ?_
  rintro e w2 ⟨rfl, rfl⟩
  go_wp2_with fail
  refine ((KR _ (HF.out.stays G1.out)).out).mono ?_
  rintro e w3 ⟨rfl, g3⟩
  have G3 := Lib.hid (bw_trans G1.out g3)
  clear g3
  go_wp2_with fail
  refine (awake_any _).mono ?_
  rintro e w9 ⟨rfl, g9⟩
  have G9 := Lib.hid (bw_trans G3.out g9)
  clear g9
  go_wp2_with fail
  go_ret
  exact ⟨rfl, G9.out⟩
theorem fab_ok' {w : World} {A : Option Addr} {F : Fb} (h : Fab w A F) : FbOk' F := by
  intro es hes e he
  obtain ⟨i, hi, rfl⟩ := List.getElem_of_mem hes
  obtain ⟨_, _, _, _, _, _, _, hE⟩ := h i hi
  obtain ⟨j, hj, rfl⟩ := List.getElem_of_mem he
  obtain ⟨_, _, _, ok⟩ := hE j hj
  exact ok
set_option maxHeartbeats 1600000 in
set_option maxRecDepth 100000 in
theorem spans_many (A : Option Addr) (c : Nat) (F : Fb) (hL : F.length ≤ 140737488355328) (hR : ∀ es ∈ F, es.length ≤ 140737488355328) (t b : Int) (ht : U t) (hb : 0 ≤ b ∧ b ≤ 255) (w : World) (hF : Fab w A F) (hf : fewB F = true) (hr : rightB F = true) (hw : 1000 < wys F 13 0) :
    Calls Try.prog 5 #[.slice A F.length c, .int .u64 t, .int .u8 b] w fun e w' => e = .returned (.bool true) ∧ Below w.heap.size w w' := by
  have HF := Lib.hid hF
  have K := fun (W : World) h => Lib.hid (few_any A c F hL hR W h)
  rw [hf] at K
  have hf' : tot F ≤ 600 := of_decide_eq_true hf
  have h6 : F.length ≤ 600 := Nat.le_trans (tot_len F) hf'
  have h6R : ∀ es ∈ F, es.length ≤ 600 := fun es he => by have := tot_mem he; omega
  have hm : F.length ≤ maxLen := by unfold maxLen; omega
  have KR := fun (W : World) h => Lib.hid (rright_any A c F hm W h)
  rw [hr] at KR
  have ho := fab_ok' hF
  have KW := fun (W : World) h => Lib.hid (ways_any A c F hr ho (fun es he => by have := h6R es he; omega) W h 13 0 (by have := (rightB_iff F).1 hr; omega) (by omega))
  have hwb : wys F 13 0 ≤ 1048576 + 2000 * 13 := wys_le F (fun es he => by have := h6R es he; omega) 13 0
  have hw' : (1000 : Int) < (wys F 13 0 : Nat) := by omega
  generalize wys F 13 0 = W at *
  clear hF hf hR h6R hf' hr hm ho
  generalize F.length = L at *
  go_enter Try.func5, Try.ntmps5
  go_wp2_with fail
  refine (awake_any _).mono ?_
  rintro e w1 ⟨rfl, g1⟩
  have G1 := Lib.hid g1
  clear g1
  go_wp2_with fail
  refine ((K _ (HF.out.stays G1.out)).out).mono ?_
  rintro e w2 ⟨rfl, rfl⟩
  go_wp2_with fail
  refine ((KR _ (HF.out.stays G1.out)).out).mono ?_
  rintro e w3 ⟨rfl, g3⟩
  have G3 := Lib.hid (bw_trans G1.out g3)
  clear g3
  go_wp2_with fail
  refine ((KW _ (HF.out.stays G3.out)).out).mono ?_
  rintro e w4 ⟨rfl, rfl⟩
  go_wp2_with fail
  refine (awake_any _).mono ?_
  rintro e w9 ⟨rfl, g9⟩
  have G9 := Lib.hid (bw_trans G3.out g9)
  clear g9
  go_wp2_with fail
  go_ret
  exact ⟨rfl, G9.out⟩
set_option maxHeartbeats 6400000 in
set_option maxRecDepth 100000 in
theorem spans_some (A : Option Addr) (c : Nat) (F : Fb) (hL : F.length ≤ 140737488355328) (hR : ∀ es ∈ F, es.length ≤ 140737488355328) (t b : Int) (ht : U t) (hb : 0 ≤ b ∧ b ≤ 255) (w : World) (hF : Fab w A F) (d o h : Int) (wd : Nat) (hmm : b % 4 = 0 ∧ wd = 1 ∨ b % 4 = 1 ∧ wd = 2 ∨ b % 4 = 2 ∧ wd = 4 ∨ b % 4 = 3 ∧ wd = 8) (hf : fewB F = true) (hr : rightB F = true) (hw : wys F 13 0 ≤ 1000) (hd : dec F wd F.length 0 t 0 = some (d, o, h)) :
    Calls Try.prog 5 #[.slice A F.length c, .int .u64 t, .int .u8 b] w fun e w' => e = .returned (.bool true) ∧ Below w.heap.size w w' := by
  have HF := Lib.hid hF
  have K := fun (W : World) h => Lib.hid (few_any A c F hL hR W h)
  rw [hf] at K
  have hf' : tot F ≤ 600 := of_decide_eq_true hf
  have h6 : F.length ≤ 600 := Nat.le_trans (tot_len F) hf'
  have h6R : ∀ es ∈ F, es.length ≤ 600 := fun es he => by have := tot_mem he; omega
  have hm : F.length ≤ maxLen := by unfold maxLen; omega
  have KR := fun (W : World) h => Lib.hid (rright_any A c F hm W h)
  rw [hr] at KR
  have ho := fab_ok' hF
  have KW := fun (W : World) h => Lib.hid (ways_any A c F hr ho (fun es he => by have := h6R es he; omega) W h 13 0 (by have := (rightB_iff F).1 hr; omega) (by omega))
  have hwb : wys F 13 0 ≤ 1048576 + 2000 * 13 := wys_le F (fun es he => by have := h6R es he; omega) 13 0
  have hw' : ((wys F 13 0 : Nat) : Int) ≤ 1000 := by omega
  have hcnt : cntW F F.length 0 ≤ 1000 := Nat.le_trans (wys_cnt F 13 F.length 0 hw) hw
  have KT := fun (W : World) h => Lib.hid (theirs_full A c F h6 h6R W h)
  have KS := fun A c h1 h2 (W : World) h => Lib.hid (spans_any A c F hr ho hcnt h1 h2 W h)
  have KD := fun (W : World) h => Lib.hid (rdecode_any A c F hm t wd ht (by omega) W h hr)
  have HFI := Lib.hid (fun l (h1 : l.Perm (spansS F)) (h2 : Rising l) => fine hr ho h1 h2 (t := t) (w := wd) ht (by omega))
  rw [hd] at KD
  unfold rhit at KD
  have HDD := Lib.hid hd
  generalize wys F 13 0 = W at *
  clear hF hf hR h6R hf' hr hm ho hcnt hd
  obtain ⟨b0, b1⟩ := hb
  obtain ⟨t0, t1⟩ := ht
  unfold TheirsFull at KT
  unfold SpansPost at KS
  rcases hmm with ⟨hm, rfl⟩ | ⟨hm, rfl⟩ | ⟨hm, rfl⟩ | ⟨hm, rfl⟩
  · obtain ⟨L, hLL⟩ : ∃ L, L = F.length := ⟨_, rfl⟩
    have HLL := Lib.hid hLL
    rw [← hLL] at K KR KW KT KS KD ⊢
    clear hLL
    go_enter Try.func5, Try.ntmps5
    go_wp2_with fail
    refine (awake_any _).mono ?_
    rintro e w1 ⟨rfl, g1⟩
    have G1 := Lib.hid g1
    clear g1
    go_wp2_with fail
    refine ((K _ (HF.out.stays G1.out)).out).mono ?_
    rintro e w2 ⟨rfl, rfl⟩
    go_wp2_with fail
    refine ((KR _ (HF.out.stays G1.out)).out).mono ?_
    rintro e w3 ⟨rfl, g3⟩
    have G3 := Lib.hid (bw_trans G1.out g3)
    clear g3
    go_wp2_with fail
    refine ((KW _ (HF.out.stays G3.out)).out).mono ?_
    rintro e w4 ⟨rfl, rfl⟩
    go_wp2_with fail
    refine ((KT _ (HF.out.stays G3.out)).out).mono ?_
    rintro e w5 ⟨A5, c5, rfl, f5, g5, hc5, hm5⟩
    have F5 := Lib.hid f5
    have G5 := Lib.hid (bw_trans G3.out g5)
    clear g5 f5
    go_wp2_with fail
    refine ((KS A5 c5 hc5 hm5 _ F5.out).out).mono ?_
    rintro e w6 ⟨A6, n6, c6, l, rfl, hln, hlp, hlr, own6, g6, hn6⟩
    have G6 := Lib.hid (bw_trans G5.out g6)
    have LN := Lib.hid hln
    have SA := Lib.hid (spans_own own6 hln)
    have FI := Lib.hid (HFI.out l hlp hlr)
    have CP := Lib.hid (own6.2)
    clear g6 own6 hlp hlr hln F5 hc5 hm5 KT KS K KR
    go_wp2_with fail
    refine ((KD _ (HF.out.stays G6.out)).out).mono ?_
    rintro e w7 ⟨rfl, g7⟩
    have S7 := Lib.hid (SA.out.stays g7)
    have G7 := Lib.hid (bw_trans G6.out g7)
    clear g7 SA KD
    go_wp2_with fail
    go_loopg [6, 13, 14, 15, 52] n6 (fun gg _ s13 _ _ s52 wr => ∃ i : Nat, i ≤ n6 ∧ n6 - i ≤ gg ∧ s52 = .int .i64 i ∧ s13 = .bool ((l.take i).any (hasB t 1)) ∧ Hid (Below w.heap.size w wr) ∧ Hid (SpansAt wr A6 l))
    case atStart => exact ⟨0, Nat.zero_le _, by omega, rfl, rfl, G7, S7⟩
    case round =>
      obtain ⟨i, hi, hg, rfl, rfl, BW, SW⟩ := hrel
      by_cases hlt : i < n6
      · have hiE : i < l.length := by rw [LN.out]; exact hlt
        obtain ⟨ad, rfl, hat⟩ := SW.out i hiE
        obtain ⟨p0, p1, p2, p3, p4⟩ := FI.out.nums i hiE
        have hcm := Lib.hid (FI.out.come i hiE)
        have htk : (l.take (i + 1)).any (hasB t 1) = ((l.take i).any (hasB t 1) || hasB t 1 l[i]) := by
          rw [List.take_succ_eq_append_getElem hiE, List.any_append]; simp
        have HTK := Lib.hid htk
        have hris : ∀ j, (h : i = j + 1) → (l[j]'(by omega)).a + ((l[j]'(by omega)).s - 1) < l[i].a := fun j h => by
          subst h
          have := FI.out.rise j hiE
          omega
        have HRI := Lib.hid hris
        clear htk hris
        generalize l[i] = s at *
        obtain ⟨sa, ss, sd, so⟩ := s
        obtain ⟨x0, x1, x2, x3⟩ := hat
        simp only at x0 x1 x2 x3 p0 p1 p2 p3 p4
        have z1 : (ss == 0) = false := by simp; omega
        have z2 : ss - 1 ≤ 18446744073709551615 - sa := by omega
        have z3 : 0 ≤ ss - 1 := by omega
        have z4 : 0 ≤ 18446744073709551615 - sa := by omega
        go_wp2_with fail
        have EB := Bk.new wr 43 #[.int .u64 sa, .int .u64 ss, .int .i64 sd, .int .u64 so]
        have BV := Lib.hid (bw_alloc BW.out (.cells #[.int .u64 sa, .int .u64 ss, .int .i64 sd, .int .u64 so] 43))
        have SV := Lib.hid (SW.out.stays (bw_alloc (Below.refl wr.heap.size wr) (.cells #[.int .u64 sa, .int .u64 ss, .int .i64 sd, .int .u64 so] 43)))
        generalize wr.alloc (.cells #[.int .u64 sa, .int .u64 ss, .int .i64 sd, .int .u64 so] 43) = V at EB BV SV
        generalize wr.heap.size = q at EB
        have y0 := EB.cell 0
        have y1 := EB.cell 1
        have y2 := EB.cell 2
        have y3 := EB.cell 3
        simp at y0 y1 y2 y3
        have z5 : decide (18446744073709551615 - sa < ss - 1) = false := decide_eq_false (by omega)
        clear EB x0 x1 x2 x3
        rcases Nat.eq_zero_or_pos i with rfl | hp
        · go_quiet (fail)
          clear z1 z2 z3 z4 z5
          by_cases k1 : sa ≤ t
          · have k1' : 0 ≤ t - sa := by omega
            by_cases k2 : (1 : Int) ≤ ss
            · have k2' : 0 ≤ ss - 1 := by omega
              by_cases k3 : t - sa ≤ ss - 1
              · have hb : hasB t 1 ⟨sa, ss, sd, so⟩ = true := hasB_iff.2 ⟨k1, k2, k3⟩
                obtain ⟨h', hdd⟩ := hcm.out hb
                have hdd2 := HDD.out.symm.trans hdd
                rw [hb, Bool.or_true] at HTK
                have HTK2 := Lib.hid HTK.out
                clear HTK hb
                simp only [Option.some.injEq, Prod.mk.injEq] at hdd2
                obtain ⟨e1, e2, e9⟩ := hdd2
                clear e9
                subst e1
                have e3 : (o == so + (t - sa)) = true := by rw [e2]; simp
                have e4 : 0 ≤ so + (t - sa) := by omega
                have e5 : so + (t - sa) < 18446744073709551616 := by omega
                clear e2 hdd hcm
                go_wp2_with fail
                go_roundg (n6 - (0 + 1))
                case measure => omega
                case rel => exact ⟨0 + 1, by omega, by omega, by go_num, by rw [HTK2.out]; first | done | rfl, bw_drewN BV.out nq, SV.out.stays (bw_drewN (Below.refl _ _) nq)⟩
              · have hb : hasB t 1 ⟨sa, ss, sd, so⟩ = false := by
                  cases hq : hasB t 1 ⟨sa, ss, sd, so⟩
                  · rfl
                  · exact absurd (hasB_iff.1 hq).2.2 k3
                rw [hb, Bool.or_false] at HTK
                have HTK2 := Lib.hid HTK.out
                clear HTK hb
                go_wp2_with fail
                go_roundg (n6 - (0 + 1))
                case measure => omega
                case rel => exact ⟨0 + 1, by omega, by omega, by go_num, by rw [HTK2.out]; first | done | rfl, bw_drewN BV.out nq, SV.out.stays (bw_drewN (Below.refl _ _) nq)⟩
            · exact absurd p1 k2
          · have hb : hasB t 1 ⟨sa, ss, sd, so⟩ = false := by
              cases hq : hasB t 1 ⟨sa, ss, sd, so⟩
              · rfl
              · exact absurd (hasB_iff.1 hq).1 k1
            rw [hb, Bool.or_false] at HTK
            have HTK2 := Lib.hid HTK.out
            clear HTK hb
            go_wp2_with fail
            go_roundg (n6 - (0 + 1))
            case measure => omega
            case rel => exact ⟨0 + 1, by omega, by omega, by go_num, by rw [HTK2.out]; first | done | rfl, bw_drewN BV.out nq, SV.out.stays (bw_drewN (Below.refl _ _) nq)⟩
        · obtain ⟨j, rfl⟩ : ∃ j, i = j + 1 := ⟨i - 1, by omega⟩
          have hr0 := HRI.out j rfl
          obtain ⟨ad', had', hprev⟩ := SV.out j (by omega)
          injection had' with had'
          subst had'
          obtain ⟨r0, r1, r2, _⟩ := FI.out.nums j (by omega)
          generalize l[j]'(by omega) = pv at hr0 hprev r0 r1 r2
          obtain ⟨pa, ps, pd, po⟩ := pv
          obtain ⟨v0, v1, _, _⟩ := hprev
          simp only at hr0 v0 v1 r0 r1 r2
          have hj1 : ((j + 1 : Nat) : Int) - 1 = j := by omega
          have hj2 : (0 : Int) ≤ j := by omega
          have hj3 : (j : Int) < n6 := by omega
          have hj4 : (0 : Int) < ((j + 1 : Nat) : Int) := by omega
          have hr1 : ¬ sa ≤ pa + (ps - 1) := by omega
          have hr2 : 0 ≤ ps - 1 := by omega
          have hr3 : decide (sa ≤ pa + (ps - 1)) = false := decide_eq_false hr1
          have hj5 : decide ((0 : Int) < ((j + 1 : Nat) : Int)) = true := decide_eq_true hj4
          have hj6 : decide ((0 : Int) < (j : Int) + 1) = true := decide_eq_true (by omega)
          go_quiet (fail)
          clear z1 z2 z3 z4 z5
          by_cases k1 : sa ≤ t
          · have k1' : 0 ≤ t - sa := by omega
            by_cases k2 : (1 : Int) ≤ ss
            · have k2' : 0 ≤ ss - 1 := by omega
              by_cases k3 : t - sa ≤ ss - 1
              · have hb : hasB t 1 ⟨sa, ss, sd, so⟩ = true := hasB_iff.2 ⟨k1, k2, k3⟩
                obtain ⟨h', hdd⟩ := hcm.out hb
                have hdd2 := HDD.out.symm.trans hdd
                rw [hb, Bool.or_true] at HTK
                have HTK2 := Lib.hid HTK.out
                clear HTK hb
                simp only [Option.some.injEq, Prod.mk.injEq] at hdd2
                obtain ⟨e1, e2, e9⟩ := hdd2
                clear e9
                subst e1
                have e3 : (o == so + (t - sa)) = true := by rw [e2]; simp
                have e4 : 0 ≤ so + (t - sa) := by omega
                have e5 : so + (t - sa) < 18446744073709551616 := by omega
                clear e2 hdd hcm
                go_wp2_with fail
                go_roundg (n6 - ((j + 1) + 1))
                case measure => omega
                case rel => exact ⟨(j + 1) + 1, by omega, by omega, by go_num, by rw [HTK2.out]; first | done | rfl, bw_drewN BV.out nq, SV.out.stays (bw_drewN (Below.refl _ _) nq)⟩
              · have hb : hasB t 1 ⟨sa, ss, sd, so⟩ = false := by
                  cases hq : hasB t 1 ⟨sa, ss, sd, so⟩
                  · rfl
                  · exact absurd (hasB_iff.1 hq).2.2 k3
                rw [hb, Bool.or_false] at HTK
                have HTK2 := Lib.hid HTK.out
                clear HTK hb
                go_wp2_with fail
                go_roundg (n6 - ((j + 1) + 1))
                case measure => omega
                case rel => exact ⟨(j + 1) + 1, by omega, by omega, by go_num, by rw [HTK2.out]; first | done | rfl, bw_drewN BV.out nq, SV.out.stays (bw_drewN (Below.refl _ _) nq)⟩
            · exact absurd p1 k2
          · have hb : hasB t 1 ⟨sa, ss, sd, so⟩ = false := by
              cases hq : hasB t 1 ⟨sa, ss, sd, so⟩
              · rfl
              · exact absurd (hasB_iff.1 hq).1 k1
            rw [hb, Bool.or_false] at HTK
            have HTK2 := Lib.hid HTK.out
            clear HTK hb
            go_wp2_with fail
            go_roundg (n6 - ((j + 1) + 1))
            case measure => omega
            case rel => exact ⟨(j + 1) + 1, by omega, by omega, by go_num, by rw [HTK2.out]; first | done | rfl, bw_drewN BV.out nq, SV.out.stays (bw_drewN (Below.refl _ _) nq)⟩
      · obtain rfl : i = n6 := by omega
        have hany : (l.take i).any (hasB t 1) = true := by
          rw [List.take_of_length_le (by have := LN.out; omega)]
          exact FI.out.stay _ HDD.out
        go_wp2_with fail
        go_ret
        exact ⟨rfl, BW.out⟩
  · obtain ⟨L, hLL⟩ : ∃ L, L = F.length := ⟨_, rfl⟩
    have HLL := Lib.hid hLL
    rw [← hLL] at K KR KW KT KS KD ⊢
    clear hLL
    go_enter Try.func5, Try.ntmps5
    go_wp2_with fail
    refine (awake_any _).mono ?_
    rintro e w1 ⟨rfl, g1⟩
    have G1 := Lib.hid g1
    clear g1
    go_wp2_with fail
    refine ((K _ (HF.out.stays G1.out)).out).mono ?_
    rintro e w2 ⟨rfl, rfl⟩
    go_wp2_with fail
    refine ((KR _ (HF.out.stays G1.out)).out).mono ?_
    rintro e w3 ⟨rfl, g3⟩
    have G3 := Lib.hid (bw_trans G1.out g3)
    clear g3
    go_wp2_with fail
    refine ((KW _ (HF.out.stays G3.out)).out).mono ?_
    rintro e w4 ⟨rfl, rfl⟩
    go_wp2_with fail
    refine ((KT _ (HF.out.stays G3.out)).out).mono ?_
    rintro e w5 ⟨A5, c5, rfl, f5, g5, hc5, hm5⟩
    have F5 := Lib.hid f5
    have G5 := Lib.hid (bw_trans G3.out g5)
    clear g5 f5
    go_wp2_with fail
    refine ((KS A5 c5 hc5 hm5 _ F5.out).out).mono ?_
    rintro e w6 ⟨A6, n6, c6, l, rfl, hln, hlp, hlr, own6, g6, hn6⟩
    have G6 := Lib.hid (bw_trans G5.out g6)
    have LN := Lib.hid hln
    have SA := Lib.hid (spans_own own6 hln)
    have FI := Lib.hid (HFI.out l hlp hlr)
    have CP := Lib.hid (own6.2)
    clear g6 own6 hlp hlr hln F5 hc5 hm5 KT KS K KR
    go_wp2_with fail
    refine ((KD _ (HF.out.stays G6.out)).out).mono ?_
    rintro e w7 ⟨rfl, g7⟩
    have S7 := Lib.hid (SA.out.stays g7)
    have G7 := Lib.hid (bw_trans G6.out g7)
    clear g7 SA KD
    go_wp2_with fail
    go_loopg [6, 13, 14, 15, 52] n6 (fun gg _ s13 _ _ s52 wr => ∃ i : Nat, i ≤ n6 ∧ n6 - i ≤ gg ∧ s52 = .int .i64 i ∧ s13 = .bool ((l.take i).any (hasB t 2)) ∧ Hid (Below w.heap.size w wr) ∧ Hid (SpansAt wr A6 l))
    case atStart => exact ⟨0, Nat.zero_le _, by omega, rfl, rfl, G7, S7⟩
    case round =>
      obtain ⟨i, hi, hg, rfl, rfl, BW, SW⟩ := hrel
      by_cases hlt : i < n6
      · have hiE : i < l.length := by rw [LN.out]; exact hlt
        obtain ⟨ad, rfl, hat⟩ := SW.out i hiE
        obtain ⟨p0, p1, p2, p3, p4⟩ := FI.out.nums i hiE
        have hcm := Lib.hid (FI.out.come i hiE)
        have htk : (l.take (i + 1)).any (hasB t 2) = ((l.take i).any (hasB t 2) || hasB t 2 l[i]) := by
          rw [List.take_succ_eq_append_getElem hiE, List.any_append]; simp
        have HTK := Lib.hid htk
        have hris : ∀ j, (h : i = j + 1) → (l[j]'(by omega)).a + ((l[j]'(by omega)).s - 1) < l[i].a := fun j h => by
          subst h
          have := FI.out.rise j hiE
          omega
        have HRI := Lib.hid hris
        clear htk hris
        generalize l[i] = s at *
        obtain ⟨sa, ss, sd, so⟩ := s
        obtain ⟨x0, x1, x2, x3⟩ := hat
        simp only at x0 x1 x2 x3 p0 p1 p2 p3 p4
        have z1 : (ss == 0) = false := by simp; omega
        have z2 : ss - 1 ≤ 18446744073709551615 - sa := by omega
        have z3 : 0 ≤ ss - 1 := by omega
        have z4 : 0 ≤ 18446744073709551615 - sa := by omega
        go_wp2_with fail
        have EB := Bk.new wr 43 #[.int .u64 sa, .int .u64 ss, .int .i64 sd, .int .u64 so]
        have BV := Lib.hid (bw_alloc BW.out (.cells #[.int .u64 sa, .int .u64 ss, .int .i64 sd, .int .u64 so] 43))
        have SV := Lib.hid (SW.out.stays (bw_alloc (Below.refl wr.heap.size wr) (.cells #[.int .u64 sa, .int .u64 ss, .int .i64 sd, .int .u64 so] 43)))
        generalize wr.alloc (.cells #[.int .u64 sa, .int .u64 ss, .int .i64 sd, .int .u64 so] 43) = V at EB BV SV
        generalize wr.heap.size = q at EB
        have y0 := EB.cell 0
        have y1 := EB.cell 1
        have y2 := EB.cell 2
        have y3 := EB.cell 3
        simp at y0 y1 y2 y3
        have z5 : decide (18446744073709551615 - sa < ss - 1) = false := decide_eq_false (by omega)
        clear EB x0 x1 x2 x3
        rcases Nat.eq_zero_or_pos i with rfl | hp
        · go_quiet (fail)
          clear z1 z2 z3 z4 z5
          by_cases k1 : sa ≤ t
          · have k1' : 0 ≤ t - sa := by omega
            by_cases k2 : (2 : Int) ≤ ss
            · have k2' : 0 ≤ ss - 2 := by omega
              by_cases k3 : t - sa ≤ ss - 2
              · have hb : hasB t 2 ⟨sa, ss, sd, so⟩ = true := hasB_iff.2 ⟨k1, k2, k3⟩
                obtain ⟨h', hdd⟩ := hcm.out hb
                have hdd2 := HDD.out.symm.trans hdd
                rw [hb, Bool.or_true] at HTK
                have HTK2 := Lib.hid HTK.out
                clear HTK hb
                simp only [Option.some.injEq, Prod.mk.injEq] at hdd2
                obtain ⟨e1, e2, e9⟩ := hdd2
                clear e9
                subst e1
                have e3 : (o == so + (t - sa)) = true := by rw [e2]; simp
                have e4 : 0 ≤ so + (t - sa) := by omega
                have e5 : so + (t - sa) < 18446744073709551616 := by omega
                clear e2 hdd hcm
                go_wp2_with fail
                go_roundg (n6 - (0 + 1))
                case measure => omega
                case rel => exact ⟨0 + 1, by omega, by omega, by go_num, by rw [HTK2.out]; first | done | rfl, bw_drewN BV.out nq, SV.out.stays (bw_drewN (Below.refl _ _) nq)⟩
              · have hb : hasB t 2 ⟨sa, ss, sd, so⟩ = false := by
                  cases hq : hasB t 2 ⟨sa, ss, sd, so⟩
                  · rfl
                  · exact absurd (hasB_iff.1 hq).2.2 k3
                rw [hb, Bool.or_false] at HTK
                have HTK2 := Lib.hid HTK.out
                clear HTK hb
                go_wp2_with fail
                go_roundg (n6 - (0 + 1))
                case measure => omega
                case rel => exact ⟨0 + 1, by omega, by omega, by go_num, by rw [HTK2.out]; first | done | rfl, bw_drewN BV.out nq, SV.out.stays (bw_drewN (Below.refl _ _) nq)⟩
            · have hb : hasB t 2 ⟨sa, ss, sd, so⟩ = false := by
                cases hq : hasB t 2 ⟨sa, ss, sd, so⟩
                · rfl
                · exact absurd (hasB_iff.1 hq).2.1 k2
              rw [hb, Bool.or_false] at HTK
              have HTK2 := Lib.hid HTK.out
              clear HTK hb
              go_wp2_with fail
              go_roundg (n6 - (0 + 1))
              case measure => omega
              case rel => exact ⟨0 + 1, by omega, by omega, by go_num, by rw [HTK2.out]; first | done | rfl, bw_drewN BV.out nq, SV.out.stays (bw_drewN (Below.refl _ _) nq)⟩
          · have hb : hasB t 2 ⟨sa, ss, sd, so⟩ = false := by
              cases hq : hasB t 2 ⟨sa, ss, sd, so⟩
              · rfl
              · exact absurd (hasB_iff.1 hq).1 k1
            rw [hb, Bool.or_false] at HTK
            have HTK2 := Lib.hid HTK.out
            clear HTK hb
            go_wp2_with fail
            go_roundg (n6 - (0 + 1))
            case measure => omega
            case rel => exact ⟨0 + 1, by omega, by omega, by go_num, by rw [HTK2.out]; first | done | rfl, bw_drewN BV.out nq, SV.out.stays (bw_drewN (Below.refl _ _) nq)⟩
        · obtain ⟨j, rfl⟩ : ∃ j, i = j + 1 := ⟨i - 1, by omega⟩
          have hr0 := HRI.out j rfl
          obtain ⟨ad', had', hprev⟩ := SV.out j (by omega)
          injection had' with had'
          subst had'
          obtain ⟨r0, r1, r2, _⟩ := FI.out.nums j (by omega)
          generalize l[j]'(by omega) = pv at hr0 hprev r0 r1 r2
          obtain ⟨pa, ps, pd, po⟩ := pv
          obtain ⟨v0, v1, _, _⟩ := hprev
          simp only at hr0 v0 v1 r0 r1 r2
          have hj1 : ((j + 1 : Nat) : Int) - 1 = j := by omega
          have hj2 : (0 : Int) ≤ j := by omega
          have hj3 : (j : Int) < n6 := by omega
          have hj4 : (0 : Int) < ((j + 1 : Nat) : Int) := by omega
          have hr1 : ¬ sa ≤ pa + (ps - 1) := by omega
          have hr2 : 0 ≤ ps - 1 := by omega
          have hr3 : decide (sa ≤ pa + (ps - 1)) = false := decide_eq_false hr1
          have hj5 : decide ((0 : Int) < ((j + 1 : Nat) : Int)) = true := decide_eq_true hj4
          have hj6 : decide ((0 : Int) < (j : Int) + 1) = true := decide_eq_true (by omega)
          go_quiet (fail)
          clear z1 z2 z3 z4 z5
          by_cases k1 : sa ≤ t
          · have k1' : 0 ≤ t - sa := by omega
            by_cases k2 : (2 : Int) ≤ ss
            · have k2' : 0 ≤ ss - 2 := by omega
              by_cases k3 : t - sa ≤ ss - 2
              · have hb : hasB t 2 ⟨sa, ss, sd, so⟩ = true := hasB_iff.2 ⟨k1, k2, k3⟩
                obtain ⟨h', hdd⟩ := hcm.out hb
                have hdd2 := HDD.out.symm.trans hdd
                rw [hb, Bool.or_true] at HTK
                have HTK2 := Lib.hid HTK.out
                clear HTK hb
                simp only [Option.some.injEq, Prod.mk.injEq] at hdd2
                obtain ⟨e1, e2, e9⟩ := hdd2
                clear e9
                subst e1
                have e3 : (o == so + (t - sa)) = true := by rw [e2]; simp
                have e4 : 0 ≤ so + (t - sa) := by omega
                have e5 : so + (t - sa) < 18446744073709551616 := by omega
                clear e2 hdd hcm
                go_wp2_with fail
                go_roundg (n6 - ((j + 1) + 1))
                case measure => omega
                case rel => exact ⟨(j + 1) + 1, by omega, by omega, by go_num, by rw [HTK2.out]; first | done | rfl, bw_drewN BV.out nq, SV.out.stays (bw_drewN (Below.refl _ _) nq)⟩
              · have hb : hasB t 2 ⟨sa, ss, sd, so⟩ = false := by
                  cases hq : hasB t 2 ⟨sa, ss, sd, so⟩
                  · rfl
                  · exact absurd (hasB_iff.1 hq).2.2 k3
                rw [hb, Bool.or_false] at HTK
                have HTK2 := Lib.hid HTK.out
                clear HTK hb
                go_wp2_with fail
                go_roundg (n6 - ((j + 1) + 1))
                case measure => omega
                case rel => exact ⟨(j + 1) + 1, by omega, by omega, by go_num, by rw [HTK2.out]; first | done | rfl, bw_drewN BV.out nq, SV.out.stays (bw_drewN (Below.refl _ _) nq)⟩
            · have hb : hasB t 2 ⟨sa, ss, sd, so⟩ = false := by
                cases hq : hasB t 2 ⟨sa, ss, sd, so⟩
                · rfl
                · exact absurd (hasB_iff.1 hq).2.1 k2
              rw [hb, Bool.or_false] at HTK
              have HTK2 := Lib.hid HTK.out
              clear HTK hb
              go_wp2_with fail
              go_roundg (n6 - ((j + 1) + 1))
              case measure => omega
              case rel => exact ⟨(j + 1) + 1, by omega, by omega, by go_num, by rw [HTK2.out]; first | done | rfl, bw_drewN BV.out nq, SV.out.stays (bw_drewN (Below.refl _ _) nq)⟩
          · have hb : hasB t 2 ⟨sa, ss, sd, so⟩ = false := by
              cases hq : hasB t 2 ⟨sa, ss, sd, so⟩
              · rfl
              · exact absurd (hasB_iff.1 hq).1 k1
            rw [hb, Bool.or_false] at HTK
            have HTK2 := Lib.hid HTK.out
            clear HTK hb
            go_wp2_with fail
            go_roundg (n6 - ((j + 1) + 1))
            case measure => omega
            case rel => exact ⟨(j + 1) + 1, by omega, by omega, by go_num, by rw [HTK2.out]; first | done | rfl, bw_drewN BV.out nq, SV.out.stays (bw_drewN (Below.refl _ _) nq)⟩
      · obtain rfl : i = n6 := by omega
        have hany : (l.take i).any (hasB t 2) = true := by
          rw [List.take_of_length_le (by have := LN.out; omega)]
          exact FI.out.stay _ HDD.out
        go_wp2_with fail
        go_ret
        exact ⟨rfl, BW.out⟩
  · obtain ⟨L, hLL⟩ : ∃ L, L = F.length := ⟨_, rfl⟩
    have HLL := Lib.hid hLL
    rw [← hLL] at K KR KW KT KS KD ⊢
    clear hLL
    go_enter Try.func5, Try.ntmps5
    go_wp2_with fail
    refine (awake_any _).mono ?_
    rintro e w1 ⟨rfl, g1⟩
    have G1 := Lib.hid g1
    clear g1
    go_wp2_with fail
    refine ((K _ (HF.out.stays G1.out)).out).mono ?_
    rintro e w2 ⟨rfl, rfl⟩
    go_wp2_with fail
    refine ((KR _ (HF.out.stays G1.out)).out).mono ?_
    rintro e w3 ⟨rfl, g3⟩
    have G3 := Lib.hid (bw_trans G1.out g3)
    clear g3
    go_wp2_with fail
    refine ((KW _ (HF.out.stays G3.out)).out).mono ?_
    rintro e w4 ⟨rfl, rfl⟩
    go_wp2_with fail
    refine ((KT _ (HF.out.stays G3.out)).out).mono ?_
    rintro e w5 ⟨A5, c5, rfl, f5, g5, hc5, hm5⟩
    have F5 := Lib.hid f5
    have G5 := Lib.hid (bw_trans G3.out g5)
    clear g5 f5
    go_wp2_with fail
    refine ((KS A5 c5 hc5 hm5 _ F5.out).out).mono ?_
    rintro e w6 ⟨A6, n6, c6, l, rfl, hln, hlp, hlr, own6, g6, hn6⟩
    have G6 := Lib.hid (bw_trans G5.out g6)
    have LN := Lib.hid hln
    have SA := Lib.hid (spans_own own6 hln)
    have FI := Lib.hid (HFI.out l hlp hlr)
    have CP := Lib.hid (own6.2)
    clear g6 own6 hlp hlr hln F5 hc5 hm5 KT KS K KR
    go_wp2_with fail
    refine ((KD _ (HF.out.stays G6.out)).out).mono ?_
    rintro e w7 ⟨rfl, g7⟩
    have S7 := Lib.hid (SA.out.stays g7)
    have G7 := Lib.hid (bw_trans G6.out g7)
    clear g7 SA KD
    go_wp2_with fail
    go_loopg [6, 13, 14, 15, 52] n6 (fun gg _ s13 _ _ s52 wr => ∃ i : Nat, i ≤ n6 ∧ n6 - i ≤ gg ∧ s52 = .int .i64 i ∧ s13 = .bool ((l.take i).any (hasB t 4)) ∧ Hid (Below w.heap.size w wr) ∧ Hid (SpansAt wr A6 l))
    case atStart => exact ⟨0, Nat.zero_le _, by omega, rfl, rfl, G7, S7⟩
    case round =>
      obtain ⟨i, hi, hg, rfl, rfl, BW, SW⟩ := hrel
      by_cases hlt : i < n6
      · have hiE : i < l.length := by rw [LN.out]; exact hlt
        obtain ⟨ad, rfl, hat⟩ := SW.out i hiE
        obtain ⟨p0, p1, p2, p3, p4⟩ := FI.out.nums i hiE
        have hcm := Lib.hid (FI.out.come i hiE)
        have htk : (l.take (i + 1)).any (hasB t 4) = ((l.take i).any (hasB t 4) || hasB t 4 l[i]) := by
          rw [List.take_succ_eq_append_getElem hiE, List.any_append]; simp
        have HTK := Lib.hid htk
        have hris : ∀ j, (h : i = j + 1) → (l[j]'(by omega)).a + ((l[j]'(by omega)).s - 1) < l[i].a := fun j h => by
          subst h
          have := FI.out.rise j hiE
          omega
        have HRI := Lib.hid hris
        clear htk hris
        generalize l[i] = s at *
        obtain ⟨sa, ss, sd, so⟩ := s
        obtain ⟨x0, x1, x2, x3⟩ := hat
        simp only at x0 x1 x2 x3 p0 p1 p2 p3 p4
        have z1 : (ss == 0) = false := by simp; omega
        have z2 : ss - 1 ≤ 18446744073709551615 - sa := by omega
        have z3 : 0 ≤ ss - 1 := by omega
        have z4 : 0 ≤ 18446744073709551615 - sa := by omega
        go_wp2_with fail
        have EB := Bk.new wr 43 #[.int .u64 sa, .int .u64 ss, .int .i64 sd, .int .u64 so]
        have BV := Lib.hid (bw_alloc BW.out (.cells #[.int .u64 sa, .int .u64 ss, .int .i64 sd, .int .u64 so] 43))
        have SV := Lib.hid (SW.out.stays (bw_alloc (Below.refl wr.heap.size wr) (.cells #[.int .u64 sa, .int .u64 ss, .int .i64 sd, .int .u64 so] 43)))
        generalize wr.alloc (.cells #[.int .u64 sa, .int .u64 ss, .int .i64 sd, .int .u64 so] 43) = V at EB BV SV
        generalize wr.heap.size = q at EB
        have y0 := EB.cell 0
        have y1 := EB.cell 1
        have y2 := EB.cell 2
        have y3 := EB.cell 3
        simp at y0 y1 y2 y3
        have z5 : decide (18446744073709551615 - sa < ss - 1) = false := decide_eq_false (by omega)
        clear EB x0 x1 x2 x3
        rcases Nat.eq_zero_or_pos i with rfl | hp
        · go_quiet (fail)
          clear z1 z2 z3 z4 z5
          by_cases k1 : sa ≤ t
          · have k1' : 0 ≤ t - sa := by omega
            by_cases k2 : (4 : Int) ≤ ss
            · have k2' : 0 ≤ ss - 4 := by omega
              by_cases k3 : t - sa ≤ ss - 4
              · have hb : hasB t 4 ⟨sa, ss, sd, so⟩ = true := hasB_iff.2 ⟨k1, k2, k3⟩
                obtain ⟨h', hdd⟩ := hcm.out hb
                have hdd2 := HDD.out.symm.trans hdd
                rw [hb, Bool.or_true] at HTK
                have HTK2 := Lib.hid HTK.out
                clear HTK hb
                simp only [Option.some.injEq, Prod.mk.injEq] at hdd2
                obtain ⟨e1, e2, e9⟩ := hdd2
                clear e9
                subst e1
                have e3 : (o == so + (t - sa)) = true := by rw [e2]; simp
                have e4 : 0 ≤ so + (t - sa) := by omega
                have e5 : so + (t - sa) < 18446744073709551616 := by omega
                clear e2 hdd hcm
                go_wp2_with fail
                go_roundg (n6 - (0 + 1))
                case measure => omega
                case rel => exact ⟨0 + 1, by omega, by omega, by go_num, by rw [HTK2.out]; first | done | rfl, bw_drewN BV.out nq, SV.out.stays (bw_drewN (Below.refl _ _) nq)⟩
              · have hb : hasB t 4 ⟨sa, ss, sd, so⟩ = false := by
                  cases hq : hasB t 4 ⟨sa, ss, sd, so⟩
                  · rfl
                  · exact absurd (hasB_iff.1 hq).2.2 k3
                rw [hb, Bool.or_false] at HTK
                have HTK2 := Lib.hid HTK.out
                clear HTK hb
                go_wp2_with fail
                go_roundg (n6 - (0 + 1))
                case measure => omega
                case rel => exact ⟨0 + 1, by omega, by omega, by go_num, by rw [HTK2.out]; first | done | rfl, bw_drewN BV.out nq, SV.out.stays (bw_drewN (Below.refl _ _) nq)⟩
            · have hb : hasB t 4 ⟨sa, ss, sd, so⟩ = false := by
                cases hq : hasB t 4 ⟨sa, ss, sd, so⟩
                · rfl
                · exact absurd (hasB_iff.1 hq).2.1 k2
              rw [hb, Bool.or_false] at HTK
              have HTK2 := Lib.hid HTK.out
              clear HTK hb
              go_wp2_with fail
              go_roundg (n6 - (0 + 1))
              case measure => omega
              case rel => exact ⟨0 + 1, by omega, by omega, by go_num, by rw [HTK2.out]; first | done | rfl, bw_drewN BV.out nq, SV.out.stays (bw_drewN (Below.refl _ _) nq)⟩
          · have hb : hasB t 4 ⟨sa, ss, sd, so⟩ = false := by
              cases hq : hasB t 4 ⟨sa, ss, sd, so⟩
              · rfl
              · exact absurd (hasB_iff.1 hq).1 k1
            rw [hb, Bool.or_false] at HTK
            have HTK2 := Lib.hid HTK.out
            clear HTK hb
            go_wp2_with fail
            go_roundg (n6 - (0 + 1))
            case measure => omega
            case rel => exact ⟨0 + 1, by omega, by omega, by go_num, by rw [HTK2.out]; first | done | rfl, bw_drewN BV.out nq, SV.out.stays (bw_drewN (Below.refl _ _) nq)⟩
        · obtain ⟨j, rfl⟩ : ∃ j, i = j + 1 := ⟨i - 1, by omega⟩
          have hr0 := HRI.out j rfl
          obtain ⟨ad', had', hprev⟩ := SV.out j (by omega)
          injection had' with had'
          subst had'
          obtain ⟨r0, r1, r2, _⟩ := FI.out.nums j (by omega)
          generalize l[j]'(by omega) = pv at hr0 hprev r0 r1 r2
          obtain ⟨pa, ps, pd, po⟩ := pv
          obtain ⟨v0, v1, _, _⟩ := hprev
          simp only at hr0 v0 v1 r0 r1 r2
          have hj1 : ((j + 1 : Nat) : Int) - 1 = j := by omega
          have hj2 : (0 : Int) ≤ j := by omega
          have hj3 : (j : Int) < n6 := by omega
          have hj4 : (0 : Int) < ((j + 1 : Nat) : Int) := by omega
          have hr1 : ¬ sa ≤ pa + (ps - 1) := by omega
          have hr2 : 0 ≤ ps - 1 := by omega
          have hr3 : decide (sa ≤ pa + (ps - 1)) = false := decide_eq_false hr1
          have hj5 : decide ((0 : Int) < ((j + 1 : Nat) : Int)) = true := decide_eq_true hj4
          have hj6 : decide ((0 : Int) < (j : Int) + 1) = true := decide_eq_true (by omega)
          go_quiet (fail)
          clear z1 z2 z3 z4 z5
          by_cases k1 : sa ≤ t
          · have k1' : 0 ≤ t - sa := by omega
            by_cases k2 : (4 : Int) ≤ ss
            · have k2' : 0 ≤ ss - 4 := by omega
              by_cases k3 : t - sa ≤ ss - 4
              · have hb : hasB t 4 ⟨sa, ss, sd, so⟩ = true := hasB_iff.2 ⟨k1, k2, k3⟩
                obtain ⟨h', hdd⟩ := hcm.out hb
                have hdd2 := HDD.out.symm.trans hdd
                rw [hb, Bool.or_true] at HTK
                have HTK2 := Lib.hid HTK.out
                clear HTK hb
                simp only [Option.some.injEq, Prod.mk.injEq] at hdd2
                obtain ⟨e1, e2, e9⟩ := hdd2
                clear e9
                subst e1
                have e3 : (o == so + (t - sa)) = true := by rw [e2]; simp
                have e4 : 0 ≤ so + (t - sa) := by omega
                have e5 : so + (t - sa) < 18446744073709551616 := by omega
                clear e2 hdd hcm
                go_wp2_with fail
                go_roundg (n6 - ((j + 1) + 1))
                case measure => omega
                case rel => exact ⟨(j + 1) + 1, by omega, by omega, by go_num, by rw [HTK2.out]; first | done | rfl, bw_drewN BV.out nq, SV.out.stays (bw_drewN (Below.refl _ _) nq)⟩
              · have hb : hasB t 4 ⟨sa, ss, sd, so⟩ = false := by
                  cases hq : hasB t 4 ⟨sa, ss, sd, so⟩
                  · rfl
                  · exact absurd (hasB_iff.1 hq).2.2 k3
                rw [hb, Bool.or_false] at HTK
                have HTK2 := Lib.hid HTK.out
                clear HTK hb
                go_wp2_with fail
                go_roundg (n6 - ((j + 1) + 1))
                case measure => omega
                case rel => exact ⟨(j + 1) + 1, by omega, by omega, by go_num, by rw [HTK2.out]; first | done | rfl, bw_drewN BV.out nq, SV.out.stays (bw_drewN (Below.refl _ _) nq)⟩
            · have hb : hasB t 4 ⟨sa, ss, sd, so⟩ = false := by
                cases hq : hasB t 4 ⟨sa, ss, sd, so⟩
                · rfl
                · exact absurd (hasB_iff.1 hq).2.1 k2
              rw [hb, Bool.or_false] at HTK
              have HTK2 := Lib.hid HTK.out
              clear HTK hb
              go_wp2_with fail
              go_roundg (n6 - ((j + 1) + 1))
              case measure => omega
              case rel => exact ⟨(j + 1) + 1, by omega, by omega, by go_num, by rw [HTK2.out]; first | done | rfl, bw_drewN BV.out nq, SV.out.stays (bw_drewN (Below.refl _ _) nq)⟩
          · have hb : hasB t 4 ⟨sa, ss, sd, so⟩ = false := by
              cases hq : hasB t 4 ⟨sa, ss, sd, so⟩
              · rfl
              · exact absurd (hasB_iff.1 hq).1 k1
            rw [hb, Bool.or_false] at HTK
            have HTK2 := Lib.hid HTK.out
            clear HTK hb
            go_wp2_with fail
            go_roundg (n6 - ((j + 1) + 1))
            case measure => omega
            case rel => exact ⟨(j + 1) + 1, by omega, by omega, by go_num, by rw [HTK2.out]; first | done | rfl, bw_drewN BV.out nq, SV.out.stays (bw_drewN (Below.refl _ _) nq)⟩
      · obtain rfl : i = n6 := by omega
        have hany : (l.take i).any (hasB t 4) = true := by
          rw [List.take_of_length_le (by have := LN.out; omega)]
          exact FI.out.stay _ HDD.out
        go_wp2_with fail
        go_ret
        exact ⟨rfl, BW.out⟩
  · obtain ⟨L, hLL⟩ : ∃ L, L = F.length := ⟨_, rfl⟩
    have HLL := Lib.hid hLL
    rw [← hLL] at K KR KW KT KS KD ⊢
    clear hLL
    go_enter Try.func5, Try.ntmps5
    go_wp2_with fail
    refine (awake_any _).mono ?_
    rintro e w1 ⟨rfl, g1⟩
    have G1 := Lib.hid g1
    clear g1
    go_wp2_with fail
    refine ((K _ (HF.out.stays G1.out)).out).mono ?_
    rintro e w2 ⟨rfl, rfl⟩
    go_wp2_with fail
    refine ((KR _ (HF.out.stays G1.out)).out).mono ?_
    rintro e w3 ⟨rfl, g3⟩
    have G3 := Lib.hid (bw_trans G1.out g3)
    clear g3
    go_wp2_with fail
    refine ((KW _ (HF.out.stays G3.out)).out).mono ?_
    rintro e w4 ⟨rfl, rfl⟩
    go_wp2_with fail
    refine ((KT _ (HF.out.stays G3.out)).out).mono ?_
    rintro e w5 ⟨A5, c5, rfl, f5, g5, hc5, hm5⟩
    have F5 := Lib.hid f5
    have G5 := Lib.hid (bw_trans G3.out g5)
    clear g5 f5
    go_wp2_with fail
    refine ((KS A5 c5 hc5 hm5 _ F5.out).out).mono ?_
    rintro e w6 ⟨A6, n6, c6, l, rfl, hln, hlp, hlr, own6, g6, hn6⟩
    have G6 := Lib.hid (bw_trans G5.out g6)
    have LN := Lib.hid hln
    have SA := Lib.hid (spans_own own6 hln)
    have FI := Lib.hid (HFI.out l hlp hlr)
    have CP := Lib.hid (own6.2)
    clear g6 own6 hlp hlr hln F5 hc5 hm5 KT KS K KR
    go_wp2_with fail
    refine ((KD _ (HF.out.stays G6.out)).out).mono ?_
    rintro e w7 ⟨rfl, g7⟩
    have S7 := Lib.hid (SA.out.stays g7)
    have G7 := Lib.hid (bw_trans G6.out g7)
    clear g7 SA KD
    go_wp2_with fail
    go_loopg [6, 13, 14, 15, 52] n6 (fun gg _ s13 _ _ s52 wr => ∃ i : Nat, i ≤ n6 ∧ n6 - i ≤ gg ∧ s52 = .int .i64 i ∧ s13 = .bool ((l.take i).any (hasB t 8)) ∧ Hid (Below w.heap.size w wr) ∧ Hid (SpansAt wr A6 l))
    case atStart => exact ⟨0, Nat.zero_le _, by omega, rfl, rfl, G7, S7⟩
    case round =>
      obtain ⟨i, hi, hg, rfl, rfl, BW, SW⟩ := hrel
      by_cases hlt : i < n6
      · have hiE : i < l.length := by rw [LN.out]; exact hlt
        obtain ⟨ad, rfl, hat⟩ := SW.out i hiE
        obtain ⟨p0, p1, p2, p3, p4⟩ := FI.out.nums i hiE
        have hcm := Lib.hid (FI.out.come i hiE)
        have htk : (l.take (i + 1)).any (hasB t 8) = ((l.take i).any (hasB t 8) || hasB t 8 l[i]) := by
          rw [List.take_succ_eq_append_getElem hiE, List.any_append]; simp
        have HTK := Lib.hid htk
        have hris : ∀ j, (h : i = j + 1) → (l[j]'(by omega)).a + ((l[j]'(by omega)).s - 1) < l[i].a := fun j h => by
          subst h
          have := FI.out.rise j hiE
          omega
        have HRI := Lib.hid hris
        clear htk hris
        generalize l[i] = s at *
        obtain ⟨sa, ss, sd, so⟩ := s
        obtain ⟨x0, x1, x2, x3⟩ := hat
        simp only at x0 x1 x2 x3 p0 p1 p2 p3 p4
        have z1 : (ss == 0) = false := by simp; omega
        have z2 : ss - 1 ≤ 18446744073709551615 - sa := by omega
        have z3 : 0 ≤ ss - 1 := by omega
        have z4 : 0 ≤ 18446744073709551615 - sa := by omega
        go_wp2_with fail
        have EB := Bk.new wr 43 #[.int .u64 sa, .int .u64 ss, .int .i64 sd, .int .u64 so]
        have BV := Lib.hid (bw_alloc BW.out (.cells #[.int .u64 sa, .int .u64 ss, .int .i64 sd, .int .u64 so] 43))
        have SV := Lib.hid (SW.out.stays (bw_alloc (Below.refl wr.heap.size wr) (.cells #[.int .u64 sa, .int .u64 ss, .int .i64 sd, .int .u64 so] 43)))
        generalize wr.alloc (.cells #[.int .u64 sa, .int .u64 ss, .int .i64 sd, .int .u64 so] 43) = V at EB BV SV
        generalize wr.heap.size = q at EB
        have y0 := EB.cell 0
        have y1 := EB.cell 1
        have y2 := EB.cell 2
        have y3 := EB.cell 3
        simp at y0 y1 y2 y3
        have z5 : decide (18446744073709551615 - sa < ss - 1) = false := decide_eq_false (by omega)
        clear EB x0 x1 x2 x3
        rcases Nat.eq_zero_or_pos i with rfl | hp
        · go_quiet (fail)
          clear z1 z2 z3 z4 z5
          by_cases k1 : sa ≤ t
          · have k1' : 0 ≤ t - sa := by omega
            by_cases k2 : (8 : Int) ≤ ss
            · have k2' : 0 ≤ ss - 8 := by omega
              by_cases k3 : t - sa ≤ ss - 8
              · have hb : hasB t 8 ⟨sa, ss, sd, so⟩ = true := hasB_iff.2 ⟨k1, k2, k3⟩
                obtain ⟨h', hdd⟩ := hcm.out hb
                have hdd2 := HDD.out.symm.trans hdd
                rw [hb, Bool.or_true] at HTK
                have HTK2 := Lib.hid HTK.out
                clear HTK hb
                simp only [Option.some.injEq, Prod.mk.injEq] at hdd2
                obtain ⟨e1, e2, e9⟩ := hdd2
                clear e9
                subst e1
                have e3 : (o == so + (t - sa)) = true := by rw [e2]; simp
                have e4 : 0 ≤ so + (t - sa) := by omega
                have e5 : so + (t - sa) < 18446744073709551616 := by omega
                clear e2 hdd hcm
                go_wp2_with fail
                go_roundg (n6 - (0 + 1))
                case measure => omega
                case rel => exact ⟨0 + 1, by omega, by omega, by go_num, by rw [HTK2.out]; first | done | rfl, bw_drewN BV.out nq, SV.out.stays (bw_drewN (Below.refl _ _) nq)⟩
              · have hb : hasB t 8 ⟨sa, ss, sd, so⟩ = false := by
                  cases hq : hasB t 8 ⟨sa, ss, sd, so⟩
                  · rfl
                  · exact absurd (hasB_iff.1 hq).2.2 k3
                rw [hb, Bool.or_false] at HTK
                have HTK2 := Lib.hid HTK.out
                clear HTK hb
                go_wp2_with fail
                go_roundg (n6 - (0 + 1))
                case measure => omega
                case rel => exact ⟨0 + 1, by omega, by omega, by go_num, by rw [HTK2.out]; first | done | rfl, bw_drewN BV.out nq, SV.out.stays (bw_drewN (Below.refl _ _) nq)⟩
            · have hb : hasB t 8 ⟨sa, ss, sd, so⟩ = false := by
                cases hq : hasB t 8 ⟨sa, ss, sd, so⟩
                · rfl
                · exact absurd (hasB_iff.1 hq).2.1 k2
              rw [hb, Bool.or_false] at HTK
              have HTK2 := Lib.hid HTK.out
              clear HTK hb
              go_wp2_with fail
              go_roundg (n6 - (0 + 1))
              case measure => omega
              case rel => exact ⟨0 + 1, by omega, by omega, by go_num, by rw [HTK2.out]; first | done | rfl, bw_drewN BV.out nq, SV.out.stays (bw_drewN (Below.refl _ _) nq)⟩
          · have hb : hasB t 8 ⟨sa, ss, sd, so⟩ = false := by
              cases hq : hasB t 8 ⟨sa, ss, sd, so⟩
              · rfl
              · exact absurd (hasB_iff.1 hq).1 k1
            rw [hb, Bool.or_false] at HTK
            have HTK2 := Lib.hid HTK.out
            clear HTK hb
            go_wp2_with fail
            go_roundg (n6 - (0 + 1))
            case measure => omega
            case rel => exact ⟨0 + 1, by omega, by omega, by go_num, by rw [HTK2.out]; first | done | rfl, bw_drewN BV.out nq, SV.out.stays (bw_drewN (Below.refl _ _) nq)⟩
        · obtain ⟨j, rfl⟩ : ∃ j, i = j + 1 := ⟨i - 1, by omega⟩
          have hr0 := HRI.out j rfl
          obtain ⟨ad', had', hprev⟩ := SV.out j (by omega)
          injection had' with had'
          subst had'
          obtain ⟨r0, r1, r2, _⟩ := FI.out.nums j (by omega)
          generalize l[j]'(by omega) = pv at hr0 hprev r0 r1 r2
          obtain ⟨pa, ps, pd, po⟩ := pv
          obtain ⟨v0, v1, _, _⟩ := hprev
          simp only at hr0 v0 v1 r0 r1 r2
          have hj1 : ((j + 1 : Nat) : Int) - 1 = j := by omega
          have hj2 : (0 : Int) ≤ j := by omega
          have hj3 : (j : Int) < n6 := by omega
          have hj4 : (0 : Int) < ((j + 1 : Nat) : Int) := by omega
          have hr1 : ¬ sa ≤ pa + (ps - 1) := by omega
          have hr2 : 0 ≤ ps - 1 := by omega
          have hr3 : decide (sa ≤ pa + (ps - 1)) = false := decide_eq_false hr1
          have hj5 : decide ((0 : Int) < ((j + 1 : Nat) : Int)) = true := decide_eq_true hj4
          have hj6 : decide ((0 : Int) < (j : Int) + 1) = true := decide_eq_true (by omega)
          go_quiet (fail)
          clear z1 z2 z3 z4 z5
          by_cases k1 : sa ≤ t
          · have k1' : 0 ≤ t - sa := by omega
            by_cases k2 : (8 : Int) ≤ ss
            · have k2' : 0 ≤ ss - 8 := by omega
              by_cases k3 : t - sa ≤ ss - 8
              · have hb : hasB t 8 ⟨sa, ss, sd, so⟩ = true := hasB_iff.2 ⟨k1, k2, k3⟩
                obtain ⟨h', hdd⟩ := hcm.out hb
                have hdd2 := HDD.out.symm.trans hdd
                rw [hb, Bool.or_true] at HTK
                have HTK2 := Lib.hid HTK.out
                clear HTK hb
                simp only [Option.some.injEq, Prod.mk.injEq] at hdd2
                obtain ⟨e1, e2, e9⟩ := hdd2
                clear e9
                subst e1
                have e3 : (o == so + (t - sa)) = true := by rw [e2]; simp
                have e4 : 0 ≤ so + (t - sa) := by omega
                have e5 : so + (t - sa) < 18446744073709551616 := by omega
                clear e2 hdd hcm
                go_wp2_with fail
                go_roundg (n6 - ((j + 1) + 1))
                case measure => omega
                case rel => exact ⟨(j + 1) + 1, by omega, by omega, by go_num, by rw [HTK2.out]; first | done | rfl, bw_drewN BV.out nq, SV.out.stays (bw_drewN (Below.refl _ _) nq)⟩
              · have hb : hasB t 8 ⟨sa, ss, sd, so⟩ = false := by
                  cases hq : hasB t 8 ⟨sa, ss, sd, so⟩
                  · rfl
                  · exact absurd (hasB_iff.1 hq).2.2 k3
                rw [hb, Bool.or_false] at HTK
                have HTK2 := Lib.hid HTK.out
                clear HTK hb
                go_wp2_with fail
                go_roundg (n6 - ((j + 1) + 1))
                case measure => omega
                case rel => exact ⟨(j + 1) + 1, by omega, by omega, by go_num, by rw [HTK2.out]; first | done | rfl, bw_drewN BV.out nq, SV.out.stays (bw_drewN (Below.refl _ _) nq)⟩
            · have hb : hasB t 8 ⟨sa, ss, sd, so⟩ = false := by
                cases hq : hasB t 8 ⟨sa, ss, sd, so⟩
                · rfl
                · exact absurd (hasB_iff.1 hq).2.1 k2
              rw [hb, Bool.or_false] at HTK
              have HTK2 := Lib.hid HTK.out
              clear HTK hb
              go_wp2_with fail
              go_roundg (n6 - ((j + 1) + 1))
              case measure => omega
              case rel => exact ⟨(j + 1) + 1, by omega, by omega, by go_num, by rw [HTK2.out]; first | done | rfl, bw_drewN BV.out nq, SV.out.stays (bw_drewN (Below.refl _ _) nq)⟩
          · have hb : hasB t 8 ⟨sa, ss, sd, so⟩ = false := by
              cases hq : hasB t 8 ⟨sa, ss, sd, so⟩
              · rfl
              · exact absurd (hasB_iff.1 hq).1 k1
            rw [hb, Bool.or_false] at HTK
            have HTK2 := Lib.hid HTK.out
            clear HTK hb
            go_wp2_with fail
            go_roundg (n6 - ((j + 1) + 1))
            case measure => omega
            case rel => exact ⟨(j + 1) + 1, by omega, by omega, by go_num, by rw [HTK2.out]; first | done | rfl, bw_drewN BV.out nq, SV.out.stays (bw_drewN (Below.refl _ _) nq)⟩
      · obtain rfl : i = n6 := by omega
        have hany : (l.take i).any (hasB t 8) = true := by
          rw [List.take_of_length_le (by have := LN.out; omega)]
          exact FI.out.stay _ HDD.out
        go_wp2_with fail
        go_ret
        exact ⟨rfl, BW.out⟩
set_option maxHeartbeats 6400000 in
set_option maxRecDepth 100000 in
theorem spans_none (A : Option Addr) (c : Nat) (F : Fb) (hL : F.length ≤ 140737488355328) (hR : ∀ es ∈ F, es.length ≤ 140737488355328) (t b : Int) (ht : U t) (hb : 0 ≤ b ∧ b ≤ 255) (w : World) (hF : Fab w A F) (wd : Nat) (hmm : b % 4 = 0 ∧ wd = 1 ∨ b % 4 = 1 ∧ wd = 2 ∨ b % 4 = 2 ∧ wd = 4 ∨ b % 4 = 3 ∧ wd = 8) (hf : fewB F = true) (hr : rightB F = true) (hw : wys F 13 0 ≤ 1000) (hd : dec F wd F.length 0 t 0 = none) :
    Calls Try.prog 5 #[.slice A F.length c, .int .u64 t, .int .u8 b] w fun e w' => e = .returned (.bool true) ∧ Below w.heap.size w w' := by
  have HF := Lib.hid hF
  have K := fun (W : World) h => Lib.hid (few_any A c F hL hR W h)
  rw [hf] at K
  have hf' : tot F ≤ 600 := of_decide_eq_true hf
  have h6 : F.length ≤ 600 := Nat.le_trans (tot_len F) hf'
  have h6R : ∀ es ∈ F, es.length ≤ 600 := fun es he => by have := tot_mem he; omega
  have hm : F.length ≤ maxLen := by unfold maxLen; omega
  have KR := fun (W : World) h => Lib.hid (rright_any A c F hm W h)
  rw [hr] at KR
  have ho := fab_ok' hF
  have KW := fun (W : World) h => Lib.hid (ways_any A c F hr ho (fun es he => by have := h6R es he; omega) W h 13 0 (by have := (rightB_iff F).1 hr; omega) (by omega))
  have hwb : wys F 13 0 ≤ 1048576 + 2000 * 13 := wys_le F (fun es he => by have := h6R es he; omega) 13 0
  have hw' : ((wys F 13 0 : Nat) : Int) ≤ 1000 := by omega
  have hcnt : cntW F F.length 0 ≤ 1000 := Nat.le_trans (wys_cnt F 13 F.length 0 hw) hw
  have KT := fun (W : World) h => Lib.hid (theirs_full A c F h6 h6R W h)
  have KS := fun A c h1 h2 (W : World) h => Lib.hid (spans_any A c F hr ho hcnt h1 h2 W h)
  have KD := fun (W : World) h => Lib.hid (rdecode_any A c F hm t wd ht (by omega) W h hr)
  have HFI := Lib.hid (fun l (h1 : l.Perm (spansS F)) (h2 : Rising l) => fine hr ho h1 h2 (t := t) (w := wd) ht (by omega))
  rw [hd] at KD
  unfold rhit at KD
  have HDD := Lib.hid hd
  generalize wys F 13 0 = W at *
  clear hF hf hR h6R hf' hr hm ho hcnt hd
  obtain ⟨b0, b1⟩ := hb
  obtain ⟨t0, t1⟩ := ht
  unfold TheirsFull at KT
  unfold SpansPost at KS
  rcases hmm with ⟨hm, rfl⟩ | ⟨hm, rfl⟩ | ⟨hm, rfl⟩ | ⟨hm, rfl⟩
  · obtain ⟨L, hLL⟩ : ∃ L, L = F.length := ⟨_, rfl⟩
    have HLL := Lib.hid hLL
    rw [← hLL] at K KR KW KT KS KD ⊢
    clear hLL
    go_enter Try.func5, Try.ntmps5
    go_wp2_with fail
    refine (awake_any _).mono ?_
    rintro e w1 ⟨rfl, g1⟩
    have G1 := Lib.hid g1
    clear g1
    go_wp2_with fail
    refine ((K _ (HF.out.stays G1.out)).out).mono ?_
    rintro e w2 ⟨rfl, rfl⟩
    go_wp2_with fail
    refine ((KR _ (HF.out.stays G1.out)).out).mono ?_
    rintro e w3 ⟨rfl, g3⟩
    have G3 := Lib.hid (bw_trans G1.out g3)
    clear g3
    go_wp2_with fail
    refine ((KW _ (HF.out.stays G3.out)).out).mono ?_
    rintro e w4 ⟨rfl, rfl⟩
    go_wp2_with fail
    refine ((KT _ (HF.out.stays G3.out)).out).mono ?_
    rintro e w5 ⟨A5, c5, rfl, f5, g5, hc5, hm5⟩
    have F5 := Lib.hid f5
    have G5 := Lib.hid (bw_trans G3.out g5)
    clear g5 f5
    go_wp2_with fail
    refine ((KS A5 c5 hc5 hm5 _ F5.out).out).mono ?_
    rintro e w6 ⟨A6, n6, c6, l, rfl, hln, hlp, hlr, own6, g6, hn6⟩
    have G6 := Lib.hid (bw_trans G5.out g6)
    have LN := Lib.hid hln
    have SA := Lib.hid (spans_own own6 hln)
    have FI := Lib.hid (HFI.out l hlp hlr)
    have CP := Lib.hid (own6.2)
    clear g6 own6 hlp hlr hln F5 hc5 hm5 KT KS K KR
    go_wp2_with fail
    refine ((KD _ (HF.out.stays G6.out)).out).mono ?_
    rintro e w7 ⟨rfl, g7⟩
    have S7 := Lib.hid (SA.out.stays g7)
    have G7 := Lib.hid (bw_trans G6.out g7)
    clear g7 SA KD
    go_wp2_with fail
    go_loopg [6, 13, 14, 15, 52] n6 (fun gg _ s13 _ _ s52 wr => ∃ i : Nat, i ≤ n6 ∧ n6 - i ≤ gg ∧ s52 = .int .i64 i ∧ s13 = .bool ((l.take i).any (hasB t 1)) ∧ Hid (Below w.heap.size w wr) ∧ Hid (SpansAt wr A6 l))
    case atStart => exact ⟨0, Nat.zero_le _, by omega, rfl, rfl, G7, S7⟩
    case round =>
      obtain ⟨i, hi, hg, rfl, rfl, BW, SW⟩ := hrel
      by_cases hlt : i < n6
      · have hiE : i < l.length := by rw [LN.out]; exact hlt
        obtain ⟨ad, rfl, hat⟩ := SW.out i hiE
        obtain ⟨p0, p1, p2, p3, p4⟩ := FI.out.nums i hiE
        have hcm := Lib.hid (FI.out.come i hiE)
        have htk : (l.take (i + 1)).any (hasB t 1) = ((l.take i).any (hasB t 1) || hasB t 1 l[i]) := by
          rw [List.take_succ_eq_append_getElem hiE, List.any_append]; simp
        have HTK := Lib.hid htk
        have hris : ∀ j, (h : i = j + 1) → (l[j]'(by omega)).a + ((l[j]'(by omega)).s - 1) < l[i].a := fun j h => by
          subst h
          have := FI.out.rise j hiE
          omega
        have HRI := Lib.hid hris
        clear htk hris
        generalize l[i] = s at *
        obtain ⟨sa, ss, sd, so⟩ := s
        obtain ⟨x0, x1, x2, x3⟩ := hat
        simp only at x0 x1 x2 x3 p0 p1 p2 p3 p4
        have z1 : (ss == 0) = false := by simp; omega
        have z2 : ss - 1 ≤ 18446744073709551615 - sa := by omega
        have z3 : 0 ≤ ss - 1 := by omega
        have z4 : 0 ≤ 18446744073709551615 - sa := by omega
        go_wp2_with fail
        have EB := Bk.new wr 43 #[.int .u64 sa, .int .u64 ss, .int .i64 sd, .int .u64 so]
        have BV := Lib.hid (bw_alloc BW.out (.cells #[.int .u64 sa, .int .u64 ss, .int .i64 sd, .int .u64 so] 43))
        have SV := Lib.hid (SW.out.stays (bw_alloc (Below.refl wr.heap.size wr) (.cells #[.int .u64 sa, .int .u64 ss, .int .i64 sd, .int .u64 so] 43)))
        generalize wr.alloc (.cells #[.int .u64 sa, .int .u64 ss, .int .i64 sd, .int .u64 so] 43) = V at EB BV SV
        generalize wr.heap.size = q at EB
        have y0 := EB.cell 0
        have y1 := EB.cell 1
        have y2 := EB.cell 2
        have y3 := EB.cell 3
        simp at y0 y1 y2 y3
        have z5 : decide (18446744073709551615 - sa < ss - 1) = false := decide_eq_false (by omega)
        clear EB x0 x1 x2 x3
        rcases Nat.eq_zero_or_pos i with rfl | hp
        · go_quiet (fail)
          clear z1 z2 z3 z4 z5
          by_cases k1 : sa ≤ t
          · have k1' : 0 ≤ t - sa := by omega
            by_cases k2 : (1 : Int) ≤ ss
            · have k2' : 0 ≤ ss - 1 := by omega
              by_cases k3 : t - sa ≤ ss - 1
              · have hb : hasB t 1 ⟨sa, ss, sd, so⟩ = true := hasB_iff.2 ⟨k1, k2, k3⟩
                obtain ⟨h', hdd⟩ := hcm.out hb
                have hdd2 := HDD.out.symm.trans hdd
                cases hdd2
              · have hb : hasB t 1 ⟨sa, ss, sd, so⟩ = false := by
                  cases hq : hasB t 1 ⟨sa, ss, sd, so⟩
                  · rfl
                  · exact absurd (hasB_iff.1 hq).2.2 k3
                rw [hb, Bool.or_false] at HTK
                have HTK2 := Lib.hid HTK.out
                clear HTK hb
                go_wp2_with fail
                go_roundg (n6 - (0 + 1))
                case measure => omega
                case rel => exact ⟨0 + 1, by omega, by omega, by go_num, by rw [HTK2.out]; first | done | rfl, bw_drewN BV.out nq, SV.out.stays (bw_drewN (Below.refl _ _) nq)⟩
            · exact absurd p1 k2
          · have hb : hasB t 1 ⟨sa, ss, sd, so⟩ = false := by
              cases hq : hasB t 1 ⟨sa, ss, sd, so⟩
              · rfl
              · exact absurd (hasB_iff.1 hq).1 k1
            rw [hb, Bool.or_false] at HTK
            have HTK2 := Lib.hid HTK.out
            clear HTK hb
            go_wp2_with fail
            go_roundg (n6 - (0 + 1))
            case measure => omega
            case rel => exact ⟨0 + 1, by omega, by omega, by go_num, by rw [HTK2.out]; first | done | rfl, bw_drewN BV.out nq, SV.out.stays (bw_drewN (Below.refl _ _) nq)⟩
        · obtain ⟨j, rfl⟩ : ∃ j, i = j + 1 := ⟨i - 1, by omega⟩
          have hr0 := HRI.out j rfl
          obtain ⟨ad', had', hprev⟩ := SV.out j (by omega)
          injection had' with had'
          subst had'
          obtain ⟨r0, r1, r2, _⟩ := FI.out.nums j (by omega)
          generalize l[j]'(by omega) = pv at hr0 hprev r0 r1 r2
          obtain ⟨pa, ps, pd, po⟩ := pv
          obtain ⟨v0, v1, _, _⟩ := hprev
          simp only at hr0 v0 v1 r0 r1 r2
          have hj1 : ((j + 1 : Nat) : Int) - 1 = j := by omega
          have hj2 : (0 : Int) ≤ j := by omega
          have hj3 : (j : Int) < n6 := by omega
          have hj4 : (0 : Int) < ((j + 1 : Nat) : Int) := by omega
          have hr1 : ¬ sa ≤ pa + (ps - 1) := by omega
          have hr2 : 0 ≤ ps - 1 := by omega
          have hr3 : decide (sa ≤ pa + (ps - 1)) = false := decide_eq_false hr1
          have hj5 : decide ((0 : Int) < ((j + 1 : Nat) : Int)) = true := decide_eq_true hj4
          have hj6 : decide ((0 : Int) < (j : Int) + 1) = true := decide_eq_true (by omega)
          go_quiet (fail)
          clear z1 z2 z3 z4 z5
          by_cases k1 : sa ≤ t
          · have k1' : 0 ≤ t - sa := by omega
            by_cases k2 : (1 : Int) ≤ ss
            · have k2' : 0 ≤ ss - 1 := by omega
              by_cases k3 : t - sa ≤ ss - 1
              · have hb : hasB t 1 ⟨sa, ss, sd, so⟩ = true := hasB_iff.2 ⟨k1, k2, k3⟩
                obtain ⟨h', hdd⟩ := hcm.out hb
                have hdd2 := HDD.out.symm.trans hdd
                cases hdd2
              · have hb : hasB t 1 ⟨sa, ss, sd, so⟩ = false := by
                  cases hq : hasB t 1 ⟨sa, ss, sd, so⟩
                  · rfl
                  · exact absurd (hasB_iff.1 hq).2.2 k3
                rw [hb, Bool.or_false] at HTK
                have HTK2 := Lib.hid HTK.out
                clear HTK hb
                go_wp2_with fail
                go_roundg (n6 - ((j + 1) + 1))
                case measure => omega
                case rel => exact ⟨(j + 1) + 1, by omega, by omega, by go_num, by rw [HTK2.out]; first | done | rfl, bw_drewN BV.out nq, SV.out.stays (bw_drewN (Below.refl _ _) nq)⟩
            · exact absurd p1 k2
          · have hb : hasB t 1 ⟨sa, ss, sd, so⟩ = false := by
              cases hq : hasB t 1 ⟨sa, ss, sd, so⟩
              · rfl
              · exact absurd (hasB_iff.1 hq).1 k1
            rw [hb, Bool.or_false] at HTK
            have HTK2 := Lib.hid HTK.out
            clear HTK hb
            go_wp2_with fail
            go_roundg (n6 - ((j + 1) + 1))
            case measure => omega
            case rel => exact ⟨(j + 1) + 1, by omega, by omega, by go_num, by rw [HTK2.out]; first | done | rfl, bw_drewN BV.out nq, SV.out.stays (bw_drewN (Below.refl _ _) nq)⟩
      · obtain rfl : i = n6 := by omega
        have hany : (l.take i).any (hasB t 1) = false := by
          rw [List.take_of_length_le (by have := LN.out; omega)]
          rw [List.any_eq_false]
          intro s hs hb
          obtain ⟨q, hq, rfl⟩ := List.getElem_of_mem hs
          obtain ⟨h', hdd⟩ := FI.out.come q hq hb
          have hdd2 := HDD.out.symm.trans hdd
          cases hdd2
        go_wp2_with fail
        go_ret
        exact ⟨rfl, BW.out⟩
  · obtain ⟨L, hLL⟩ : ∃ L, L = F.length := ⟨_, rfl⟩
    have HLL := Lib.hid hLL
    rw [← hLL] at K KR KW KT KS KD ⊢
    clear hLL
    go_enter Try.func5, Try.ntmps5
    go_wp2_with fail
    refine (awake_any _).mono ?_
    rintro e w1 ⟨rfl, g1⟩
    have G1 := Lib.hid g1
    clear g1
    go_wp2_with fail
    refine ((K _ (HF.out.stays G1.out)).out).mono ?_
    rintro e w2 ⟨rfl, rfl⟩
    go_wp2_with fail
    refine ((KR _ (HF.out.stays G1.out)).out).mono ?_
    rintro e w3 ⟨rfl, g3⟩
    have G3 := Lib.hid (bw_trans G1.out g3)
    clear g3
    go_wp2_with fail
    refine ((KW _ (HF.out.stays G3.out)).out).mono ?_
    rintro e w4 ⟨rfl, rfl⟩
    go_wp2_with fail
    refine ((KT _ (HF.out.stays G3.out)).out).mono ?_
    rintro e w5 ⟨A5, c5, rfl, f5, g5, hc5, hm5⟩
    have F5 := Lib.hid f5
    have G5 := Lib.hid (bw_trans G3.out g5)
    clear g5 f5
    go_wp2_with fail
    refine ((KS A5 c5 hc5 hm5 _ F5.out).out).mono ?_
    rintro e w6 ⟨A6, n6, c6, l, rfl, hln, hlp, hlr, own6, g6, hn6⟩
    have G6 := Lib.hid (bw_trans G5.out g6)
    have LN := Lib.hid hln
    have SA := Lib.hid (spans_own own6 hln)
    have FI := Lib.hid (HFI.out l hlp hlr)
    have CP := Lib.hid (own6.2)
    clear g6 own6 hlp hlr hln F5 hc5 hm5 KT KS K KR
    go_wp2_with fail
    refine ((KD _ (HF.out.stays G6.out)).out).mono ?_
    rintro e w7 ⟨rfl, g7⟩
    have S7 := Lib.hid (SA.out.stays g7)
    have G7 := Lib.hid (bw_trans G6.out g7)
    clear g7 SA KD
    go_wp2_with fail
    go_loopg [6, 13, 14, 15, 52] n6 (fun gg _ s13 _ _ s52 wr => ∃ i : Nat, i ≤ n6 ∧ n6 - i ≤ gg ∧ s52 = .int .i64 i ∧ s13 = .bool ((l.take i).any (hasB t 2)) ∧ Hid (Below w.heap.size w wr) ∧ Hid (SpansAt wr A6 l))
    case atStart => exact ⟨0, Nat.zero_le _, by omega, rfl, rfl, G7, S7⟩
    case round =>
      obtain ⟨i, hi, hg, rfl, rfl, BW, SW⟩ := hrel
      by_cases hlt : i < n6
      · have hiE : i < l.length := by rw [LN.out]; exact hlt
        obtain ⟨ad, rfl, hat⟩ := SW.out i hiE
        obtain ⟨p0, p1, p2, p3, p4⟩ := FI.out.nums i hiE
        have hcm := Lib.hid (FI.out.come i hiE)
        have htk : (l.take (i + 1)).any (hasB t 2) = ((l.take i).any (hasB t 2) || hasB t 2 l[i]) := by
          rw [List.take_succ_eq_append_getElem hiE, List.any_append]; simp
        have HTK := Lib.hid htk
        have hris : ∀ j, (h : i = j + 1) → (l[j]'(by omega)).a + ((l[j]'(by omega)).s - 1) < l[i].a := fun j h => by
          subst h
          have := FI.out.rise j hiE
          omega
        have HRI := Lib.hid hris
        clear htk hris
        generalize l[i] = s at *
        obtain ⟨sa, ss, sd, so⟩ := s
        obtain ⟨x0, x1, x2, x3⟩ := hat
        simp only at x0 x1 x2 x3 p0 p1 p2 p3 p4
        have z1 : (ss == 0) = false := by simp; omega
        have z2 : ss - 1 ≤ 18446744073709551615 - sa := by omega
        have z3 : 0 ≤ ss - 1 := by omega
        have z4 : 0 ≤ 18446744073709551615 - sa := by omega
        go_wp2_with fail
        have EB := Bk.new wr 43 #[.int .u64 sa, .int .u64 ss, .int .i64 sd, .int .u64 so]
        have BV := Lib.hid (bw_alloc BW.out (.cells #[.int .u64 sa, .int .u64 ss, .int .i64 sd, .int .u64 so] 43))
        have SV := Lib.hid (SW.out.stays (bw_alloc (Below.refl wr.heap.size wr) (.cells #[.int .u64 sa, .int .u64 ss, .int .i64 sd, .int .u64 so] 43)))
        generalize wr.alloc (.cells #[.int .u64 sa, .int .u64 ss, .int .i64 sd, .int .u64 so] 43) = V at EB BV SV
        generalize wr.heap.size = q at EB
        have y0 := EB.cell 0
        have y1 := EB.cell 1
        have y2 := EB.cell 2
        have y3 := EB.cell 3
        simp at y0 y1 y2 y3
        have z5 : decide (18446744073709551615 - sa < ss - 1) = false := decide_eq_false (by omega)
        clear EB x0 x1 x2 x3
        rcases Nat.eq_zero_or_pos i with rfl | hp
        · go_quiet (fail)
          clear z1 z2 z3 z4 z5
          by_cases k1 : sa ≤ t
          · have k1' : 0 ≤ t - sa := by omega
            by_cases k2 : (2 : Int) ≤ ss
            · have k2' : 0 ≤ ss - 2 := by omega
              by_cases k3 : t - sa ≤ ss - 2
              · have hb : hasB t 2 ⟨sa, ss, sd, so⟩ = true := hasB_iff.2 ⟨k1, k2, k3⟩
                obtain ⟨h', hdd⟩ := hcm.out hb
                have hdd2 := HDD.out.symm.trans hdd
                cases hdd2
              · have hb : hasB t 2 ⟨sa, ss, sd, so⟩ = false := by
                  cases hq : hasB t 2 ⟨sa, ss, sd, so⟩
                  · rfl
                  · exact absurd (hasB_iff.1 hq).2.2 k3
                rw [hb, Bool.or_false] at HTK
                have HTK2 := Lib.hid HTK.out
                clear HTK hb
                go_wp2_with fail
                go_roundg (n6 - (0 + 1))
                case measure => omega
                case rel => exact ⟨0 + 1, by omega, by omega, by go_num, by rw [HTK2.out]; first | done | rfl, bw_drewN BV.out nq, SV.out.stays (bw_drewN (Below.refl _ _) nq)⟩
            · have hb : hasB t 2 ⟨sa, ss, sd, so⟩ = false := by
                cases hq : hasB t 2 ⟨sa, ss, sd, so⟩
                · rfl
                · exact absurd (hasB_iff.1 hq).2.1 k2
              rw [hb, Bool.or_false] at HTK
              have HTK2 := Lib.hid HTK.out
              clear HTK hb
              go_wp2_with fail
              go_roundg (n6 - (0 + 1))
              case measure => omega
              case rel => exact ⟨0 + 1, by omega, by omega, by go_num, by rw [HTK2.out]; first | done | rfl, bw_drewN BV.out nq, SV.out.stays (bw_drewN (Below.refl _ _) nq)⟩
          · have hb : hasB t 2 ⟨sa, ss, sd, so⟩ = false := by
              cases hq : hasB t 2 ⟨sa, ss, sd, so⟩
              · rfl
              · exact absurd (hasB_iff.1 hq).1 k1
            rw [hb, Bool.or_false] at HTK
            have HTK2 := Lib.hid HTK.out
            clear HTK hb
            go_wp2_with fail
            go_roundg (n6 - (0 + 1))
            case measure => omega
            case rel => exact ⟨0 + 1, by omega, by omega, by go_num, by rw [HTK2.out]; first | done | rfl, bw_drewN BV.out nq, SV.out.stays (bw_drewN (Below.refl _ _) nq)⟩
        · obtain ⟨j, rfl⟩ : ∃ j, i = j + 1 := ⟨i - 1, by omega⟩
          have hr0 := HRI.out j rfl
          obtain ⟨ad', had', hprev⟩ := SV.out j (by omega)
          injection had' with had'
          subst had'
          obtain ⟨r0, r1, r2, _⟩ := FI.out.nums j (by omega)
          generalize l[j]'(by omega) = pv at hr0 hprev r0 r1 r2
          obtain ⟨pa, ps, pd, po⟩ := pv
          obtain ⟨v0, v1, _, _⟩ := hprev
          simp only at hr0 v0 v1 r0 r1 r2
          have hj1 : ((j + 1 : Nat) : Int) - 1 = j := by omega
          have hj2 : (0 : Int) ≤ j := by omega
          have hj3 : (j : Int) < n6 := by omega
          have hj4 : (0 : Int) < ((j + 1 : Nat) : Int) := by omega
          have hr1 : ¬ sa ≤ pa + (ps - 1) := by omega
          have hr2 : 0 ≤ ps - 1 := by omega
          have hr3 : decide (sa ≤ pa + (ps - 1)) = false := decide_eq_false hr1
          have hj5 : decide ((0 : Int) < ((j + 1 : Nat) : Int)) = true := decide_eq_true hj4
          have hj6 : decide ((0 : Int) < (j : Int) + 1) = true := decide_eq_true (by omega)
          go_quiet (fail)
          clear z1 z2 z3 z4 z5
          by_cases k1 : sa ≤ t
          · have k1' : 0 ≤ t - sa := by omega
            by_cases k2 : (2 : Int) ≤ ss
            · have k2' : 0 ≤ ss - 2 := by omega
              by_cases k3 : t - sa ≤ ss - 2
              · have hb : hasB t 2 ⟨sa, ss, sd, so⟩ = true := hasB_iff.2 ⟨k1, k2, k3⟩
                obtain ⟨h', hdd⟩ := hcm.out hb
                have hdd2 := HDD.out.symm.trans hdd
                cases hdd2
              · have hb : hasB t 2 ⟨sa, ss, sd, so⟩ = false := by
                  cases hq : hasB t 2 ⟨sa, ss, sd, so⟩
                  · rfl
                  · exact absurd (hasB_iff.1 hq).2.2 k3
                rw [hb, Bool.or_false] at HTK
                have HTK2 := Lib.hid HTK.out
                clear HTK hb
                go_wp2_with fail
                go_roundg (n6 - ((j + 1) + 1))
                case measure => omega
                case rel => exact ⟨(j + 1) + 1, by omega, by omega, by go_num, by rw [HTK2.out]; first | done | rfl, bw_drewN BV.out nq, SV.out.stays (bw_drewN (Below.refl _ _) nq)⟩
            · have hb : hasB t 2 ⟨sa, ss, sd, so⟩ = false := by
                cases hq : hasB t 2 ⟨sa, ss, sd, so⟩
                · rfl
                · exact absurd (hasB_iff.1 hq).2.1 k2
              rw [hb, Bool.or_false] at HTK
              have HTK2 := Lib.hid HTK.out
              clear HTK hb
              go_wp2_with fail
              go_roundg (n6 - ((j + 1) + 1))
              case measure => omega
              case rel => exact ⟨(j + 1) + 1, by omega, by omega, by go_num, by rw [HTK2.out]; first | done | rfl, bw_drewN BV.out nq, SV.out.stays (bw_drewN (Below.refl _ _) nq)⟩
          · have hb : hasB t 2 ⟨sa, ss, sd, so⟩ = false := by
              cases hq : hasB t 2 ⟨sa, ss, sd, so⟩
              · rfl
              · exact absurd (hasB_iff.1 hq).1 k1
            rw [hb, Bool.or_false] at HTK
            have HTK2 := Lib.hid HTK.out
            clear HTK hb
            go_wp2_with fail
            go_roundg (n6 - ((j + 1) + 1))
            case measure => omega
            case rel => exact ⟨(j + 1) + 1, by omega, by omega, by go_num, by rw [HTK2.out]; first | done | rfl, bw_drewN BV.out nq, SV.out.stays (bw_drewN (Below.refl _ _) nq)⟩
      · obtain rfl : i = n6 := by omega
        have hany : (l.take i).any (hasB t 2) = false := by
          rw [List.take_of_length_le (by have := LN.out; omega)]
          rw [List.any_eq_false]
          intro s hs hb
          obtain ⟨q, hq, rfl⟩ := List.getElem_of_mem hs
          obtain ⟨h', hdd⟩ := FI.out.come q hq hb
          have hdd2 := HDD.out.symm.trans hdd
          cases hdd2
        go_wp2_with fail
        go_ret
        exact ⟨rfl, BW.out⟩
  · obtain ⟨L, hLL⟩ : ∃ L, L = F.length := ⟨_, rfl⟩
    have HLL := Lib.hid hLL
    rw [← hLL] at K KR KW KT KS KD ⊢
    clear hLL
    go_enter Try.func5, Try.ntmps5
    go_wp2_with fail
    refine (awake_any _).mono ?_
    rintro e w1 ⟨rfl, g1⟩
    have G1 := Lib.hid g1
    clear g1
    go_wp2_with fail
    refine ((K _ (HF.out.stays G1.out)).out).mono ?_
    rintro e w2 ⟨rfl, rfl⟩
    go_wp2_with fail
    refine ((KR _ (HF.out.stays G1.out)).out).mono ?_
    rintro e w3 ⟨rfl, g3⟩
    have G3 := Lib.hid (bw_trans G1.out g3)
    clear g3
    go_wp2_with fail
    refine ((KW _ (HF.out.stays G3.out)).out).mono ?_
    rintro e w4 ⟨rfl, rfl⟩
    go_wp2_with fail
    refine ((KT _ (HF.out.stays G3.out)).out).mono ?_
    rintro e w5 ⟨A5, c5, rfl, f5, g5, hc5, hm5⟩
    have F5 := Lib.hid f5
    have G5 := Lib.hid (bw_trans G3.out g5)
    clear g5 f5
    go_wp2_with fail
    refine ((KS A5 c5 hc5 hm5 _ F5.out).out).mono ?_
    rintro e w6 ⟨A6, n6, c6, l, rfl, hln, hlp, hlr, own6, g6, hn6⟩
    have G6 := Lib.hid (bw_trans G5.out g6)
    have LN := Lib.hid hln
    have SA := Lib.hid (spans_own own6 hln)
    have FI := Lib.hid (HFI.out l hlp hlr)
    have CP := Lib.hid (own6.2)
    clear g6 own6 hlp hlr hln F5 hc5 hm5 KT KS K KR
    go_wp2_with fail
    refine ((KD _ (HF.out.stays G6.out)).out).mono ?_
    rintro e w7 ⟨rfl, g7⟩
    have S7 := Lib.hid (SA.out.stays g7)
    have G7 := Lib.hid (bw_trans G6.out g7)
    clear g7 SA KD
    go_wp2_with fail
    go_loopg [6, 13, 14, 15, 52] n6 (fun gg _ s13 _ _ s52 wr => ∃ i : Nat, i ≤ n6 ∧ n6 - i ≤ gg ∧ s52 = .int .i64 i ∧ s13 = .bool ((l.take i).any (hasB t 4)) ∧ Hid (Below w.heap.size w wr) ∧ Hid (SpansAt wr A6 l))
    case atStart => exact ⟨0, Nat.zero_le _, by omega, rfl, rfl, G7, S7⟩
    case round =>
      obtain ⟨i, hi, hg, rfl, rfl, BW, SW⟩ := hrel
      by_cases hlt : i < n6
      · have hiE : i < l.length := by rw [LN.out]; exact hlt
        obtain ⟨ad, rfl, hat⟩ := SW.out i hiE
        obtain ⟨p0, p1, p2, p3, p4⟩ := FI.out.nums i hiE
        have hcm := Lib.hid (FI.out.come i hiE)
        have htk : (l.take (i + 1)).any (hasB t 4) = ((l.take i).any (hasB t 4) || hasB t 4 l[i]) := by
          rw [List.take_succ_eq_append_getElem hiE, List.any_append]; simp
        have HTK := Lib.hid htk
        have hris : ∀ j, (h : i = j + 1) → (l[j]'(by omega)).a + ((l[j]'(by omega)).s - 1) < l[i].a := fun j h => by
          subst h
          have := FI.out.rise j hiE
          omega
        have HRI := Lib.hid hris
        clear htk hris
        generalize l[i] = s at *
        obtain ⟨sa, ss, sd, so⟩ := s
        obtain ⟨x0, x1, x2, x3⟩ := hat
        simp only at x0 x1 x2 x3 p0 p1 p2 p3 p4
        have z1 : (ss == 0) = false := by simp; omega
        have z2 : ss - 1 ≤ 18446744073709551615 - sa := by omega
        have z3 : 0 ≤ ss - 1 := by omega
        have z4 : 0 ≤ 18446744073709551615 - sa := by omega
        go_wp2_with fail
        have EB := Bk.new wr 43 #[.int .u64 sa, .int .u64 ss, .int .i64 sd, .int .u64 so]
        have BV := Lib.hid (bw_alloc BW.out (.cells #[.int .u64 sa, .int .u64 ss, .int .i64 sd, .int .u64 so] 43))
        have SV := Lib.hid (SW.out.stays (bw_alloc (Below.refl wr.heap.size wr) (.cells #[.int .u64 sa, .int .u64 ss, .int .i64 sd, .int .u64 so] 43)))
        generalize wr.alloc (.cells #[.int .u64 sa, .int .u64 ss, .int .i64 sd, .int .u64 so] 43) = V at EB BV SV
        generalize wr.heap.size = q at EB
        have y0 := EB.cell 0
        have y1 := EB.cell 1
        have y2 := EB.cell 2
        have y3 := EB.cell 3
        simp at y0 y1 y2 y3
        have z5 : decide (18446744073709551615 - sa < ss - 1) = false := decide_eq_false (by omega)
        clear EB x0 x1 x2 x3
        rcases Nat.eq_zero_or_pos i with rfl | hp
        · go_quiet (fail)
          clear z1 z2 z3 z4 z5
          by_cases k1 : sa ≤ t
          · have k1' : 0 ≤ t - sa := by omega
            by_cases k2 : (4 : Int) ≤ ss
            · have k2' : 0 ≤ ss - 4 := by omega
              by_cases k3 : t - sa ≤ ss - 4
              · have hb : hasB t 4 ⟨sa, ss, sd, so⟩ = true := hasB_iff.2 ⟨k1, k2, k3⟩
                obtain ⟨h', hdd⟩ := hcm.out hb
                have hdd2 := HDD.out.symm.trans hdd
                cases hdd2
              · have hb : hasB t 4 ⟨sa, ss, sd, so⟩ = false := by
                  cases hq : hasB t 4 ⟨sa, ss, sd, so⟩
                  · rfl
                  · exact absurd (hasB_iff.1 hq).2.2 k3
                rw [hb, Bool.or_false] at HTK
                have HTK2 := Lib.hid HTK.out
                clear HTK hb
                go_wp2_with fail
                go_roundg (n6 - (0 + 1))
                case measure => omega
                case rel => exact ⟨0 + 1, by omega, by omega, by go_num, by rw [HTK2.out]; first | done | rfl, bw_drewN BV.out nq, SV.out.stays (bw_drewN (Below.refl _ _) nq)⟩
            · have hb : hasB t 4 ⟨sa, ss, sd, so⟩ = false := by
                cases hq : hasB t 4 ⟨sa, ss, sd, so⟩
                · rfl
                · exact absurd (hasB_iff.1 hq).2.1 k2
              rw [hb, Bool.or_false] at HTK
              have HTK2 := Lib.hid HTK.out
              clear HTK hb
              go_wp2_with fail
              go_roundg (n6 - (0 + 1))
              case measure => omega
              case rel => exact ⟨0 + 1, by omega, by omega, by go_num, by rw [HTK2.out]; first | done | rfl, bw_drewN BV.out nq, SV.out.stays (bw_drewN (Below.refl _ _) nq)⟩
          · have hb : hasB t 4 ⟨sa, ss, sd, so⟩ = false := by
              cases hq : hasB t 4 ⟨sa, ss, sd, so⟩
              · rfl
              · exact absurd (hasB_iff.1 hq).1 k1
            rw [hb, Bool.or_false] at HTK
            have HTK2 := Lib.hid HTK.out
            clear HTK hb
            go_wp2_with fail
            go_roundg (n6 - (0 + 1))
            case measure => omega
            case rel => exact ⟨0 + 1, by omega, by omega, by go_num, by rw [HTK2.out]; first | done | rfl, bw_drewN BV.out nq, SV.out.stays (bw_drewN (Below.refl _ _) nq)⟩
        · obtain ⟨j, rfl⟩ : ∃ j, i = j + 1 := ⟨i - 1, by omega⟩
          have hr0 := HRI.out j rfl
          obtain ⟨ad', had', hprev⟩ := SV.out j (by omega)
          injection had' with had'
          subst had'
          obtain ⟨r0, r1, r2, _⟩ := FI.out.nums j (by omega)
          generalize l[j]'(by omega) = pv at hr0 hprev r0 r1 r2
          obtain ⟨pa, ps, pd, po⟩ := pv
          obtain ⟨v0, v1, _, _⟩ := hprev
          simp only at hr0 v0 v1 r0 r1 r2
          have hj1 : ((j + 1 : Nat) : Int) - 1 = j := by omega
          have hj2 : (0 : Int) ≤ j := by omega
          have hj3 : (j : Int) < n6 := by omega
          have hj4 : (0 : Int) < ((j + 1 : Nat) : Int) := by omega
          have hr1 : ¬ sa ≤ pa + (ps - 1) := by omega
          have hr2 : 0 ≤ ps - 1 := by omega
          have hr3 : decide (sa ≤ pa + (ps - 1)) = false := decide_eq_false hr1
          have hj5 : decide ((0 : Int) < ((j + 1 : Nat) : Int)) = true := decide_eq_true hj4
          have hj6 : decide ((0 : Int) < (j : Int) + 1) = true := decide_eq_true (by omega)
          go_quiet (fail)
          clear z1 z2 z3 z4 z5
          by_cases k1 : sa ≤ t
          · have k1' : 0 ≤ t - sa := by omega
            by_cases k2 : (4 : Int) ≤ ss
            · have k2' : 0 ≤ ss - 4 := by omega
              by_cases k3 : t - sa ≤ ss - 4
              · have hb : hasB t 4 ⟨sa, ss, sd, so⟩ = true := hasB_iff.2 ⟨k1, k2, k3⟩
                obtain ⟨h', hdd⟩ := hcm.out hb
                have hdd2 := HDD.out.symm.trans hdd
                cases hdd2
              · have hb : hasB t 4 ⟨sa, ss, sd, so⟩ = false := by
                  cases hq : hasB t 4 ⟨sa, ss, sd, so⟩
                  · rfl
                  · exact absurd (hasB_iff.1 hq).2.2 k3
                rw [hb, Bool.or_false] at HTK
                have HTK2 := Lib.hid HTK.out
                clear HTK hb
                go_wp2_with fail
                go_roundg (n6 - ((j + 1) + 1))
                case measure => omega
                case rel => exact ⟨(j + 1) + 1, by omega, by omega, by go_num, by rw [HTK2.out]; first | done | rfl, bw_drewN BV.out nq, SV.out.stays (bw_drewN (Below.refl _ _) nq)⟩
            · have hb : hasB t 4 ⟨sa, ss, sd, so⟩ = false := by
                cases hq : hasB t 4 ⟨sa, ss, sd, so⟩
                · rfl
                · exact absurd (hasB_iff.1 hq).2.1 k2
              rw [hb, Bool.or_false] at HTK
              have HTK2 := Lib.hid HTK.out
              clear HTK hb
              go_wp2_with fail
              go_roundg (n6 - ((j + 1) + 1))
              case measure => omega
              case rel => exact ⟨(j + 1) + 1, by omega, by omega, by go_num, by rw [HTK2.out]; first | done | rfl, bw_drewN BV.out nq, SV.out.stays (bw_drewN (Below.refl _ _) nq)⟩
          · have hb : hasB t 4 ⟨sa, ss, sd, so⟩ = false := by
              cases hq : hasB t 4 ⟨sa, ss, sd, so⟩
              · rfl
              · exact absurd (hasB_iff.1 hq).1 k1
            rw [hb, Bool.or_false] at HTK
            have HTK2 := Lib.hid HTK.out
            clear HTK hb
            go_wp2_with fail
            go_roundg (n6 - ((j + 1) + 1))
            case measure => omega
            case rel => exact ⟨(j + 1) + 1, by omega, by omega, by go_num, by rw [HTK2.out]; first | done | rfl, bw_drewN BV.out nq, SV.out.stays (bw_drewN (Below.refl _ _) nq)⟩
      · obtain rfl : i = n6 := by omega
        have hany : (l.take i).any (hasB t 4) = false := by
          rw [List.take_of_length_le (by have := LN.out; omega)]
          rw [List.any_eq_false]
          intro s hs hb
          obtain ⟨q, hq, rfl⟩ := List.getElem_of_mem hs
          obtain ⟨h', hdd⟩ := FI.out.come q hq hb
          have hdd2 := HDD.out.symm.trans hdd
          cases hdd2
        go_wp2_with fail
        go_ret
        exact ⟨rfl, BW.out⟩
  · obtain ⟨L, hLL⟩ : ∃ L, L = F.length := ⟨_, rfl⟩
    have HLL := Lib.hid hLL
    rw [← hLL] at K KR KW KT KS KD ⊢
    clear hLL
    go_enter Try.func5, Try.ntmps5
    go_wp2_with fail
    refine (awake_any _).mono ?_
    rintro e w1 ⟨rfl, g1⟩
    have G1 := Lib.hid g1
    clear g1
    go_wp2_with fail
    refine ((K _ (HF.out.stays G1.out)).out).mono ?_
    rintro e w2 ⟨rfl, rfl⟩
    go_wp2_with fail
    refine ((KR _ (HF.out.stays G1.out)).out).mono ?_
    rintro e w3 ⟨rfl, g3⟩
    have G3 := Lib.hid (bw_trans G1.out g3)
    clear g3
    go_wp2_with fail
    refine ((KW _ (HF.out.stays G3.out)).out).mono ?_
    rintro e w4 ⟨rfl, rfl⟩
    go_wp2_with fail
    refine ((KT _ (HF.out.stays G3.out)).out).mono ?_
    rintro e w5 ⟨A5, c5, rfl, f5, g5, hc5, hm5⟩
    have F5 := Lib.hid f5
    have G5 := Lib.hid (bw_trans G3.out g5)
    clear g5 f5
    go_wp2_with fail
    refine ((KS A5 c5 hc5 hm5 _ F5.out).out).mono ?_
    rintro e w6 ⟨A6, n6, c6, l, rfl, hln, hlp, hlr, own6, g6, hn6⟩
    have G6 := Lib.hid (bw_trans G5.out g6)
    have LN := Lib.hid hln
    have SA := Lib.hid (spans_own own6 hln)
    have FI := Lib.hid (HFI.out l hlp hlr)
    have CP := Lib.hid (own6.2)
    clear g6 own6 hlp hlr hln F5 hc5 hm5 KT KS K KR
    go_wp2_with fail
    refine ((KD _ (HF.out.stays G6.out)).out).mono ?_
    rintro e w7 ⟨rfl, g7⟩
    have S7 := Lib.hid (SA.out.stays g7)
    have G7 := Lib.hid (bw_trans G6.out g7)
    clear g7 SA KD
    go_wp2_with fail
    go_loopg [6, 13, 14, 15, 52] n6 (fun gg _ s13 _ _ s52 wr => ∃ i : Nat, i ≤ n6 ∧ n6 - i ≤ gg ∧ s52 = .int .i64 i ∧ s13 = .bool ((l.take i).any (hasB t 8)) ∧ Hid (Below w.heap.size w wr) ∧ Hid (SpansAt wr A6 l))
    case atStart => exact ⟨0, Nat.zero_le _, by omega, rfl, rfl, G7, S7⟩
    case round =>
      obtain ⟨i, hi, hg, rfl, rfl, BW, SW⟩ := hrel
      by_cases hlt : i < n6
      · have hiE : i < l.length := by rw [LN.out]; exact hlt
        obtain ⟨ad, rfl, hat⟩ := SW.out i hiE
        obtain ⟨p0, p1, p2, p3, p4⟩ := FI.out.nums i hiE
        have hcm := Lib.hid (FI.out.come i hiE)
        have htk : (l.take (i + 1)).any (hasB t 8) = ((l.take i).any (hasB t 8) || hasB t 8 l[i]) := by
          rw [List.take_succ_eq_append_getElem hiE, List.any_append]; simp
        have HTK := Lib.hid htk
        have hris : ∀ j, (h : i = j + 1) → (l[j]'(by omega)).a + ((l[j]'(by omega)).s - 1) < l[i].a := fun j h => by
          subst h
          have := FI.out.rise j hiE
          omega
        have HRI := Lib.hid hris
        clear htk hris
        generalize l[i] = s at *
        obtain ⟨sa, ss, sd, so⟩ := s
        obtain ⟨x0, x1, x2, x3⟩ := hat
        simp only at x0 x1 x2 x3 p0 p1 p2 p3 p4
        have z1 : (ss == 0) = false := by simp; omega
        have z2 : ss - 1 ≤ 18446744073709551615 - sa := by omega
        have z3 : 0 ≤ ss - 1 := by omega
        have z4 : 0 ≤ 18446744073709551615 - sa := by omega
        go_wp2_with fail
        have EB := Bk.new wr 43 #[.int .u64 sa, .int .u64 ss, .int .i64 sd, .int .u64 so]
        have BV := Lib.hid (bw_alloc BW.out (.cells #[.int .u64 sa, .int .u64 ss, .int .i64 sd, .int .u64 so] 43))
        have SV := Lib.hid (SW.out.stays (bw_alloc (Below.refl wr.heap.size wr) (.cells #[.int .u64 sa, .int .u64 ss, .int .i64 sd, .int .u64 so] 43)))
        generalize wr.alloc (.cells #[.int .u64 sa, .int .u64 ss, .int .i64 sd, .int .u64 so] 43) = V at EB BV SV
        generalize wr.heap.size = q at EB
        have y0 := EB.cell 0
        have y1 := EB.cell 1
        have y2 := EB.cell 2
        have y3 := EB.cell 3
        simp at y0 y1 y2 y3
        have z5 : decide (18446744073709551615 - sa < ss - 1) = false := decide_eq_false (by omega)
        clear EB x0 x1 x2 x3
        rcases Nat.eq_zero_or_pos i with rfl | hp
        · go_quiet (fail)
          clear z1 z2 z3 z4 z5
          by_cases k1 : sa ≤ t
          · have k1' : 0 ≤ t - sa := by omega
            by_cases k2 : (8 : Int) ≤ ss
            · have k2' : 0 ≤ ss - 8 := by omega
              by_cases k3 : t - sa ≤ ss - 8
              · have hb : hasB t 8 ⟨sa, ss, sd, so⟩ = true := hasB_iff.2 ⟨k1, k2, k3⟩
                obtain ⟨h', hdd⟩ := hcm.out hb
                have hdd2 := HDD.out.symm.trans hdd
                cases hdd2
              · have hb : hasB t 8 ⟨sa, ss, sd, so⟩ = false := by
                  cases hq : hasB t 8 ⟨sa, ss, sd, so⟩
                  · rfl
                  · exact absurd (hasB_iff.1 hq).2.2 k3
                rw [hb, Bool.or_false] at HTK
                have HTK2 := Lib.hid HTK.out
                clear HTK hb
                go_wp2_with fail
                go_roundg (n6 - (0 + 1))
                case measure => omega
                case rel => exact ⟨0 + 1, by omega, by omega, by go_num, by rw [HTK2.out]; first | done | rfl, bw_drewN BV.out nq, SV.out.stays (bw_drewN (Below.refl _ _) nq)⟩
            · have hb : hasB t 8 ⟨sa, ss, sd, so⟩ = false := by
                cases hq : hasB t 8 ⟨sa, ss, sd, so⟩
                · rfl
                · exact absurd (hasB_iff.1 hq).2.1 k2
              rw [hb, Bool.or_false] at HTK
              have HTK2 := Lib.hid HTK.out
              clear HTK hb
              go_wp2_with fail
              go_roundg (n6 - (0 + 1))
              case measure => omega
              case rel => exact ⟨0 + 1, by omega, by omega, by go_num, by rw [HTK2.out]; first | done | rfl, bw_drewN BV.out nq, SV.out.stays (bw_drewN (Below.refl _ _) nq)⟩
          · have hb : hasB t 8 ⟨sa, ss, sd, so⟩ = false := by
              cases hq : hasB t 8 ⟨sa, ss, sd, so⟩
              · rfl
              · exact absurd (hasB_iff.1 hq).1 k1
            rw [hb, Bool.or_false] at HTK
            have HTK2 := Lib.hid HTK.out
            clear HTK hb
            go_wp2_with fail
            go_roundg (n6 - (0 + 1))
            case measure => omega
            case rel => exact ⟨0 + 1, by omega, by omega, by go_num, by rw [HTK2.out]; first | done | rfl, bw_drewN BV.out nq, SV.out.stays (bw_drewN (Below.refl _ _) nq)⟩
        · obtain ⟨j, rfl⟩ : ∃ j, i = j + 1 := ⟨i - 1, by omega⟩
          have hr0 := HRI.out j rfl
          obtain ⟨ad', had', hprev⟩ := SV.out j (by omega)
          injection had' with had'
          subst had'
          obtain ⟨r0, r1, r2, _⟩ := FI.out.nums j (by omega)
          generalize l[j]'(by omega) = pv at hr0 hprev r0 r1 r2
          obtain ⟨pa, ps, pd, po⟩ := pv
          obtain ⟨v0, v1, _, _⟩ := hprev
          simp only at hr0 v0 v1 r0 r1 r2
          have hj1 : ((j + 1 : Nat) : Int) - 1 = j := by omega
          have hj2 : (0 : Int) ≤ j := by omega
          have hj3 : (j : Int) < n6 := by omega
          have hj4 : (0 : Int) < ((j + 1 : Nat) : Int) := by omega
          have hr1 : ¬ sa ≤ pa + (ps - 1) := by omega
          have hr2 : 0 ≤ ps - 1 := by omega
          have hr3 : decide (sa ≤ pa + (ps - 1)) = false := decide_eq_false hr1
          have hj5 : decide ((0 : Int) < ((j + 1 : Nat) : Int)) = true := decide_eq_true hj4
          have hj6 : decide ((0 : Int) < (j : Int) + 1) = true := decide_eq_true (by omega)
          go_quiet (fail)
          clear z1 z2 z3 z4 z5
          by_cases k1 : sa ≤ t
          · have k1' : 0 ≤ t - sa := by omega
            by_cases k2 : (8 : Int) ≤ ss
            · have k2' : 0 ≤ ss - 8 := by omega
              by_cases k3 : t - sa ≤ ss - 8
              · have hb : hasB t 8 ⟨sa, ss, sd, so⟩ = true := hasB_iff.2 ⟨k1, k2, k3⟩
                obtain ⟨h', hdd⟩ := hcm.out hb
                have hdd2 := HDD.out.symm.trans hdd
                cases hdd2
              · have hb : hasB t 8 ⟨sa, ss, sd, so⟩ = false := by
                  cases hq : hasB t 8 ⟨sa, ss, sd, so⟩
                  · rfl
                  · exact absurd (hasB_iff.1 hq).2.2 k3
                rw [hb, Bool.or_false] at HTK
                have HTK2 := Lib.hid HTK.out
                clear HTK hb
                go_wp2_with fail
                go_roundg (n6 - ((j + 1) + 1))
                case measure => omega
                case rel => exact ⟨(j + 1) + 1, by omega, by omega, by go_num, by rw [HTK2.out]; first | done | rfl, bw_drewN BV.out nq, SV.out.stays (bw_drewN (Below.refl _ _) nq)⟩
            · have hb : hasB t 8 ⟨sa, ss, sd, so⟩ = false := by
                cases hq : hasB t 8 ⟨sa, ss, sd, so⟩
                · rfl
                · exact absurd (hasB_iff.1 hq).2.1 k2
              rw [hb, Bool.or_false] at HTK
              have HTK2 := Lib.hid HTK.out
              clear HTK hb
              go_wp2_with fail
              go_roundg (n6 - ((j + 1) + 1))
              case measure => omega
              case rel => exact ⟨(j + 1) + 1, by omega, by omega, by go_num, by rw [HTK2.out]; first | done | rfl, bw_drewN BV.out nq, SV.out.stays (bw_drewN (Below.refl _ _) nq)⟩
          · have hb : hasB t 8 ⟨sa, ss, sd, so⟩ = false := by
              cases hq : hasB t 8 ⟨sa, ss, sd, so⟩
              · rfl
              · exact absurd (hasB_iff.1 hq).1 k1
            rw [hb, Bool.or_false] at HTK
            have HTK2 := Lib.hid HTK.out
            clear HTK hb
            go_wp2_with fail
            go_roundg (n6 - ((j + 1) + 1))
            case measure => omega
            case rel => exact ⟨(j + 1) + 1, by omega, by omega, by go_num, by rw [HTK2.out]; first | done | rfl, bw_drewN BV.out nq, SV.out.stays (bw_drewN (Below.refl _ _) nq)⟩
      · obtain rfl : i = n6 := by omega
        have hany : (l.take i).any (hasB t 8) = false := by
          rw [List.take_of_length_le (by have := LN.out; omega)]
          rw [List.any_eq_false]
          intro s hs hb
          obtain ⟨q, hq, rfl⟩ := List.getElem_of_mem hs
          obtain ⟨h', hdd⟩ := FI.out.come q hq hb
          have hdd2 := HDD.out.symm.trans hdd
          cases hdd2
        go_wp2_with fail
        go_ret
        exact ⟨rfl, BW.out⟩
theorem bspans_any (A : Option Addr) (n c : Nat) (F : Fb) (hn : F.length = n) (hL : F.length ≤ 140737488355328) (hR : ∀ es ∈ F, es.length ≤ 140737488355328) (t b : Int) (ht : U t) (hb : 0 ≤ b ∧ b ≤ 255) (w : World) (hF : Fab w A F) :
    Calls Try.prog 5 #[.slice A n c, .int .u64 t, .int .u8 b] w fun e w' => e = .returned (.bool true) ∧ Below w.heap.size w w' := by
  subst hn
  cases hf : fewB F
  · exact spans_few A c F hL hR t b ht hb w hF hf
  cases hr : rightB F
  · exact spans_wrong A c F hL hR t b ht hb w hF hf hr
  rcases Nat.lt_or_ge 1000 (wys F 13 0) with hw | hw
  · exact spans_many A c F hL hR t b ht hb w hF hf hr hw
  obtain ⟨wd, hm⟩ : ∃ wd : Nat, b % 4 = 0 ∧ wd = 1 ∨ b % 4 = 1 ∧ wd = 2 ∨ b % 4 = 2 ∧ wd = 4 ∨ b % 4 = 3 ∧ wd = 8 := by
    have : b % 4 = 0 ∨ b % 4 = 1 ∨ b % 4 = 2 ∨ b % 4 = 3 := by omega
    rcases this with h | h | h | h
    · exact ⟨1, .inl ⟨h, rfl⟩⟩
    · exact ⟨2, .inr (.inl ⟨h, rfl⟩)⟩
    · exact ⟨4, .inr (.inr (.inl ⟨h, rfl⟩))⟩
    · exact ⟨8, .inr (.inr (.inr ⟨h, rfl⟩))⟩
  cases hd : dec F wd F.length 0 t 0 with
  | none => exact spans_none A c F hL hR t b ht hb w hF wd hm hf hr hw hd
  | some x =>
    obtain ⟨d, o, h⟩ := x
    exact spans_some A c F hL hR t b ht hb w hF d o h wd hm hf hr hw hd
open Go.Deep Go.ChangeShapes Go.WideShapes Go.Joins
theorem bspans_row (A : Option Addr) (n c : Nat) (F : Fb) (hn : F.length = n) (hL : F.length ≤ 140737488355328) (hR : ∀ es ∈ F, es.length ≤ 140737488355328) (t b : Int) (w : World) (hF : Fab w A F) (ht : (Lit.int .u64 t).wf = true) (hb : (Lit.int .u8 b).wf = true) :
    Calls Try.prog 5 #[.slice A n c, .int .u64 t, .int .u8 b] w fun e w' => e = .returned (.bool true) ∧ Below w.heap.size w w' := by
  have h1 := bounds_u64 ht
  exact bspans_any A n c F hn hL hR t b ⟨h1.1, Int.lt_of_le_of_lt h1.2 (by omega)⟩ (bounds_u8 hb) w hF
end Go.Proofs.Ytlamkhmbjkjbdaa
