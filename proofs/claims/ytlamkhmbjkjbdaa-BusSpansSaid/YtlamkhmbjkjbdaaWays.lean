/- The contract of ways (layer 21's law). Conditions: right buses, not more than 2000 entries on each. -/
import Derived.Test.YtlamkhmbjkjbdaaSpn
namespace Go.Proofs.Ytlamkhmbjkjbdaa
open Go.RowKit Go.Sort
set_option linter.unusedVariables false
theorem wysL_snoc (rec : Nat → Nat) (es : List En) (k i : Nat) (h : i < es.length) : wysL rec (es.take (i + 1)) k = if es[i].y ∧ wysL rec (es.take i) k < 2000 then wysL rec (es.take i) k + rec es[i].d.toNat else wysL rec (es.take i) k := by
  unfold wysL
  rw [List.take_succ_eq_append_getElem h, List.foldl_append]
  rfl
set_option maxHeartbeats 1600000 in
theorem ways_any (A : Option Addr) (c : Nat) (F : Fb) (hr : rightB F = true) (ho : FbOk' F) (h2 : ∀ es ∈ F, es.length ≤ 2000) (w : World) (hF : Fab w A F) (d : Nat) :
    ∀ n : Nat, n < F.length → d ≤ 13 → Calls Try.prog 13 #[.slice A F.length c, .int .i64 n, .int .i64 ((13 - d : Nat) : Int)] w fun e w' => e = .returned (.int .i64 (wys F d n : Nat)) ∧ w = w' := by
  have HF := Lib.hid hF
  have HR := Lib.hid hr
  have HO := Lib.hid ho
  have H2 := Lib.hid h2
  clear hF hr ho h2
  induction d with
  | zero =>
    intro n hn hd
    obtain ⟨ad, Br, c1, rfl, hc, hl1, hl2, hE⟩ := HF.out n hn
    clear hE
    generalize F[n].length = N at hc hl1
    show Calls Try.prog 13 #[.slice (some ad) F.length c, .int .i64 n, .int .i64 13] w fun e w' => e = .returned (.int .i64 1048576) ∧ w = w'
    generalize F.length = L at hn ⊢
    have n0 : (0 : Int) ≤ n := by omega
    have n1 : (n : Int) < L := by omega
    go_enter Try.func13, Try.ntmps13
    go_wp2_with fail
    go_ret
    exact ⟨rfl, rfl⟩
  | succ d ih =>
    intro n hn hd
    have HIH := Lib.hid ih
    clear ih
    obtain ⟨ad, Br, c1, rfl, hc, hl1, hl2, hE⟩ := HF.out n hn
    have hw : wys F (d + 1) n = wysL (wys F d) F[n] F[n].length := by
      show wysL _ _ _ = _
      rw [List.getElem?_eq_getElem hn]; rfl
    rw [hw]
    have HENT := Lib.hid (fun (e : En) (he : e ∈ F[n]) => ent_of HR.out HO.out hn he)
    have h2000 := H2.out _ (List.getElem_mem hn)
    have HM := Lib.hid (fun m => wys_le F H2.out d m)
    obtain ⟨L, hL⟩ : ∃ L, L = F.length := ⟨_, rfl⟩
    have HL := Lib.hid hL
    rw [← hL] at hn ⊢
    generalize F[n] = es at hc hl1 hE HENT h2000 hw ⊢
    obtain ⟨N, hNN⟩ : ∃ N, N = es.length := ⟨_, rfl⟩
    have HNN := Lib.hid hNN
    rw [← hNN] at hc hl1 h2000 ⊢
    have HE := Lib.hid hE
    obtain ⟨D, hD⟩ : ∃ D : Nat, D = 13 - (d + 1) := ⟨_, rfl⟩
    have hD12 : (D : Int) ≤ 12 := by omega
    have hD0 : (0 : Int) ≤ D := by omega
    have hDs : 13 - d = D + 1 := by omega
    rw [← hD]
    unfold maxLen at hl2
    have HDS := Lib.hid hDs
    clear hL hNN hE hw hDs hD
    have n0 : (0 : Int) ≤ n := by omega
    have n1 : (n : Int) < L := by omega
    go_enter Try.func13, Try.ntmps13
    go_wp2_with fail
    go_loop [7, 8, 21] (fun s7 _ s21 => ∃ i k : Nat, i ≤ N ∧ s21 = .int .i64 i ∧ s7 = .int .i64 k ∧ k ≤ 1060000 + 2000 * d ∧ Hid (k = wysL (wys F d) (es.take i) N)) (fun _ _ s21 => N - (intOf s21).toNat)
    case atStart => exact ⟨0, N, Nat.zero_le _, rfl, rfl, by omega, by show N = wysL _ [] N; rfl⟩
    case round =>
      obtain ⟨i, k, hi, rfl, rfl, hk, HK⟩ := hrel
      by_cases hlt : i < N
      · have hiE : i < es.length := by rw [← HNN.out]; exact hlt
        obtain ⟨bd, rfl, hat, hok⟩ := HE.out i hiE
        have hsn := wysL_snoc (wys F d) es N i hiE
        obtain ⟨_, hd0, _, hbr⟩ := HENT.out es[i] (List.getElem_mem hiE)
        rw [← HK.out] at hsn
        have HSN := Lib.hid hsn
        have HBR := Lib.hid hbr
        clear hsn hbr
        generalize es[i] = e at *
        obtain ⟨ea, es', ey, ed, eb⟩ := e
        obtain ⟨x0, x1, x2, x3, x4⟩ := hat
        obtain ⟨_, _, ⟨u31, u32⟩, _⟩ := hok
        simp only at x0 x1 x2 x3 x4 hd0 u31 u32
        have hk0 : (0 : Int) ≤ k := by omega
        cases ey
        · have hnx : Hid (k = wysL (wys F d) (es.take (i + 1)) N) := by
            show _ = _
            rw [HSN.out, if_neg (by simp)]
          go_wp2_with fail
          go_round
          case rel => exact ⟨i + 1, k, by omega, by go_num, rfl, hk, hnx⟩
          case measure => simp [intOf]; omega
        · by_cases h2k : k < 2000
          · have h2k' : (k : Int) < 2000 := by omega
            obtain ⟨_, hb1, hb2⟩ := HBR.out rfl
            obtain ⟨q, rfl⟩ : ∃ q : Nat, ed = q := ⟨ed.toNat, by omega⟩
            have hnx : Hid (k + wys F d q = wysL (wys F d) (es.take (i + 1)) N) := by
              show _ = _
              rw [HSN.out, if_pos ⟨rfl, h2k⟩, Int.toNat_natCast]
            have hm := HM.out q
            have hb3 : (q : Int) < F.length := hb2
            have KI := HIH.out q (by omega) (by omega)
            rw [HDS.out, ← HL.out, Int.natCast_add] at KI
            have HKI := Lib.hid KI
            clear KI HBR
            generalize wys F d q = W at *
            go_wp2_with fail
            refine HKI.out.mono ?_
            rintro e w1 ⟨rfl, rfl⟩
            go_wp2_with fail
            go_round
            case rel => exact ⟨i + 1, k + W, by omega, by go_num, by go_num, by omega, hnx⟩
            case measure => simp [intOf]; omega
          · have h2k' : ¬ (k : Int) < 2000 := by omega
            have hnx : Hid (k = wysL (wys F d) (es.take (i + 1)) N) := by
              show _ = _
              rw [HSN.out, if_neg (by simp; omega)]
            go_wp2_with fail
            go_round
            case rel => exact ⟨i + 1, k, by omega, by go_num, rfl, hk, hnx⟩
            case measure => simp [intOf]; omega
      · obtain rfl : i = N := by omega
        go_wp2_with fail
        go_ret
        have := HK.out
        rw [List.take_of_length_le (by have := HNN.out; omega)] at this
        exact ⟨by rw [← this]; rfl, rfl⟩
end Go.Proofs.Ytlamkhmbjkjbdaa
