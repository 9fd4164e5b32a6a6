/- The contract of Cell (layer 1). Conditions: rows of bytes, short. -/
import Derived.Test.YtamjlknfgppofaaLawPut
import Derived.Laws.CopyOwn
import Derived.Deep.RegionLaw
namespace Go.Proofs.Ytamjlknfgppofaa
open Go.RowKit
set_option linter.unusedVariables false
set_option linter.unusedSimpArgs false
theorem cell_bad (A : Option Addr) (l c : Nat) (p : Int) (v : Nat) (w : World) (hp : Calls Try.prog 19 #[.slice A l c, .int .i64 p, .int .i64 4] w fun e w' => e = .returned (.slice none 0 0) ∧ w = w') :
    Calls Try.prog 11 #[.slice A l c, .int .i64 p, .int .u32 v] w fun e w' => e = .returned (.tuple #[.slice none 0 0, .bool false]) ∧ w = w' := by
  have hn := fun (w : World) (n c : Nat) => Lib.run_eql_slice_nil w 22 5 none n c 0 0 Try.underlying22
  go_enter Try.func11, Try.ntmps11
  go_wp2_with fail
  refine hp.mono ?_
  rintro e w1 ⟨rfl, rfl⟩
  go_wp2_with fail
  go_ret2
  exact ⟨rfl, rfl⟩
/-- The row with four bytes in it put anew. -/
def ins (xs : List Int) (p : Nat) (ys : List Int) : List Int := xs.take p ++ ys ++ xs.drop (p + ys.length)
theorem ins_len {xs ys : List Int} {p : Nat} (h : p + ys.length ≤ xs.length) : (ins xs p ys).length = xs.length := by simp [ins]; omega
theorem ins_row {L : List Value} {xs ys : List Int} {p l : Nat} (hL : L.take (l * 1) = bs xs) (h : p + (bs ys).length ≤ l) (hl : l ≤ L.length) : (splice L p (bs ys)).toArray.toList.take (l * 1) = bs (ins xs p ys) := by
  rw [Nat.mul_one] at hL ⊢
  have e : bs (ins xs p ys) = (bs xs).take p ++ bs ys ++ (bs xs).drop (p + ys.length) := by simp [ins, bs, List.map_take, List.map_drop]
  rw [e, ← hL, bs_len] at *
  simp only [splice, List.take_take, List.drop_take]
  rw [Nat.min_eq_left (by omega), List.take_append, List.take_append, List.length_take, bs_len, Nat.min_eq_left (by omega), List.take_take, Nat.min_eq_right (by omega), List.take_of_length_le (l := bs ys) (by rw [bs_len]; omega), List.append_assoc, show l - p - ys.length = l - (p + ys.length) from by omega]
theorem own_src {w : World} {B n : Nat} {A : Option Addr} {c : Nat} {ys : List Value} (h : w.ownsRow B 5 1 (.slice A (n + 1) c) (n + 1) ys) :
    ∃ ad, A = some ad ∧ ∀ j v, ys[j]? = some v → w.cell? (ad.add j) = some v := by
  rcases h.2 with ⟨e, h0⟩ | ⟨g, cap, cur, e, _⟩
  · omega
  · injection e with e1 e2 e3
    subst e1
    exact ⟨_, rfl, fun j v hj => h.cells (g := g) rfl j v hj⟩
set_option maxHeartbeats 800000 in
theorem cell_good (ad : Addr) (l c p v : Nat) (xs : List Int) (hl : xs.length = l) (hlc : l ≤ c) (hc : c ≤ maxLen) (hl1 : l ≤ 10000) (h : p + 4 ≤ l) (hv : v < 4294967296) (w : World) (hr : RowAt w ad xs) :
    Calls Try.prog 11 #[.slice (some ad) l c, .int .i64 p, .int .u32 v] w fun e w' => ∃ A c', e = .returned (.tuple #[.slice A l c', .bool true]) ∧ w'.ownsRow w.heap.size 5 1 (.slice A l c') l (bs (ins xs p (bt v 4))) ∧ Below w.heap.size w w' := by
  have hn := fun (w : World) (a : Addr) (n c : Nat) => Lib.run_eql_slice_nil w 22 5 (some a) n c 0 0 Try.underlying22
  have HP := Lib.hid (part_good ad l c p 4 (by decide) h hlc hc w)
  have HC := Lib.hid (clone_row l c hr hl hl1)
  have R4 := fun W => Lib.hid (Put_any (.slice none 0 0) v 0 [] (by decide) hv W (clone_none W))
  go_enter Try.func11, Try.ntmps11
  go_wp2_with fail
  refine HP.out.mono ?_
  rintro e w1 ⟨rfl, rfl⟩
  go_wp2_with fail
  refine HC.out.mono ?_
  rintro e w2 ⟨x, rfl, ow, bw⟩
  obtain ⟨hlen, hcase⟩ := ow
  rcases hcase with ⟨rfl, h0⟩ | ⟨g, cap, cur, rfl, hB, hg, hnc, hcm, hsz, htake⟩
  · omega
  have hgl : g < w2.heap.size := by
    rcases Nat.lt_or_ge g w2.heap.size with h | h
    · exact h
    · rw [Array.getElem?_eq_none h] at hg; cases hg
  have BW := Lib.hid bw
  have HG := Lib.hid hg
  have HT := Lib.hid htake
  have HCS := Lib.hid hcm
  clear bw hg htake hlen
  unfold maxLen at hcm hc
  go_wp2_with fail
  have q1 : p ≤ l := by omega
  have q3 : ¬ l < p := by omega
  have q4 : ¬ cap = p := by omega
  have q5 : ¬ p = cap := by omega
  have q6 : p < cap := by omega
  have q7 : ¬ cap - p = 0 := by omega
  have q8 : p ≤ cap := by omega
  go_region_law (first
    | (go_simp; go_at_call 8; refine (R4 _).out.mono ?_; rintro e w4 ⟨x4, rfl, ow4, bw4⟩; obtain ⟨A4, c4, rfl⟩ := own_shape ow4; have bw4 : Below w2.heap.size w2 w4 := ⟨bw4.os, bw4.tape, bw4.output, bw4.size, bw4.block⟩; have HG4 := Lib.hid ((bw4.block g hgl).trans HG.out); have BB4 := Lib.hid (bw_trans BW.out bw4); obtain ⟨ad4, rfl, hs4⟩ := own_src (n := 3) ow4; have HS4 := Lib.hid hs4; clear ow4 bw4 hs4)
    | (refine step_copy_splice rfl (.tmp 17) (.tmp 19) 22 22 rfl 5 Try.underlying22 (by kernel_rfl) (some ⟨g, p, none⟩) _ (l - p) _ 4 _ rfl rfl g p cur.toList 5 (by simpa using HG4.out) (bs (bt v 4)) (by rw [bs_len, bt_len]; exact (Nat.min_eq_left (by omega)).symm) (fun _ => ⟨rfl, ad4, rfl, HS4.out⟩) (by rw [bs_len, bt_len, Array.length_toList, hsz]; omega) (bs_one _) w.heap.size w BB4.out hB ?_; intro w5 hg5 hb5))
  all_goals
    have own5 : w5.ownsRow w.heap.size 5 1 (.slice (some ⟨g, 0, none⟩) l cap) l (bs (ins xs p (bt v 4))) := by
      refine ⟨by rw [bs_len, ins_len (by rw [bt_len]; omega)]; omega, .inr ⟨g, cap, _, rfl, hB, hg5.out, hnc, HCS.out, ?_, ?_⟩⟩
      · have := length_splice cur.toList p (bs (bt v 4)) (by rw [bs_len, bt_len, Array.length_toList, hsz]; omega)
        simpa [hsz] using this
      · exact ins_row HT.out (by rw [bs_len, bt_len]; omega) (by rw [Array.length_toList, hsz]; omega)
    have O5 := Lib.hid own5
    have B5 := Lib.hid hb5
    clear hg5 hb5 own5
    go_wp2_with fail
    go_ret2
    exact ⟨_, _, rfl, O5.out, B5.out⟩
end Go.Proofs.Ytamjlknfgppofaa
