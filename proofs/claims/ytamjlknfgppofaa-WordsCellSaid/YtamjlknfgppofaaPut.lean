/- Contracts of the words (layer 1) that write: put, Put, Put64, awake, and the reference's Bytes. Conditions: rows of bytes, short. -/
import Derived.Test.YtamjlknfgppofaaMem
import Derived.Laws.BitsAllLaws
import Derived.Laws.Cover3
namespace Go.Proofs.Ytamjlknfgppofaa
open Go.RowKit
set_option linter.unusedVariables false
set_option linter.unusedSimpArgs false
theorem bs_snoc (xs : List Int) (b : Int) : bs xs ++ [.int .u8 b] = bs (xs ++ [b]) := by simp [bs]
theorem cell_one_new (w : World) (t : TypeId) (v : Value) : ∀ j u, [v][j]? = some u → (w.alloc (.cells #[v] t)).cell? ((⟨w.heap.size, 0, none⟩ : Addr).add j) = some u := by
  intro j u hu
  cases j with
  | zero => simp at hu; subst hu; simp [Addr.add]
  | succ j => simp at hu
/-- The n low bytes of a number, the highest first. -/
def bt (v n : Nat) : List Int := (List.range n).map fun j => (v : Int) / 2 ^ (8 * (n - 1 - j)) % 256
theorem bt_len (v n : Nat) : (bt v n).length = n := by simp [bt]
theorem bt_take {v n j : Nat} (h : j < n) : (bt v n).take (j + 1) = (bt v n).take j ++ [(v : Int) / 2 ^ (8 * (n - 1 - j)) % 256] := by
  rw [List.take_add_one]
  simp [bt, h]
set_option maxHeartbeats 1600000 in
theorem put_any (x0 : Value) (v n L : Nat) (xs : List Int) (hn : n ≤ 8) (hL : L ≤ 10000) (hv : v < 18446744073709551616) (w : World)
    (hc : Calls Try.prog 20 #[x0] w fun e w' => ∃ x, e = .returned x ∧ w'.ownsRow w.heap.size 5 1 x L (bs xs) ∧ Below w.heap.size w w') :
    Calls Try.prog 18 #[x0, .int .u64 v, .int .i64 n] w fun e w' => ∃ x, e = .returned x ∧ w'.ownsRow w.heap.size 5 1 x (L + n) (bs (xs ++ bt v n)) ∧ Below w.heap.size w w' := by
  obtain ⟨i0, hi, hz0, hz1, hz2⟩ := info_parts info5
  go_enter Try.func18, Try.ntmps18
  go_wp2_with fail
  refine hc.mono ?_
  rintro e w1 ⟨x, rfl, ow, bw⟩
  obtain ⟨A, c, rfl⟩ := own_shape ow
  have OW := Lib.hid ow
  have BW := Lib.hid bw
  clear ow bw hc
  go_wp2_with fail
  go_loopw [7, 8] (fun o i wr => ∃ (j : Nat) (A : Option Addr) (c : Nat), o = .slice A (L + j) c ∧ i = .int .i64 ((n : Int) - 1 - j) ∧ j ≤ n ∧ Hid (wr.ownsRow w.heap.size 5 1 (.slice A (L + j) c) (L + j) (bs (xs ++ (bt v n).take j))) ∧ Hid (Below w.heap.size w wr)) (fun _ i _ => ((intOf i) + 1).toNat)
  case atStart => exact ⟨0, A, c, rfl, by simp, by omega, by simpa using OW, BW⟩
  case round =>
    clear OW BW
    obtain ⟨j, A, c, rfl, rfl, hj, OW, BW⟩ := hrel
    by_cases hlt : j < n
    · obtain ⟨q, hq⟩ : ∃ q : Nat, (n : Int) - 1 - j = q := ⟨n - 1 - j, by omega⟩
      have hqn : n - 1 - j = q := by omega
      rw [hq]
      have HT := Lib.hid (bt_take (v := v) hlt)
      rw [hqn] at HT
      clear hqn
      have hq8 : q < 8 := by omega
      have OW' := Lib.hid (own_below OW.out (bw_alloc (Below.refl wr.heap.size wr) (.cells #[.int .u8 ((v : Int) / 2 ^ (8 * q) % 256)] 5)))
      have hsz := BW.out.size
      go_wp2_with (at_builtin; refine wpList_append_own_at _ rfl (.tmp 17) (.tmp 23) 22 rfl w.heap.size 5 i0 (.int .u8 0) 1 1 Try.underlying22 hi hz0 hz1 hz2 rfl (by decide) (.slice A (L + j) c) (L + j) (bs (xs ++ (bt v n).take j)) rfl OW'.out ⟨wr.heap.size, 0, none⟩ 1 1 [.int .u8 ((v : Int) / 2 ^ (8 * q) % 256)] rfl rfl (cell_one_new _ _ _) ?c2 ?c3 ?c4 ?c5 ?_)
      case c2 => intro u hu; simp at hu; subst hu; rfl
      case c3 => simp only [maxLen]; omega
      case c4 => omega
      case c5 => simp <;> omega
      intro v' w2 own1 g1 _ at1
      rw [bs_snoc, List.append_assoc, ← HT.out] at own1
      obtain ⟨A', c', rfl⟩ := own_shape own1
      have O2 := Lib.hid own1
      have B2 := Lib.hid ((bw_alloc BW.out (.cells #[.int .u8 ((v : Int) / 2 ^ (8 * q) % 256)] 5)).grown g1 (by simp <;> omega) (fun k hk => (OW'.out.lt k hk).1))
      clear own1 g1 at1 OW OW'
      go_wp2_with fail
      refine ⟨⟨j + 1, A', c', rfl, ?_, by omega, O2, B2⟩, ?_⟩
      · congr 1; omega
      · simp [intOf] <;> omega
    · obtain rfl : j = n := by omega
      have hd : (j : Int) - 1 - j = -1 := by omega
      rw [hd]
      have O2 : Hid _ := OW
      rw [List.take_of_length_le (by rw [bt_len]; exact Nat.le_refl _)] at O2
      clear OW
      go_wp2_with fail
      go_ret
      exact ⟨_, rfl, O2.out, BW.out⟩
theorem Put_any (x0 : Value) (v L : Nat) (xs : List Int) (hL : L ≤ 10000) (hv : v < 4294967296) (w : World)
    (hc : Calls Try.prog 20 #[x0] w fun e w' => ∃ x, e = .returned x ∧ w'.ownsRow w.heap.size 5 1 x L (bs xs) ∧ Below w.heap.size w w') :
    Calls Try.prog 8 #[x0, .int .u32 v] w fun e w' => ∃ x, e = .returned x ∧ w'.ownsRow w.heap.size 5 1 x (L + 4) (bs (xs ++ bt v 4)) ∧ Below w.heap.size w w' := by
  have HP := put_any x0 v 4 L xs (by decide) hL (by omega) w hc
  clear hc
  go_enter Try.func8, Try.ntmps8
  go_wp2_with fail
  refine HP.mono ?_
  rintro e w1 ⟨x, rfl, ow, bw⟩
  have OW := Lib.hid ow
  have BW := Lib.hid bw
  clear ow bw
  go_wp2_with fail
  go_ret
  exact ⟨_, rfl, OW.out, BW.out⟩
theorem Put64_any (x0 : Value) (v L : Nat) (xs : List Int) (hL : L ≤ 10000) (hv : v < 18446744073709551616) (w : World)
    (hc : Calls Try.prog 20 #[x0] w fun e w' => ∃ x, e = .returned x ∧ w'.ownsRow w.heap.size 5 1 x L (bs xs) ∧ Below w.heap.size w w') :
    Calls Try.prog 9 #[x0, .int .u64 v] w fun e w' => ∃ x, e = .returned x ∧ w'.ownsRow w.heap.size 5 1 x (L + 8) (bs (xs ++ bt v 8)) ∧ Below w.heap.size w w' := by
  have HP := put_any x0 v 8 L xs (by decide) hL hv w hc
  clear hc
  go_enter Try.func9, Try.ntmps9
  go_wp2_with fail
  refine HP.mono ?_
  rintro e w1 ⟨x, rfl, ow, bw⟩
  have OW := Lib.hid ow
  have BW := Lib.hid bw
  clear ow bw
  go_wp2_with fail
  go_ret
  exact ⟨_, rfl, OW.out, BW.out⟩
theorem clone_none (w : World) : Calls Try.prog 20 #[.slice none 0 0] w fun e w' => ∃ x, e = .returned x ∧ w'.ownsRow w.heap.size 5 1 x 0 (bs []) ∧ Below w.heap.size w w' := by
  refine (clone_nil w).mono ?_
  rintro e w' ⟨rfl, rfl⟩
  exact ⟨_, rfl, World.ownsRow_nil _ _ _ _, Below.refl _ _⟩
theorem awake_any (w : World) : Calls Try.prog 7 #[] w fun e w' => e = .returned (.bool true) ∧ Below w.heap.size w w' := by
  go_enter Try.func7, Try.ntmps7
  go_wp2_with fail
  refine (Put_any (.slice none 0 0) 258 0 [] (by decide) (by decide) _ (clone_none _)).mono ?_
  rintro e w1 ⟨x, rfl, ow, bw⟩
  obtain ⟨A, c, rfl⟩ := own_shape ow
  have BW := Lib.hid bw
  clear ow bw
  go_wp2_with fail
  go_ret
  exact ⟨rfl, BW.out⟩
end Go.Proofs.Ytamjlknfgppofaa
