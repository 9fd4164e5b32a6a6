/- The contract of bytes.Clone, and bytes as a string (layer 10). Condition: at most 2^47 bytes. -/
import Derived.Test.YtkkpdeiooopifaaMem
import Derived.OwnWalk
import Derived.Laws.BytesArg
import Derived.Laws.OwnMore
import Derived.Maps.AppendAt
namespace Go.Proofs.Ytkkpdeiooopifaa
open Go.RowKit Go.Sort
set_option linter.unusedVariables false
set_option linter.unusedSimpArgs false
theorem info5 : (Try.prog.info? 5).map (fun i => (i.zero, i.size, i.bytes)) = some (some (.int .u8 0), 1, 1) := by kernel_rfl
theorem clone_nil (w : World) : Calls Try.prog 16 #[.slice none 0 0] w fun e w' => e = .returned (.slice none 0 0) ∧ w = w' := by
  have hn := fun (w : World) (n c : Nat) => Lib.run_eql_slice_nil w 30 5 none n c 0 0 Try.underlying30
  go_enter Try.func16, Try.ntmps16
  go_wp2
  go_ret
  exact ⟨rfl, rfl⟩
theorem clone_some (ad : Addr) (m c : Nat) (xs : List Int) (w : World) (hl : xs.length = m) (hc : ∀ j u, (bs xs)[j]? = some u → w.cell? (ad.add j) = some u) (hm : m ≤ 140737488355328) :
    Calls Try.prog 16 #[.slice (some ad) m c] w fun e w' => ∃ v, e = .returned v ∧ w'.ownsRow w.heap.size 5 1 v m (bs xs) ∧ Below w.heap.size w w' := by
  obtain ⟨i0, hi, hz0, hz1, hz2⟩ := info_parts info5
  have hn := fun (w : World) (a : Addr) (n c : Nat) => Lib.run_eql_slice_nil w 30 5 (some a) n c 0 0 Try.underlying30
  have hown := World.ownsRow_made (w := w) (base := w.heap.size) (e := 5) (size := 1) #[] 0 (Nat.le_refl _) (by simp [maxLen]) rfl
  have hc' := Lib.hid hc
  clear hc
  go_enter Try.func16, Try.ntmps16
  go_wp2_with (at_builtin; refine wpList_append_own_at _ rfl _ _ 30 rfl w.heap.size 5 i0 (.int .u8 0) 1 1 Try.underlying30 hi hz0 hz1 hz2 rfl (by decide) _ _ _ rfl hown ad m c (bs xs) rfl ?c1 ?c2 (bs_one xs) ?c3 ?c4 ?c5 ?_)
  case c1 => rw [bs_len, hl, Nat.mul_one]
  case c2 => exact fun j u hu => cell_stays (bw_alloc (Below.refl _ _) _) (hc'.out j u hu)
  case c3 => simp only [maxLen]; omega
  case c4 => omega
  case c5 => simp
  intro v' w1 own1 g1 _ _
  have B1 := (bw_alloc (Below.refl w.heap.size w) (.cells #[] 5)).grown g1 (by simp) (by rintro k ⟨⟩; exact Nat.le_refl _)
  have O1 := Lib.hid own1
  have BB1 := Lib.hid B1
  clear own1 g1 B1
  go_wp2
  go_ret
  exact ⟨v', rfl, by simpa using O1.out, BB1.out⟩
/-- A clone: the same bytes in new memory. -/
theorem bclone_any (φ : Nat → Prop) (M : Nat) (hM : M ≤ 140737488355328) (v : Value) (s : ByteArray) (w : World) (h : ByAt φ w M v s) :
    Calls Try.prog 16 #[v] w fun e w' => ∃ v', e = .returned v' ∧ ByAt (fun k => w.heap.size ≤ k) w' M v' s ∧ Below w.heap.size w w' := by
  obtain ⟨xs, ⟨A, c, rfl, h1, h2, h3, h4, h5, h6⟩, hl, rfl⟩ := h
  cases A with
  | none =>
    obtain rfl := h3 rfl
    have h0 : xs.length = 0 := by omega
    obtain rfl : xs = [] := List.eq_nil_of_length_eq_zero h0
    refine (clone_nil w).mono ?_
    rintro e w' ⟨rfl, rfl⟩
    exact ⟨_, rfl, ⟨[], SlAt.nil _ _ _, Nat.zero_le _, rfl⟩, Below.refl _ _⟩
  | some ad =>
    refine (clone_some ad xs.length c xs w rfl (fun j u hu => h6 ad rfl j u hu) (by omega)).mono ?_
    rintro e w' ⟨v, rfl, own, hb⟩
    exact ⟨v, rfl, ⟨xs, SlAt.own own (fun k hk => (own.lt k hk).1), hl, rfl⟩, hb⟩
/-- Bytes as a string. -/
theorem by_str {φ : Nat → Prop} {w : World} {M : Nat} {v : Value} {s : ByteArray} (h : ByAt φ w M v s) : (convert 30 9 v).run Try.prog w = .ok (.string s) w := by
  obtain ⟨xs, ⟨A, c, rfl, h1, h2, h3, h4, h5, h6⟩, hl, rfl⟩ := h
  cases A with
  | none =>
    obtain rfl := h3 rfl
    have h0 : xs.length = 0 := by omega
    obtain rfl : xs = [] := List.eq_nil_of_length_eq_zero h0
    exact run_convert_bytes_nil w 30 5 Try.underlying30 Try.underlying5 0 0 9 Try.underlying9
  | some ad =>
    have hl : (loadCells ad xs.length).run Try.prog w = .ok (xs.map (Value.int .u8)).toArray w := by
      have := run_loadCells_list (P := Try.prog) w ad (xs.map (Value.int .u8)) (fun j v hj => h6 ad rfl j v hj)
      simpa using this
    rw [run_convert_bytes_string w 30 9 _ _ xs.length c Try.underlying30 Try.underlying5 Try.underlying9, run_bytesToString w _ xs.length c xs hl, foldl_push_bytes]
    simp [strOfNums, ByteArray.empty, ByteArray.emptyWithCapacity]
    rfl
end Go.Proofs.Ytkkpdeiooopifaa
