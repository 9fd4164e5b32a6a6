/- The contracts of slices.Grow at nil and slices.Concat at two rows of buses. Conditions: something is laid, not more than 1000 elements. -/
import Derived.Test.YtlamkhmbjkjbdaaTheirs
import Derived.Lib.AppendZerosOnto
import Derived.Lib.Walk
import Derived.Lib.SliceRun
namespace Go.Proofs.Ytlamkhmbjkjbdaa
open Go.RowKit Go.Sort
set_option linter.unusedVariables false
set_option linter.unusedSimpArgs false
def GrowPost (n : Nat) (w : World) (e : Ending) (w' : World) : Prop := ∃ A G, e = .returned (.slice A 0 G) ∧ w'.ownsRow w.heap.size 46 1 (.slice A 0 G) 0 [] ∧ Below w.heap.size w w'
set_option maxHeartbeats 800000 in
theorem grow_nil (n : Nat) (h0 : 0 < n) (h1 : n ≤ 1000) (w : World) : Calls Try.prog 33 #[.slice none 0 0, .int .i64 n] w (GrowPost n w) := by
  obtain ⟨i46, hi46, hz46, hs46, hb46⟩ := info_parts info46
  have hold : (Builtin.firstCells i46.size 0 (.slice none 0 0)).run Try.prog w.drew = .ok ([] : List Value).toArray w.drew := run_firstCells_none w.drew i46.size 0 0 0
  have hrz : ∀ ty, (Builtin.append_ #[32, 3] ty #[.slice none 0 0, .int .i64 (n : Int)]).run Try.prog w =
      .ok (.slice (some ⟨w.heap.size, 0, none⟩) n (grownCap w n 0 46)) (w.drew.alloc (.cells (([] : List Value).toArray ++ Builtin.zeroCells (Value.cells (.slice none 0 0)) n ++ Builtin.zeroCells (Value.cells (.slice none 0 0)) (grownCap w n 0 46 - n)) 46)) := fun ty => by
    have h := Lib.run_append_grow_zeros w 32 3 ty 46 i46 (.slice none 0 0) .i64 .i64 Try.underlying32 Try.underlying3 hi46 hz46 none 0 0 [] hold n (by omega) (by rw [hs46]; omega) (by omega) (by omega) (by rw [hb46]; omega) (by rw [Nat.zero_add]; exact growslice_fits h0 (by rw [hb46]; omega))
    rw [Nat.zero_add] at h
    exact h
  have hGn : n ≤ grownCap w n 0 46 := grownCap_ge w _ _ _
  have hG63 : grownCap w n 0 46 ≤ maxLen := grownCap_le_maxLen w n 0 46 (by unfold maxLen; omega)
  have hcs : (([] : List Value).toArray ++ Builtin.zeroCells (Value.cells (.slice none 0 0)) n ++ Builtin.zeroCells (Value.cells (.slice none 0 0)) (grownCap w n 0 46 - n)).size = grownCap w n 0 46 * 1 := by
    simp only [Array.size_append, size_zeroCells, Value.cells, List.size_toArray, List.length_cons, List.length_nil]
    omega
  have hown := World.ownsRow_made (base := w.heap.size) (e := 46) (size := 1) w.drew (([] : List Value).toArray ++ Builtin.zeroCells (Value.cells (.slice none 0 0)) n ++ Builtin.zeroCells (Value.cells (.slice none 0 0)) (grownCap w n 0 46 - n)) (grownCap w n 0 46) (Nat.le_refl _) hG63 hcs
  generalize (([] : List Value).toArray ++ Builtin.zeroCells (Value.cells (.slice none 0 0)) n ++ Builtin.zeroCells (Value.cells (.slice none 0 0)) (grownCap w n 0 46 - n)) = cur at hrz hown
  generalize grownCap w n 0 46 = G at *
  have HO := Lib.hid hown
  unfold maxLen at hG63
  clear hown hcs hold hi46 hz46 hs46 hb46
  go_enter Try.func33, Try.ntmps33
  go_wp2_with (at_builtin; refine Lib.wpList_append_run _ rfl _ _ _ _ rfl _ _ rfl rfl _ _ (hrz _) ?_)
  all_goals
    go_ret
    exact ⟨_, _, rfl, HO.out, bw_alloc (Below.refl w.heap.size w).drew _⟩
/-- What Concat hands back: a new row that holds both. -/
def ConcPost (l0 l1 : Nat) (xs : List Value) (w : World) (e : Ending) (w' : World) : Prop := ∃ A c, e = .returned (.slice A (l0 + l1) c) ∧ w'.ownsRow w.heap.size 46 1 (.slice A (l0 + l1) c) (l0 + l1) xs ∧ Below w.heap.size w w'
theorem own1 {w : World} {B n : Nat} {t : TypeId} {v : Value} {xs : List Value} (h : w.ownsRow B t 1 v n xs) : xs.length = n := by have := h.1; omega
theorem shape {w : World} {B n : Nat} {t : TypeId} {sz : Nat} {v : Value} {xs : List Value} (h : w.ownsRow B t sz v n xs) : ∃ A c, v = .slice A n c := by
  rcases h.2 with ⟨rfl, rfl⟩ | ⟨g, cap, cur, rfl, _⟩
  · exact ⟨_, _, rfl⟩
  · exact ⟨_, _, rfl⟩
theorem own_bel {w w' : World} {B : Nat} {t : TypeId} {sz n : Nat} {v : Value} {xs : List Value} (h : w.ownsRow B t sz v n xs) (hb : Below w.heap.size w w') : w'.ownsRow B t sz v n xs := by
  have hg : w.grownBy w' none := ⟨hb.os, hb.tape, hb.output, hb.size, fun i hi _ => hb.block i hi⟩
  exact h.kept hg (by cases h : v.ownBlock <;> simp)
set_option maxHeartbeats 3200000 in
theorem conc_any (bz : Nat) (a0 a1 : Addr) (l0 l1 c0 c1 : Nat) (xs0 xs1 : List Value) (h0 : 0 < l0) (h1 : l0 + l1 ≤ 1000) (w : World) (z0 : w.cell? ⟨bz, 0, none⟩ = some (.slice (some a0) l0 c0)) (z1 : w.cell? ⟨bz, 1, none⟩ = some (.slice (some a1) l1 c1))
    (n0 : xs0.length = l0) (n1 : xs1.length = l1) (k0 : ∀ j u, xs0[j]? = some u → w.cell? (a0.add j) = some u) (k1 : ∀ j u, xs1[j]? = some u → w.cell? (a1.add j) = some u) (o0 : ∀ u ∈ xs0, u.oneCell' = true) (o1 : ∀ u ∈ xs1, u.oneCell' = true) :
    Calls Try.prog 24 #[.slice (some ⟨bz, 0, none⟩) 2 2] w (ConcPost l0 l1 (xs0 ++ xs1) w) := by
  obtain ⟨i46, hi46, hz46, hs46, hb46⟩ := info_parts info46
  have HI := Lib.hid (And.intro hi46 (And.intro hz46 (And.intro hs46 hb46)))
  have N0 := Lib.hid n0
  have N1 := Lib.hid n1
  have K0 := Lib.hid k0
  have K1 := Lib.hid k1
  have O0 := Lib.hid o0
  have O1 := Lib.hid o1
  have Z0 := Lib.hid z0
  have Z1 := Lib.hid z1
  have hbz := World.block_lt_of_cell? _ _ z0
  simp only at hbz
  have KG := Lib.hid (fun W => (by have := grow_nil (l0 + l1) (by omega) h1 W; rwa [Int.natCast_add] at this : Calls Try.prog 33 #[.slice none 0 0, .int .i64 ((l0 : Int) + l1)] W (GrowPost (l0 + l1) W)))
  have hl0 : (0 : Int) ≤ l0 := by omega
  have hl1 : (0 : Int) ≤ l1 := by omega
  have hls : (l0 : Int) + l1 ≤ 1000 := by omega
  clear n0 n1 k0 k1 o0 o1 hi46 hz46 hs46 hb46
  go_enter Try.func24, Try.ntmps24
  go_wp2_with fail
  go_loop [3, 5, 11] (fun s3 _ s11 => ∃ k : Nat, k ≤ 2 ∧ s11 = .int .i64 k ∧ s3 = .int .i64 ((if k = 0 then 0 else if k = 1 then l0 else l0 + l1 : Nat) : Int)) (fun _ _ s11 => 2 - (intOf s11).toNat)
  case atStart => exact ⟨0, by omega, rfl, rfl⟩
  case round =>
    obtain ⟨k, hk, rfl, rfl⟩ := hrel
    have hc : k = 0 ∨ k = 1 ∨ k = 2 := by omega
    rcases hc with rfl | rfl | rfl
    · go_wp2_with fail
      go_round
      case rel => exact ⟨1, by omega, by go_num, by simp⟩
      case measure => simp [intOf]
    · simp only [if_neg (by decide : ¬ (1 : Nat) = 0), if_pos (rfl : (1 : Nat) = 1)]
      have q1 : (0 : Int) ≤ (l0 : Int) + l1 := by omega
      have q2 : ¬ (l0 : Int) + l1 < 0 := by omega
      go_wp2_with fail
      go_round
      case rel => exact ⟨2, by omega, by go_num, by simp⟩
      case measure => simp [intOf]
    · go_wp2_with fail
      refine (KG.out _).mono ?_
      rintro e w1 ⟨A, G, rfl, ow1, bw1⟩
      have OW1 := Lib.hid ow1
      have BW1 := Lib.hid bw1
      clear ow1 bw1
      go_wp2_with fail
      go_loopg [6, 8, 27] 2 (fun gg s6 _ s27 wr => ∃ (k c : Nat) (A : Option Addr), k ≤ 2 ∧ 2 - k ≤ gg ∧ s27 = .int .i64 k ∧ s6 = .slice A (if k = 0 then 0 else if k = 1 then l0 else l0 + l1) c ∧ Hid (Below w.heap.size w wr) ∧
        Hid (wr.ownsRow w.heap.size 46 1 (.slice A (if k = 0 then 0 else if k = 1 then l0 else l0 + l1) c) (if k = 0 then 0 else if k = 1 then l0 else l0 + l1) (if k = 0 then [] else if k = 1 then xs0 else xs0 ++ xs1)))
      case atStart => exact ⟨0, G, A, by omega, by omega, rfl, rfl, BW1, OW1⟩
      case round =>
        obtain ⟨k, c, A, hk, hg, rfl, rfl, BW, OW⟩ := hrel
        have hc : k = 0 ∨ k = 1 ∨ k = 2 := by omega
        rcases hc with rfl | rfl | rfl
        · simp only [if_pos (rfl : (0 : Nat) = 0)] at OW ⊢
          obtain ⟨hi, hz, hs, hb⟩ := HI.out
          have za := (BW.out.cell (p := ⟨bz, 0, none⟩) hbz).trans Z0.out
          have zb := (BW.out.cell (p := ⟨bz, 1, none⟩) hbz).trans Z1.out
          have hBw : w.heap.size ≤ wr.heap.size := BW.out.size
          go_wp2_with (at_builtin; refine wpList_append_own_at _ rfl (.tmp 31) (.tmp 32) 32 (by rfl) w.heap.size 46 i46 (.slice none 0 0) 1 24 Try.underlying32 hi hz hs hb rfl (by decide) (.slice A 0 c) 0 [] (by rfl) OW.out a0 l0 c0 xs0 (by rfl) ?c1 ?c2 ?c3 ?c4 ?c5 hBw ?_)
          case c1 => have := N0.out; omega
          case c2 => exact fun j u hj => (BW.out.cell (World.block_lt_of_cell? _ _ (K0.out j u hj))).trans (K0.out j u hj)
          case c3 => exact O0.out
          case c4 => simp only [maxLen]; omega
          case c5 => omega
          intro v' w2 own1 g1 _ at1
          obtain ⟨A', c', rfl⟩ := shape own1
          have O2 := Lib.hid own1
          have B2 := Lib.hid (BW.out.grown g1 hBw (fun q hq => (OW.out.lt q hq).1))
          clear own1 g1 at1 hi hz hs hb
          go_wp2_with fail
          go_roundg 1
          case measure => omega
          case rel =>
            exact ⟨1, c', A', by omega, by omega, by go_num, by simp, B2, by simpa using O2⟩
        · simp only [if_neg (by decide : ¬ (1 : Nat) = 0), if_pos (rfl : (1 : Nat) = 1)] at OW ⊢
          obtain ⟨hi, hz, hs, hb⟩ := HI.out
          have za := (BW.out.cell (p := ⟨bz, 0, none⟩) hbz).trans Z0.out
          have zb := (BW.out.cell (p := ⟨bz, 1, none⟩) hbz).trans Z1.out
          have hBw : w.heap.size ≤ wr.heap.size := BW.out.size
          go_wp2_with (at_builtin; refine wpList_append_own_at _ rfl (.tmp 31) (.tmp 32) 32 (by rfl) w.heap.size 46 i46 (.slice none 0 0) 1 24 Try.underlying32 hi hz hs hb rfl (by decide) (.slice A l0 c) l0 xs0 (by rfl) OW.out a1 l1 c1 xs1 (by rfl) ?c1 ?c2 ?c3 ?c4 ?c5 hBw ?_)
          case c1 => have := N1.out; omega
          case c2 => exact fun j u hj => (BW.out.cell (World.block_lt_of_cell? _ _ (K1.out j u hj))).trans (K1.out j u hj)
          case c3 => exact O1.out
          case c4 => simp only [maxLen]; omega
          case c5 => omega
          intro v' w2 own1 g1 _ at1
          obtain ⟨A', c', rfl⟩ := shape own1
          have O2 := Lib.hid own1
          have B2 := Lib.hid (BW.out.grown g1 hBw (fun q hq => (OW.out.lt q hq).1))
          clear own1 g1 at1 hi hz hs hb
          go_wp2_with fail
          go_roundg 0
          case measure => omega
          case rel => exact ⟨2, c', A', by omega, by omega, by go_num, by simp, B2, by simpa using O2⟩
        · simp only [if_neg (by decide : ¬ (2 : Nat) = 0), if_neg (by decide : ¬ (2 : Nat) = 1)] at OW ⊢
          go_wp2_with fail
          go_ret
          exact ⟨A, c, rfl, OW.out, BW.out⟩
end Go.Proofs.Ytlamkhmbjkjbdaa
