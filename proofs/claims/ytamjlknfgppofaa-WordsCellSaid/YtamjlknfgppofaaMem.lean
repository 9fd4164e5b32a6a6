/- Words for rows of bytes of the call's own, for what may be another behind a call, and the contract of slices.Clone at bytes. Condition of the contract: at most 2^47 bytes. -/
import Derived.Test.YtamjlknfgppofaaBase
import Derived.OwnWalk
import Derived.Laws.BytesArg
import Derived.Laws.OwnMore
import Derived.Maps.AppendAt
namespace Go.Proofs.Ytamjlknfgppofaa
open Go.RowKit
theorem info5 : (Try.prog.info? 5).map (fun i => (i.zero, i.size, i.bytes)) = some (some (.int .u8 0), 1, 1) := by kernel_rfl
/-- Bytes as values. -/
def bs (xs : List Int) : List Value := xs.map (Value.int .u8)
theorem bs_len (xs : List Int) : (bs xs).length = xs.length := by simp [bs]
theorem bs_one (xs : List Int) : ∀ u ∈ bs xs, u.oneCell' = true := by
  intro u hu
  simp [bs] at hu
  obtain ⟨a, _, rfl⟩ := hu
  rfl
theorem clone_nil (w : World) : Calls Try.prog 20 #[.slice none 0 0] w fun e w' => e = .returned (.slice none 0 0) ∧ w = w' := by
  have hn := fun (w : World) (n c : Nat) => Lib.run_eql_slice_nil w 22 5 none n c 0 0 Try.underlying22
  go_enter Try.func20, Try.ntmps20
  go_wp2
  go_ret
  exact ⟨rfl, rfl⟩
theorem clone_some (ad : Addr) (m c : Nat) (xs : List Int) (w : World) (hl : xs.length = m) (hc : ∀ j u, (bs xs)[j]? = some u → w.cell? (ad.add j) = some u) (hm : m ≤ 140737488355328) :
    Calls Try.prog 20 #[.slice (some ad) m c] w fun e w' => ∃ v, e = .returned v ∧ w'.ownsRow w.heap.size 5 1 v m (bs xs) ∧ Below w.heap.size w w' := by
  obtain ⟨i0, hi, hz0, hz1, hz2⟩ := info_parts info5
  have hn := fun (w : World) (a : Addr) (n c : Nat) => Lib.run_eql_slice_nil w 22 5 (some a) n c 0 0 Try.underlying22
  have hown := World.ownsRow_made (w := w) (base := w.heap.size) (e := 5) (size := 1) #[] 0 (Nat.le_refl _) (by simp [maxLen]) rfl
  have hc' := Lib.hid hc
  clear hc
  go_enter Try.func20, Try.ntmps20
  go_wp2_with (at_builtin; refine wpList_append_own_at _ rfl _ _ 22 rfl w.heap.size 5 i0 (.int .u8 0) 1 1 Try.underlying22 hi hz0 hz1 hz2 rfl (by decide) _ _ _ rfl hown ad m c (bs xs) rfl ?c1 ?c2 (bs_one xs) ?c3 ?c4 ?c5 ?_)
  case c1 => rw [bs_len, hl, Nat.mul_one]
  case c2 => exact fun j u hu => cell_stays (bw_alloc (Below.refl _ _) _) (hc'.out j u hu)
  case c3 => simp only [maxLen]; omega
  case c4 => omega
  case c5 => simp
  intro v' w1 own1 g1 _ _
  have B1 := (bw_alloc (Below.refl w.heap.size w) (.cells #[] 5)).grown g1 (by simp) (by rintro k ⟨⟩; exact Nat.le_refl _)
  have O1 := Lib.hid own1
  have BB1 := Lib.hid B1
  clear own1 g1 B1
  go_wp2
  go_ret
  exact ⟨v', rfl, O1.out, BB1.out⟩

/-! ### What may be another behind a call: blocks of a set, and new ones -/
structure Chg (S : Nat → Prop) (v w : World) : Prop where
  os : w.os = v.os
  tape : w.tape = v.tape
  output : w.output = v.output
  size : v.heap.size ≤ w.heap.size
  block : ∀ k, k < v.heap.size → ¬ S k → w.heap[k]? = v.heap[k]?
section
variable {S : Nat → Prop} {v w w' : World}
theorem Chg.refl (S : Nat → Prop) (w : World) : Chg S w w := ⟨rfl, rfl, rfl, Nat.le_refl _, fun _ _ _ => rfl⟩
theorem Chg.drew (h : Chg S v w) : Chg S v w.drew := ⟨h.os, h.tape, h.output, h.size, h.block⟩
theorem Chg.drewN (h : Chg S v w) (n : Nat) : Chg S v (w.drewN n) := ⟨h.os, h.tape, h.output, h.size, h.block⟩
theorem Chg.grown (h : Chg S v w) {row : Option Nat} (g : w.grownBy w' row) (hr : ∀ k, row = some k → S k ∨ v.heap.size ≤ k) : Chg S v w' :=
  ⟨g.os.trans h.os, g.tape.trans h.tape, g.output.trans h.output, Nat.le_trans h.size g.size, fun k hk hs =>
    (g.block k (Nat.lt_of_lt_of_le hk h.size) (fun e => by rcases hr k e.symm with h1 | h1; exact hs h1; omega)).trans (h.block k hk hs)⟩
theorem Chg.set (h : Chg S v w) {p : Addr} (hp : S p.block ∨ v.heap.size ≤ p.block) (u : Value) : Chg S v (w.setCell p u) :=
  ⟨h.os, h.tape, h.output, by simpa [World.setCell] using h.size, fun k hk hs => (Below.heap_setCell w p u k (by rintro rfl; rcases hp with h1 | h1; exact hs h1; omega)).trans (h.block k hk hs)⟩
theorem Chg.then_below (h : Chg S v w) (g : Below w.heap.size w w') : Chg S v w' :=
  ⟨g.os.trans h.os, g.tape.trans h.tape, g.output.trans h.output, Nat.le_trans h.size g.size, fun k hk hs => (g.block k (Nat.lt_of_lt_of_le hk h.size)).trans (h.block k hk hs)⟩
theorem Chg.alloc (h : Chg S v w) (o : Obj) : Chg S v (w.alloc o) := h.then_below (bw_alloc (Below.refl _ _) o)
theorem Chg.below {B : Nat} {u : World} (hb : Below B u v) (h : Chg S v w) (hB : B ≤ v.heap.size) (hS : ∀ k, S k → B ≤ k) : Below B u w :=
  ⟨h.os.trans hb.os, h.tape.trans hb.tape, h.output.trans hb.output, Nat.le_trans hb.size h.size, fun k hk => (h.block k (by omega) (fun hs => by have := hS k hs; omega)).trans (hb.block k hk)⟩
theorem Bk.chg {g : Nat} {t : TypeId} {cs : Array Value} (h : Bk v g t cs) (hc : Chg S v w) (hn : ¬ S g) : Bk w g t cs := (hc.block g h.lt hn).trans h
theorem Bk.grown {g : Nat} {t : TypeId} {cs : Array Value} (h : Bk v g t cs) {row : Option Nat} (hg : v.grownBy w row) (hn : row ≠ some g) : Bk w g t cs := (hg.block g h.lt (fun e => hn e.symm)).trans h
theorem own_shape {B : Nat} {e : TypeId} {size n : Nat} {x : Value} {xs : List Value} (h : v.ownsRow B e size x n xs) : ∃ A c, x = .slice A n c := by
  rcases h.2 with ⟨rfl, h0⟩ | ⟨g', cap, cur, rfl, _⟩
  · exact ⟨none, 0, by rw [h0]⟩
  · exact ⟨_, _, rfl⟩
theorem own_keep {B : Nat} {e : TypeId} {size n : Nat} {x : Value} {xs : List Value} (h : v.ownsRow B e size x n xs) (hk : ∀ k, x.ownBlock = some k → w.heap[k]? = v.heap[k]?) : w.ownsRow B e size x n xs := by
  refine ⟨h.1, ?_⟩
  rcases h.2 with h0 | ⟨g, cap, cur, rfl, h1, h2, h3⟩
  · exact .inl h0
  · exact .inr ⟨g, cap, cur, rfl, h1, (hk g (by simp [Value.ownBlock])).trans h2, h3⟩
theorem own_chg {B : Nat} {e : TypeId} {size n : Nat} {x : Value} {xs : List Value} (h : v.ownsRow B e size x n xs) (hc : Chg S v w) (hn : ∀ k, x.ownBlock = some k → ¬ S k) : w.ownsRow B e size x n xs :=
  own_keep h fun k hk => hc.block k (h.lt k hk).2 (hn k hk)
theorem own_set {B : Nat} {e : TypeId} {size n : Nat} {x : Value} {xs : List Value} (h : v.ownsRow B e size x n xs) {p : Addr} (hn : ∀ k, x.ownBlock = some k → k ≠ p.block) (u : Value) : (v.setCell p u).ownsRow B e size x n xs :=
  own_keep h fun k hk => Below.heap_setCell v p u k (hn k hk)
theorem own_below {B : Nat} {e : TypeId} {size n : Nat} {x : Value} {xs : List Value} (h : v.ownsRow B e size x n xs) (hb : Below v.heap.size v w) : w.ownsRow B e size x n xs :=
  own_keep h fun k hk => hb.block k (h.lt k hk).2
theorem own_type {B : Nat} {e t : TypeId} {size n g : Nat} {x : Value} {xs : List Value} {cs : Array Value} (h : v.ownsRow B e size x n xs) (hb : Bk v g t cs) (hne : e ≠ t) : ∀ k, x.ownBlock = some k → k ≠ g := by
  rintro k hk rfl
  rcases h.2 with ⟨rfl, _⟩ | ⟨g', cap, cur, rfl, _, hh, _⟩
  · simp [Value.ownBlock] at hk
  · have : g' = k := by simpa [Value.ownBlock] using hk
    subst this
    unfold Bk at hb
    rw [hh] at hb
    injection hb with hb
    injection hb with _ ht
    exact hne ht
theorem own_mono {B B' : Nat} {e : TypeId} {size n : Nat} {x : Value} {xs : List Value} (h : v.ownsRow B e size x n xs) (hB : B' ≤ B) : v.ownsRow B' e size x n xs := by
  refine ⟨h.1, ?_⟩
  rcases h.2 with h0 | ⟨g, cap, cur, rfl, h1, h3⟩
  · exact .inl h0
  · exact .inr ⟨g, cap, cur, rfl, by omega, h3⟩
end

/-- A row that isn't empty: its first byte, and the others behind it. -/
theorem own_cons {w : World} {B n : Nat} {v : Value} {x : Int} {xs : List Int} (h : w.ownsRow B 5 1 v n (bs (x :: xs))) (hn : n = xs.length + 1) :
    ∃ g cap, v = .slice (some ⟨g, 0, none⟩) n cap ∧ n ≤ cap ∧ B ≤ g ∧ g < w.heap.size ∧ w.cell? ⟨g, 0, none⟩ = some (.int .u8 x) ∧
      ∀ j u, (bs xs)[j]? = some u → w.cell? ((⟨g, 1, none⟩ : Addr).add j) = some u := by
  rcases h.2 with ⟨_, h0⟩ | ⟨g, cap, cur, rfl, hB, hh, hc, hm, hs, ht⟩
  · omega
  · have hcells := h.cells (g := g) rfl
    refine ⟨g, cap, rfl, hc, hB, (Array.getElem?_eq_some_iff.1 hh).1, ?_, fun j u hu => ?_⟩
    · have := hcells 0 (.int .u8 x) rfl
      simpa [Addr.add] using this
    · have := hcells (j + 1) u (by simpa [bs] using hu)
      have e : (⟨g, 1, none⟩ : Addr).add j = (⟨g, 0, none⟩ : Addr).add (j + 1) := by
        unfold Addr.add
        by_cases hj : j = 0
        · subst hj; simp
        · simp [hj]; omega
      rw [e]
      exact this
end Go.Proofs.Ytamjlknfgppofaa
