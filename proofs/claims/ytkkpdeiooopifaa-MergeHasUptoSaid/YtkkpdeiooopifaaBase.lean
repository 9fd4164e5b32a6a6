/- Words for memory: a block of the call's own that is known whole, and worlds that part from each other in that block and in new blocks alone. No conditions. -/
import Derived.Test.YtkkpdeiooopifaaProg
import Derived.WalkKit
import Derived.WalkLawsBesides
import Derived.WalkSpells
import Derived.Outline
import Derived.KernelRfl
import Derived.BigQuiet
import Derived.Deep.QuietTactic
import Derived.Deep.LoopGhost
import Derived.Deep.DeepFit
import Derived.Lib.Hide
import Derived.OpenShut
import Derived.ProofKit
import Derived.Lib.SmallJoins
import Derived.Deep.Slices
import Derived.Deep.RegionWith
import Derived.Shelf.SlSortCmp.QuietGrown
import Derived.Deep.AppendLies
namespace Go.Proofs.Ytkkpdeiooopifaa
open Go.RowKit Go.Sort

/-- Block g is just the cells cs, of type t, none frozen. -/
def Bk (w : World) (g : Nat) (t : TypeId) (cs : Array Value) : Prop := w.heap[g]? = some (.cells cs t (0, 0))
/-- Behind w: only block g, and what is new, may be another. -/
def On (g : Nat) (w w' : World) : Prop := w.grownBy w' (some g)
section
variable {w w' : World} {g : Nat} {t : TypeId} {cs : Array Value}
theorem Bk.lt (h : Bk w g t cs) : g < w.heap.size := by
  rcases Nat.lt_or_ge g w.heap.size with hlt | hge
  · exact hlt
  · unfold Bk at h; rw [Array.getElem?_eq_none hge] at h; cases h
theorem Bk.cell (h : Bk w g t cs) (i : Nat) : w.cell? ⟨g, i, none⟩ = cs[i]? := cell_of_row w g i cs t (0, 0) h
theorem Bk.free (h : Bk w g t cs) (i : Nat) : w.frozen? ⟨g, i, none⟩ = false := by unfold Bk at h; simp [World.frozen?, h]
theorem Bk.set (h : Bk w g t cs) (i : Nat) (u : Value) : Bk (w.setCell ⟨g, i, none⟩ u) g t (cs.setIfInBounds i u) := by
  unfold Bk at h ⊢
  simp [World.setCell, Array.getElem?_modify, h]
theorem Bk.new (w : World) (t : TypeId) (cs : Array Value) : Bk (w.alloc (.cells cs t)) w.heap.size t cs := heap_alloc_new w _
theorem Bk.drew (h : Bk w g t cs) : Bk w.drew g t cs := h
theorem Bk.drewN (h : Bk w g t cs) (n : Nat) : Bk (w.drewN n) g t cs := h
theorem Bk.alloc (h : Bk w g t cs) (o : Obj) : Bk (w.alloc o) g t cs := (Below.heap_alloc w o g h.lt).trans h
theorem Bk.below (h : Bk w g t cs) (hb : Below w.heap.size w w') : Bk w' g t cs := (hb.block g h.lt).trans h
theorem Bk.on {g' : Nat} (h : Bk w g t cs) (hb : On g' w w') (hne : g ≠ g') : Bk w' g t cs := (hb.block g h.lt (by simpa using hne)).trans h
theorem On.refl (g : Nat) (w : World) : On g w w := World.grownBy.refl w _
theorem On.set {v : World} (h : On g v w) (i : Nat) (u : Value) : On g v (w.setCell ⟨g, i, none⟩ u) :=
  ⟨h.os, h.tape, h.output, by simpa [World.setCell] using h.size, fun i hi hne => (Below.heap_setCell w _ u i (by rintro rfl; exact hne rfl)).trans (h.block i hi hne)⟩
theorem On.drew {v : World} (h : On g v w) : On g v w.drew := ⟨h.os, h.tape, h.output, h.size, h.block⟩
theorem On.drewN {v : World} (h : On g v w) (n : Nat) : On g v (w.drewN n) := ⟨h.os, h.tape, h.output, h.size, h.block⟩
theorem On.trans {a b c : World} (h : On g a b) (k : On g b c) : On g a c :=
  ⟨k.os.trans h.os, k.tape.trans h.tape, k.output.trans h.output, Nat.le_trans h.size k.size, fun i hi hne => (k.block i (Nat.lt_of_lt_of_le hi h.size) hne).trans (h.block i hi hne)⟩
theorem On.of_below (h : Below w.heap.size w w') (g : Nat) : On g w w' := ⟨h.os, h.tape, h.output, h.size, fun i hi _ => h.block i hi⟩
theorem On.below {v : World} {B : Nat} (hb : Below B v w) (h : On g w w') (hB : B ≤ w.heap.size) (hg : B ≤ g) : Below B v w' :=
  hb.grown h hB (by rintro k ⟨⟩; exact hg)
theorem bw_alloc {v : World} (h : Below v.heap.size v w) (o : Obj) : Below v.heap.size v (w.alloc o) := h.alloc h.size o
theorem bw_drewN {B : Nat} {v : World} (h : Below B v w) (n : Nat) : Below B v (w.drewN n) := ⟨h.os, h.tape, h.output, h.size, h.block⟩
theorem bw_trans {v : World} (h : Below v.heap.size v w) (k : Below w.heap.size w w') : Below v.heap.size v w' :=
  h.trans (k.mono h.size)
theorem On.size {v : World} (h : On g v w) : v.heap.size ≤ w.heap.size := World.grownBy.size h
end
set_option linter.unusedVariables false
theorem add_pos (a : Addr) (j : Nat) (h : j ≠ 0) : a.add j = ⟨a.block, a.off + j, none⟩ := by unfold Addr.add; rw [if_neg h]
theorem cell_stays {w w1 : World} (h : Below w.heap.size w w1) {a : Addr} {v : Value} (hc : w.cell? a = some v) : w1.cell? a = some v := (h.cell (World.block_lt_of_cell? w a hc)).trans hc
def Gr (w w' : World) : Prop := ∃ q os, w' = grow (w.drewN q) os
theorem Gr.refl (w : World) : Gr w w := ⟨0, #[], by simp [grow_empty]; rfl⟩
theorem Gr.alloc {v w : World} (h : Gr v w) (o : Obj) : Gr v (w.alloc o) := by
  obtain ⟨q, os, rfl⟩ := h
  exact ⟨q, os ++ #[o], by rw [alloc_eq_grow, grow_grow]⟩
theorem Gr.drewN {v w : World} (h : Gr v w) (n : Nat) : Gr v (w.drewN n) := by
  obtain ⟨q, os, rfl⟩ := h
  exact ⟨q + n, os, by rw [← World.drewN_drewN]; rfl⟩
theorem Gr.drew {v w : World} (h : Gr v w) : Gr v w.drew := h.drewN 1
theorem Gr.trans {u v w : World} (h : Gr u v) (k : Gr v w) : Gr u w := by
  obtain ⟨q, os, rfl⟩ := h
  obtain ⟨r, os', rfl⟩ := k
  exact ⟨q + r, os ++ os', by rw [← grow_grow, ← World.drewN_drewN]; rfl⟩
theorem Gr.below {v w : World} (h : Gr v w) : Below v.heap.size v w := by
  obtain ⟨q, os, rfl⟩ := h
  exact ⟨rfl, rfl, rfl, by rw [size_grow]; exact Nat.le_add_right _ _, fun i hi => heap_grow_old _ _ hi⟩
/-- Which is the first of which p holds; -1: none. -/
def idx {α : Type} (p : α → Bool) : List α → Int
  | [] => -1
  | x :: xs => if p x then 0 else if idx p xs < 0 then -1 else idx p xs + 1
theorem idx_bounds {α : Type} (p : α → Bool) (l : List α) : -1 ≤ idx p l ∧ idx p l < l.length := by
  induction l with
  | nil => simp [idx]
  | cons x xs ih =>
    unfold idx
    simp only [List.length_cons]
    split
    · omega
    · split <;> omega
theorem idx_hit {α : Type} (p : α → Bool) (l : List α) (k : Nat) (hk : k < l.length) (h1 : p l[k] = true) (h0 : ∀ j (h : j < k), p (l[j]'(by omega)) = false) : idx p l = k := by
  induction l generalizing k with
  | nil => simp at hk
  | cons x xs ih =>
    cases k with
    | zero => simp at h1; simp [idx, h1]
    | succ k =>
      have hx : p x = false := h0 0 (by omega)
      have := ih k (by simpa using hk) (by simpa using h1) (fun j hj => by simpa using h0 (j + 1) (by omega))
      unfold idx
      rw [if_neg (by simp [hx]), this, if_neg (by omega)]
      simp
theorem idx_miss {α : Type} (p : α → Bool) (l : List α) (h0 : ∀ j (h : j < l.length), p l[j] = false) : idx p l = -1 := by
  induction l with
  | nil => rfl
  | cons x xs ih =>
    have hx : p x = false := h0 0 (by simp)
    have := ih (fun j hj => h0 (j + 1) (by simpa using hj))
    unfold idx
    rw [if_neg (by simp [hx]), this, if_pos (by omega)]
end Go.Proofs.Ytkkpdeiooopifaa
