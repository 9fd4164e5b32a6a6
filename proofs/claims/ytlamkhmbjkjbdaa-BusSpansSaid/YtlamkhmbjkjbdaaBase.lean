/- Words for memory: a block of the call's own that is known whole, and worlds that part from each other in that block and in new blocks alone; and what an access to cells is answered (layer 16). No conditions. -/
import Derived.Test.YtlamkhmbjkjbdaaProg
import Derived.WalkKit
import Derived.WalkLawsBesides
import Derived.WalkSpells
import Derived.Outline
import Derived.KernelRfl
import Derived.BigQuiet
import Derived.Deep.QuietTactic
import Derived.Deep.LoopGhost
import Derived.Deep.DeepFit
import Derived.Lib.Hide
import Derived.OpenShut
import Derived.ProofKit
import Derived.Lib.SmallJoins
import Derived.Deep.Slices
namespace Go.Proofs.Ytlamkhmbjkjbdaa
open Go.RowKit

/-- Block g is just the cells cs, of type t, none frozen. -/
def Bk (w : World) (g : Nat) (t : TypeId) (cs : Array Value) : Prop := w.heap[g]? = some (.cells cs t (0, 0))
/-- Behind w: only block g, and what is new, may be another. -/
def On (g : Nat) (w w' : World) : Prop := w.grownBy w' (some g)
section
variable {w w' : World} {g : Nat} {t : TypeId} {cs : Array Value}
theorem Bk.lt (h : Bk w g t cs) : g < w.heap.size := by
  rcases Nat.lt_or_ge g w.heap.size with hlt | hge
  · exact hlt
  · unfold Bk at h; rw [Array.getElem?_eq_none hge] at h; cases h
theorem Bk.cell (h : Bk w g t cs) (i : Nat) : w.cell? ⟨g, i, none⟩ = cs[i]? := cell_of_row w g i cs t (0, 0) h
theorem Bk.free (h : Bk w g t cs) (i : Nat) : w.frozen? ⟨g, i, none⟩ = false := by unfold Bk at h; simp [World.frozen?, h]
theorem Bk.set (h : Bk w g t cs) (i : Nat) (u : Value) : Bk (w.setCell ⟨g, i, none⟩ u) g t (cs.setIfInBounds i u) := by
  unfold Bk at h ⊢
  simp [World.setCell, Array.getElem?_modify, h]
theorem Bk.new (w : World) (t : TypeId) (cs : Array Value) : Bk (w.alloc (.cells cs t)) w.heap.size t cs := heap_alloc_new w _
theorem Bk.drew (h : Bk w g t cs) : Bk w.drew g t cs := h
theorem Bk.drewN (h : Bk w g t cs) (n : Nat) : Bk (w.drewN n) g t cs := h
theorem Bk.alloc (h : Bk w g t cs) (o : Obj) : Bk (w.alloc o) g t cs := (Below.heap_alloc w o g h.lt).trans h
theorem Bk.below (h : Bk w g t cs) (hb : Below w.heap.size w w') : Bk w' g t cs := (hb.block g h.lt).trans h
theorem Bk.on {g' : Nat} (h : Bk w g t cs) (hb : On g' w w') (hne : g ≠ g') : Bk w' g t cs := (hb.block g h.lt (by simpa using hne)).trans h
theorem On.refl (g : Nat) (w : World) : On g w w := World.grownBy.refl w _
theorem On.set {v : World} (h : On g v w) (i : Nat) (u : Value) : On g v (w.setCell ⟨g, i, none⟩ u) :=
  ⟨h.os, h.tape, h.output, by simpa [World.setCell] using h.size, fun i hi hne => (Below.heap_setCell w _ u i (by rintro rfl; exact hne rfl)).trans (h.block i hi hne)⟩
theorem On.drew {v : World} (h : On g v w) : On g v w.drew := ⟨h.os, h.tape, h.output, h.size, h.block⟩
theorem On.drewN {v : World} (h : On g v w) (n : Nat) : On g v (w.drewN n) := ⟨h.os, h.tape, h.output, h.size, h.block⟩
theorem On.trans {a b c : World} (h : On g a b) (k : On g b c) : On g a c :=
  ⟨k.os.trans h.os, k.tape.trans h.tape, k.output.trans h.output, Nat.le_trans h.size k.size, fun i hi hne => (k.block i (Nat.lt_of_lt_of_le hi h.size) hne).trans (h.block i hi hne)⟩
theorem On.of_below (h : Below w.heap.size w w') (g : Nat) : On g w w' := ⟨h.os, h.tape, h.output, h.size, fun i hi _ => h.block i hi⟩
theorem On.below {v : World} {B : Nat} (hb : Below B v w) (h : On g w w') (hB : B ≤ w.heap.size) (hg : B ≤ g) : Below B v w' :=
  hb.grown h hB (by rintro k ⟨⟩; exact hg)
theorem bw_alloc {v : World} (h : Below v.heap.size v w) (o : Obj) : Below v.heap.size v (w.alloc o) := h.alloc h.size o
theorem bw_drewN {B : Nat} {v : World} (h : Below B v w) (n : Nat) : Below B v (w.drewN n) := ⟨h.os, h.tape, h.output, h.size, h.block⟩
theorem bw_trans {v : World} (h : Below v.heap.size v w) (k : Below w.heap.size w w') : Below v.heap.size v w' :=
  h.trans (k.mono h.size)
theorem On.size {v : World} (h : On g v w) : v.heap.size ≤ w.heap.size := World.grownBy.size h
end

open Go.Deep Go.ChangeShapes Go.WideShapes Go.Joins
/-- The six cells of an Op whose numbers are of their kinds. -/
structure OpIs (cs : List Value) (k o wd x n : Int) (y : Bool) : Prop where
  form : cs = [.int .u8 k, .int .u64 o, .int .i64 wd, .int .u64 x, .int .i64 n, .bool y]
  hk : 0 ≤ k ∧ k ≤ 255
  ho : 0 ≤ o ∧ o ≤ 18446744073709551615
  hw : -9223372036854775808 ≤ wd ∧ wd ≤ 9223372036854775807
  hx : 0 ≤ x ∧ x ≤ 18446744073709551615
  hn : -9223372036854775808 ≤ n ∧ n ≤ 9223372036854775807

section
variable {H : Type} {enc : TypeId × Value → H} {P : Program} {w : World} {base : Nat} {spare : Nat → Bool} {held : Bool}
theorem op_cells {t u8 u64 i64 bo : TypeId} {f0 f1 f2 f3 f4 f5 : Field} (ht : P.underlying t = some (.struct #[f0, f1, f2, f3, f4, f5]))
    (hone : oneCellFields P #[f0, f1, f2, f3, f4, f5] = true) (hC : P.cellsOf t = 6)
    (t0 : f0.type = u8) (t1 : f1.type = u64) (t2 : f2.type = i64) (t3 : f3.type = u64) (t4 : f4.type = i64) (t5 : f5.type = bo)
    (h8 : P.underlying u8 = some (.int .u8)) (hu : P.underlying u64 = some (.int .u64)) (hi : P.underlying i64 = some (.int .i64)) (hb : P.underlying bo = some .bool)
    {fuel : Nat} {cs : List Value} {z : DataW H × List MemPlace} (h : DataW.trod enc P w base spare held fuel t cs = some z) : ∃ k o wd x n y, OpIs cs k o wd x n y := by
  obtain ⟨xs, n, _, _, hlen, hxl, hg⟩ := DataW.trod_struct ht h
  rw [hC] at hlen
  match cs, hlen with
  | [c0, c1, c2, c3, c4, c5], _ =>
    match xs, hxl with
    | [y0, y1, y2, y3, y4, y5], _ =>
      obtain ⟨o0, q0⟩ := hone_of hone 0 f0 rfl
      obtain ⟨o1, q1⟩ := hone_of hone 1 f1 rfl
      obtain ⟨o2, q2⟩ := hone_of hone 2 f2 rfl
      obtain ⟨o3, q3⟩ := hone_of hone 3 f3 rfl
      obtain ⟨o4, q4⟩ := hone_of hone 4 f4 rfl
      obtain ⟨o5, q5⟩ := hone_of hone 5 f5 rfl
      have g0 := hg 0 f0 rfl
      have g1 := hg 1 f1 rfl
      have g2 := hg 2 f2 rfl
      have g3 := hg 3 f3 rfl
      have g4 := hg 4 f4 rfl
      have g5 := hg 5 f5 rfl
      rw [o0, q0, t0] at g0
      rw [o1, q1, t1] at g1
      rw [o2, q2, t2] at g2
      rw [o3, q3, t3] at g3
      rw [o4, q4, t4] at g4
      rw [o5, q5, t5] at g5
      obtain ⟨k, e0, _, w0⟩ := DataW.trod_int h8 g0
      obtain ⟨o, e1, _, w1⟩ := DataW.trod_int hu g1
      obtain ⟨wd, e2, _, w2⟩ := DataW.trod_int hi g2
      obtain ⟨x, e3, _, w3⟩ := DataW.trod_int hu g3
      obtain ⟨m, e4, _, w4⟩ := DataW.trod_int hi g4
      obtain ⟨y, e5, _⟩ := DataW.trod_bool hb g5
      simp at e0 e1 e2 e3 e4 e5
      subst e0 e1 e2 e3 e4 e5
      exact ⟨k, o, wd, x, m, y, rfl, bounds_u8 w0, bounds_u64 w1, bounds_i64 w2, bounds_u64 w3, bounds_i64 w4⟩
end

/-- The slice at A holds n Ops. -/
def Script (w : World) (A : Option Addr) (n : Nat) : Prop :=
  ∀ i, i < n → ∃ (ad : Addr) (k o wd x m : Int) (y : Bool), A = some ad ∧ OpIs [.int .u8 k, .int .u64 o, .int .i64 wd, .int .u64 x, .int .i64 m, .bool y] k o wd x m y ∧
    w.cell? (ad.add (i * 6)) = some (.int .u8 k) ∧ w.cell? ⟨(ad.add (i * 6)).block, (ad.add (i * 6)).off + 1, none⟩ = some (.int .u64 o) ∧
    w.cell? ⟨(ad.add (i * 6)).block, (ad.add (i * 6)).off + 2, none⟩ = some (.int .i64 wd) ∧ w.cell? ⟨(ad.add (i * 6)).block, (ad.add (i * 6)).off + 3, none⟩ = some (.int .u64 x) ∧
    w.cell? ⟨(ad.add (i * 6)).block, (ad.add (i * 6)).off + 4, none⟩ = some (.int .i64 m) ∧ w.cell? ⟨(ad.add (i * 6)).block, (ad.add (i * 6)).off + 5, none⟩ = some (.bool y)
theorem add_pos (a : Addr) (j : Nat) (h : j ≠ 0) : a.add j = ⟨a.block, a.off + j, none⟩ := by unfold Addr.add; rw [if_neg h]
theorem cell_stays {w w1 : World} (h : Below w.heap.size w w1) {a : Addr} {v : Value} (hc : w.cell? a = some v) : w1.cell? a = some v := (h.cell (World.block_lt_of_cell? w a hc)).trans hc
theorem Script.stays {w w1 : World} {A : Option Addr} {n : Nat} (h : Script w A n) (hb : Below w.heap.size w w1) : Script w1 A n := by
  intro i hi
  obtain ⟨ad, k, o, wd, x, m, y, hA, hop, c0, c1, c2, c3, c4, c5⟩ := h i hi
  exact ⟨ad, k, o, wd, x, m, y, hA, hop, cell_stays hb c0, cell_stays hb c1, cell_stays hb c2, cell_stays hb c3, cell_stays hb c4, cell_stays hb c5⟩
section
variable {H : Type} {enc : TypeId × Value → H} {P : Program} {w : World} {base b0 : Nat} {spare : Nat → Bool} {held : Bool}
theorem open_script {r : Reach} {t e : TypeId} {v : Value} {d : DataW H} {p : List MemPlace} (ht : P.underlying t = some (.slice e)) (hC : P.cellsOf e = 6)
    (hop : ∀ (fuel : Nat) (cs : List Value) (z : DataW H × List MemPlace), DataW.trod enc P w base spare held fuel e cs = some z → ∃ k o wd x n y, OpIs cs k o wd x n y)
    (hv : Value.okWide P w r b0 t v) (h : DataW.Trod enc P w base spare held t v d p) :
    ∃ A n c, v = .slice A n c ∧ n ≤ maxLen ∧ Script w A n := by
  obtain ⟨A, n, c, rfl⟩ := okWide_slice ht hv
  obtain ⟨fuel, hf⟩ := h
  refine ⟨A, n, c, rfl, ?_⟩
  rcases open_slice ht hf with ⟨hcs, _⟩ | ⟨a, len, cap, m, f, D, Pl, hcs, _, hl, hm, hmm, _, hi⟩
  · simp [Value.cells] at hcs
    obtain ⟨rfl, rfl, rfl⟩ := hcs
    exact ⟨by simp [maxLen], fun i hi => absurd hi (by omega)⟩
  · simp [Value.cells] at hcs
    obtain ⟨rfl, rfl, rfl⟩ := hcs
    refine ⟨by omega, fun i hlt => ?_⟩
    have him : i < m := by rw [hmm]; split <;> omega
    obtain ⟨cs', hc, ht'⟩ := hi i him
    rw [hC] at hc
    obtain ⟨k, o, wd, x, q, y, hop'⟩ := hop _ _ _ ht'
    obtain ⟨_, hcl, hat⟩ := World.cells?_some hc
    have e := hop'.form
    subst e
    have g : ∀ j, j < 6 → j ≠ 0 → w.cell? ⟨(a.add (i * 6)).block, (a.add (i * 6)).off + j, none⟩ = [Value.int .u8 k, .int .u64 o, .int .i64 wd, .int .u64 x, .int .i64 q, .bool y][j]? := fun j hj h0 => by
      rw [← add_pos _ j h0]
      exact hat j hj
    exact ⟨a, k, o, wd, x, q, y, rfl, hop', by simpa [Addr.add] using hat 0 (by omega), g 1 (by omega) (by omega), g 2 (by omega) (by omega), g 3 (by omega) (by omega), g 4 (by omega) (by omega), g 5 (by omega) (by omega)⟩
end

/-- A slice of whole numbers that came in. -/
def IsRow (k : IntKind) (w : World) (a : Option Addr) (len cap : Nat) (zs : List Int) : Prop :=
  (a = none ∧ len = 0 ∧ cap = 0 ∧ zs = []) ∨
  ∃ x, a = some x ∧ len ≤ cap ∧ cap ≤ maxLen ∧ zs.length = cap ∧ (∀ i, i < zs.length → w.cell? (x.add i) = some (.int k (zs.getD i 0))) ∧ ∀ n ∈ zs, (Lit.int k n).wf = true
theorem IsRow.bound {k : IntKind} {w : World} {a : Option Addr} {len cap : Nat} {zs : List Int} (h : IsRow k w a len cap zs) : len ≤ cap ∧ cap ≤ maxLen ∧ zs.length = cap := by
  rcases h with ⟨_, rfl, rfl, rfl⟩ | ⟨x, _, h1, h2, h3, _⟩
  · exact ⟨Nat.le_refl _, by simp [maxLen], rfl⟩
  · exact ⟨h1, h2, h3⟩
theorem IsRow.at_ {k : IntKind} {w : World} {a : Option Addr} {len cap : Nat} {zs : List Int} (h : IsRow k w a len cap zs) {i : Nat} (hi : i < len) :
    ∃ x, a = some x ∧ w.cell? (x.add i) = some (.int k (zs.getD i 0)) ∧ (Lit.int k (zs.getD i 0)).wf = true := by
  rcases h with ⟨_, rfl, _, _⟩ | ⟨x, ha, h1, _, h3, h4, h5⟩
  · omega
  · have hz : i < zs.length := by omega
    refine ⟨x, ha, h4 i hz, ?_⟩
    rw [List.getD_eq_getElem?_getD, List.getElem?_eq_getElem hz]
    exact h5 _ (List.getElem_mem hz)
theorem IsRow.stays {k : IntKind} {w w1 : World} {a : Option Addr} {len cap : Nat} {zs : List Int} (h : IsRow k w a len cap zs) (hb : Below w.heap.size w w1) : IsRow k w1 a len cap zs := by
  rcases h with h | ⟨x, ha, h1, h2, h3, h4, h5⟩
  · exact .inl h
  · exact .inr ⟨x, ha, h1, h2, h3, fun i hi => cell_stays hb (h4 i hi), h5⟩
end Go.Proofs.Ytlamkhmbjkjbdaa
