/- An argument that is buses, opened: a list of lists of entries in memory, of bounded lengths (layer 21). Conditions: none. -/
import Derived.Test.YtlamkhmbjkjbdaaFab
import Derived.Deep.Slices
import Derived.SizedLaws
namespace Go.Proofs.Ytlamkhmbjkjbdaa
open Go.RowKit Go.Deep Go.ChangeShapes Go.WideShapes Go.Joins
set_option linter.unusedVariables false
instance : Inhabited En := ⟨⟨0, 0, false, 0, 0⟩⟩
section
variable {H : Type} {enc : TypeId × Value → H} {w : World} {base : Nat} {spare : Nat → Bool} {held : Bool}
theorem en_cells {fuel : Nat} {cs : List Value} {z : DataW H × List MemPlace} (h : DataW.trod enc Try.prog w base spare held fuel 54 cs = some z) :
    ∃ e : En, e.Ok ∧ cs = [.int .u64 e.a, .int .u64 e.s, .bool e.y, .int .i64 e.d, .int .u64 e.b] := by
  have hone : oneCellFields Try.prog #[{ name := "At", type := 23, offset := 0, embedded := false, tag := "", pkgPath := "", byteOffset := 0 }, { name := "Size", type := 23, offset := 1, embedded := false, tag := "", pkgPath := "", byteOffset := 8 }, { name := "Bridge", type := 4, offset := 2, embedded := false, tag := "", pkgPath := "", byteOffset := 16 }, { name := "To", type := 3, offset := 3, embedded := false, tag := "", pkgPath := "", byteOffset := 24 }, { name := "Below", type := 23, offset := 4, embedded := false, tag := "", pkgPath := "", byteOffset := 32 }] = true := by kernel_rfl
  have hC : Try.prog.cellsOf 54 = 5 := by kernel_rfl
  obtain ⟨xs, n, _, _, hlen, hxl, hg⟩ := DataW.trod_struct Try.underlying54 h
  rw [hC] at hlen
  match cs, hlen with
  | [c0, c1, c2, c3, c4], _ =>
    match xs, hxl with
    | [y0, y1, y2, y3, y4], _ =>
      obtain ⟨o0, q0⟩ := hone_of hone 0 _ rfl
      obtain ⟨o1, q1⟩ := hone_of hone 1 _ rfl
      obtain ⟨o2, q2⟩ := hone_of hone 2 _ rfl
      obtain ⟨o3, q3⟩ := hone_of hone 3 _ rfl
      obtain ⟨o4, q4⟩ := hone_of hone 4 _ rfl
      have g0 := hg 0 _ rfl
      have g1 := hg 1 _ rfl
      have g2 := hg 2 _ rfl
      have g3 := hg 3 _ rfl
      have g4 := hg 4 _ rfl
      rw [o0, q0] at g0
      rw [o1, q1] at g1
      rw [o2, q2] at g2
      rw [o3, q3] at g3
      rw [o4, q4] at g4
      obtain ⟨a, e0, _, w0⟩ := DataW.trod_int Try.underlying23 g0
      obtain ⟨s, e1, _, w1⟩ := DataW.trod_int Try.underlying23 g1
      obtain ⟨y, e2, _⟩ := DataW.trod_bool Try.underlying4 g2
      obtain ⟨d, e3, _, w3⟩ := DataW.trod_int Try.underlying3 g3
      obtain ⟨b, e4, _, w4⟩ := DataW.trod_int Try.underlying23 g4
      simp at e0 e1 e2 e3 e4
      subst e0 e1 e2 e3 e4
      have v0 := bounds_u64 w0
      have v1 := bounds_u64 w1
      have v3 := bounds_i64 w3
      have v4 := bounds_u64 w4
      exact ⟨⟨a, s, y, d, b⟩, ⟨⟨v0.1, Int.lt_of_le_of_lt v0.2 (by omega)⟩, ⟨v1.1, Int.lt_of_le_of_lt v1.2 (by omega)⟩, v3, ⟨v4.1, Int.lt_of_le_of_lt v4.2 (by omega)⟩⟩, rfl⟩
theorem weights_all {t : TypeId} {l : List (DataW H)} {d : DataW H} (h : d ∈ l) {n : Nat} (hn : n ∈ d.weights Try.prog t) : n ∈ DataW.weightsAll Try.prog t l := by
  induction l with
  | nil => cases h
  | cons x xs ih =>
    simp only [DataW.weightsAll, List.mem_append]
    rcases List.mem_cons.1 h with rfl | h
    · exact .inl hn
    · exact .inr (ih h)
theorem open_row {fuel : Nat} {v : Value} {z : DataW H × List MemPlace} (hs : ∀ n ∈ z.1.weights Try.prog 44, n ≤ reachBytes) (h : DataW.trod enc Try.prog w base spare held fuel 44 [v] = some z) :
    ∃ B n c es, v = .slice B n c ∧ es.length = n ∧ n ≤ c ∧ c ≤ maxLen ∧ n ≤ 140737488355328 ∧ Ents w B es := by
  rcases open_slice Try.underlying44 h with ⟨hcs, _⟩ | ⟨a, len, cap, m, f, D, Pl, hcs, _, hl, hm, hmm, rfl, hi⟩
  · injection hcs with hv
    subst hv
    exact ⟨none, 0, 0, [], rfl, rfl, Nat.le_refl _, by simp [maxLen], by omega, fun i hi => absurd hi (Nat.not_lt_zero _)⟩
  · injection hcs with hv
    subst hv
    have hC : Try.prog.cellsOf 54 = 5 := by kernel_rfl
    have hB : Try.prog.bytesOf 54 = 40 := by kernel_rfl
    rw [hC] at hi
    have hlen : len ≤ 140737488355328 := by
      have := hs ((len + (m - len)) * Try.prog.bytesOf 54) (by simp [DataW.weights, Try.underlying44])
      rw [hB] at this
      unfold reachBytes at this
      omega
    obtain ⟨G, hG⟩ := choose_lt (α := En) (n := len) (p := fun i e => e.Ok ∧ EnAt w (a.add (i * 5)) e) (fun i hlt => by
      obtain ⟨cs', hc, ht'⟩ := hi i (by rw [hmm]; split <;> omega)
      obtain ⟨e, hok, rfl⟩ := en_cells ht'
      obtain ⟨_, hcl, hat⟩ := World.cells?_some hc
      refine ⟨e, hok, ?_⟩
      have g : ∀ j, j < 5 → j ≠ 0 → w.cell? ⟨(a.add (i * 5)).block, (a.add (i * 5)).off + j, none⟩ = [Value.int .u64 e.a, .int .u64 e.s, .bool e.y, .int .i64 e.d, .int .u64 e.b][j]? := fun j hj h0 => by
        rw [← add_pos _ j h0]
        exact hat j hj
      exact ⟨by simpa [Addr.add] using hat 0 (by omega), g 1 (by omega) (by omega), g 2 (by omega) (by omega), g 3 (by omega) (by omega), g 4 (by omega) (by omega)⟩)
    refine ⟨some a, len, cap, (List.range len).map G, rfl, by simp, hl, by omega, hlen, fun i hi => ?_⟩
    have hi' : i < len := by simpa using hi
    obtain ⟨h1, h2⟩ := hG i hi'
    refine ⟨a, rfl, ?_, ?_⟩
    · simpa using h2
    · simpa using h1
instance : Inhabited (List En) := ⟨[]⟩
theorem open_fab {r : Reach} {b0 : Nat} {v : Value} {d : DataW H} {p : List MemPlace} (hv : Value.okWide Try.prog w r b0 22 v) (hs : ∀ n ∈ d.weights Try.prog 22, n ≤ reachBytes) (h : DataW.Trod enc Try.prog w base spare held 22 v d p) :
    ∃ A n c, ∃ F : Fb, v = .slice A n c ∧ F.length = n ∧ F.length ≤ 140737488355328 ∧ (∀ es ∈ F, es.length ≤ 140737488355328) ∧ Fab w A F := by
  obtain ⟨A, n, c, rfl⟩ := okWide_slice Try.underlying22 hv
  obtain ⟨fuel, hf⟩ := h
  rcases open_slice1 Try.underlying22 (by kernel_rfl) hf with ⟨hcs, _⟩ | ⟨a, len, cap, m, f, V, D, Pl, hcs, _, hl, hm, hmm, hx, hi⟩
  · simp [Value.cells] at hcs
    obtain ⟨rfl, rfl, rfl⟩ := hcs
    exact ⟨none, 0, 0, [], rfl, rfl, by simp, by simp, fun i hi => absurd hi (Nat.not_lt_zero _)⟩
  · simp [Value.cells] at hcs
    obtain ⟨rfl, rfl, rfl⟩ := hcs
    simp only [Prod.mk.injEq] at hx
    obtain ⟨rfl, rfl⟩ := hx
    have hB : Try.prog.bytesOf 44 = 24 := by kernel_rfl
    have hlen : n ≤ 140737488355328 := by
      have := hs ((n + (m - n)) * Try.prog.bytesOf 44) (by simp [DataW.weights, Try.underlying22])
      rw [hB] at this
      unfold reachBytes at this
      omega
    obtain ⟨G, hG⟩ := choose_lt (α := List En) (n := n) (p := fun i es => ∃ B d, V i = .slice B es.length d ∧ es.length ≤ d ∧ d ≤ maxLen ∧ es.length ≤ 140737488355328 ∧ Ents w B es) (fun i hlt => by
      obtain ⟨hc, ht⟩ := hi i (by rw [hmm]; split <;> omega)
      obtain ⟨B, k, d, es, h1, h2, h3, h4, h5, h6⟩ := open_row (fun q hq => hs q (by
        simp only [DataW.weights, Try.underlying22, List.mem_cons, List.mem_append]
        exact .inr (.inl (weights_all (List.mem_map.2 ⟨i, by simpa using hlt, rfl⟩) hq)))) ht
      subst h2
      exact ⟨es, B, d, h1, h3, h4, h5, h6⟩)
    refine ⟨some a, n, c, (List.range n).map G, rfl, by simp, by simpa using hlen, ?_, ?_⟩
    · intro es hes
      obtain ⟨i, hi', rfl⟩ := List.mem_map.1 hes
      obtain ⟨_, _, _, _, _, h5, _⟩ := hG i (by simpa using hi')
      exact h5
    · intro i hi'
      have hi2 : i < n := by simpa using hi'
      obtain ⟨B, d, h1, h3, h4, h5, h6⟩ := hG i hi2
      obtain ⟨hc, _⟩ := hi i (by rw [hmm]; split <;> omega)
      refine ⟨a, B, d, rfl, ?_, ?_, h4, ?_⟩
      · rw [hc, h1]; simp
      · simpa using h3
      · simpa using h6
end
end Go.Proofs.Ytlamkhmbjkjbdaa
