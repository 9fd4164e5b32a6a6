/- An argument that is a node, opened: a node in memory, of no more than its reading's bulk (layer 10). Conditions: none. -/
import Derived.Test.YtkkpdeiooopifaaSize
import Derived.Test.YtkkpdeiooopifaaMem
import Derived.Test.YtkkpdeiooopifaaRows
import Derived.Laws.BytesArg
import Derived.Deep.Slices
import Derived.Deep.Fields
import Derived.SizedLaws
namespace Go.Proofs.Ytkkpdeiooopifaa
open Go.RowKit Go.Deep Go.ChangeShapes Go.WideShapes Go.Joins
set_option linter.unusedVariables false
def T : Nat → Prop := fun _ => True
theorem bulk_one {H : Type} (d : DataW H) : 1 ≤ Rows.uptoBulk d := by
  cases d with
  | lit l => cases l <;> simp [Rows.uptoBulk]
  | nil => simp [Rows.uptoBulk]
  | ptr d => simp [Rows.uptoBulk]
  | slice elems spare => simp [Rows.uptoBulk]
  | agg parts => simp [Rows.uptoBulk]
  | iface t d => simp [Rows.uptoBulk]
  | map entries => simp [Rows.uptoBulk]
  | held h => simp [Rows.uptoBulk]
theorem bulk_tot {H α : Type} (z : α → Nat) (G : Nat → α) (D : Nat → DataW H) (l : List Nat) (h : ∀ i ∈ l, z (G i) ≤ Rows.uptoBulk (D i)) : tot z (l.map G) ≤ Rows.uptoBulkAll (l.map D) := by
  induction l with
  | nil => simp [tot_nil, Rows.uptoBulkAll]
  | cons x l ih =>
    have := h x (by simp)
    have := ih (fun i hi => h i (by simp [hi]))
    simp only [List.map_cons, tot_cons, Rows.uptoBulkAll]
    omega
theorem bulk_mem {H : Type} (D : Nat → DataW H) (l : List Nat) (i : Nat) (h : i ∈ l) : Rows.uptoBulk (D i) ≤ Rows.uptoBulkAll (l.map D) := by
  induction l with
  | nil => cases h
  | cons x l ih =>
    simp only [List.map_cons, Rows.uptoBulkAll]
    rcases List.mem_cons.1 h with rfl | h
    · omega
    · have := ih h; omega
theorem bulk_len {H : Type} (D : Nat → DataW H) (l : List Nat) : l.length ≤ Rows.uptoBulkAll (l.map D) := by
  induction l with
  | nil => simp
  | cons x l ih =>
    have := bulk_one (D x)
    simp only [List.map_cons, Rows.uptoBulkAll, List.length_cons]
    omega
theorem range_get {α : Type} {n i : Nat} (G : Nat → α) (h : i < n) : ((List.range n).map G)[i]? = some (G i) := by simp [h]
instance : Inhabited Nd := ⟨.mk ⟨#[]⟩ [] []⟩
section
variable {H : Type} {enc : TypeId × Value → H} {w : World} {base : Nat} {spare : Nat → Bool} {held : Bool}
theorem open_by {fuel M : Nat} {v : Value} {z : DataW H × List MemPlace} (hM : Rows.uptoBulk z.1 ≤ M) (h : DataW.trod enc Try.prog w base spare held fuel 30 [v] = some z) :
    ∃ s, ByAt T w M v s ∧ s.size + 1 ≤ Rows.uptoBulk z.1 := by
  rcases open_slice1 Try.underlying30 (by kernel_rfl) h with ⟨hcs, _⟩ | ⟨a, len, cap, m, f, V, D, Pl, hcs, _, hl, hm, hmm, rfl, hi⟩
  · injection hcs with hv
    subst hv
    exact ⟨strOfNums [], ⟨[], SlAt.nil _ _ _, Nat.zero_le _, rfl⟩, by rw [strOfNums_size]; exact bulk_one _⟩
  · injection hcs with hv
    subst hv
    simp only at hM
    have hb : len + 1 ≤ Rows.uptoBulk (DataW.slice ((List.range len).map D) ((List.range (m - len)).map fun j => D (len + j))) := by
      have := bulk_len D (List.range len)
      simp only [Rows.uptoBulk]
      simp at this
      omega
    obtain ⟨G, hG⟩ := choose_lt (α := Int) (n := len) (p := fun i x => w.cell? (a.add i) = some (.int .u8 x)) (fun i hlt => by
      obtain ⟨hc, ht⟩ := hi i (by rw [hmm]; split <;> omega)
      obtain ⟨x, hx, _, _⟩ := DataW.trod_int Try.underlying5 ht
      injection hx with hx
      exact ⟨x, by rw [hc, hx]⟩)
    refine ⟨strOfNums ((List.range len).map G), ⟨(List.range len).map G, ⟨some a, cap, by simp, by simpa using hl, hm, (fun e => by cases e), by simp [bs_len], fun _ => ⟨a, rfl, trivial⟩, fun ad e j u hu => ?_⟩, by simp; omega, rfl⟩, by rw [strOfNums_size]; simpa using hb⟩
    injection e with e
    subst e
    have hj : j < len := by have := (List.getElem?_eq_some_iff.1 hu).1; simpa [bs] using this
    have h2 : (bs ((List.range len).map G))[j]? = some (.int .u8 (G j)) := by simp [bs, hj]
    rw [hu] at h2
    rw [hG j hj, h2]
theorem pr_cells {fuel M : Nat} {cs : List Value} {z : DataW H × List MemPlace} (hM : Rows.uptoBulk z.1 ≤ M) (h : DataW.trod enc Try.prog w base spare held fuel 32 cs = some z) :
    ∃ (p : ByteArray × Value) (q : ByteArray × ByteArray), cs = [.string p.1, p.2] ∧ PrR T w M p q ∧ szP q ≤ Rows.uptoBulk z.1 := by
  have hone : oneCellFields Try.prog #[{ name := "Name", type := 9, offset := 0, embedded := false, tag := "", pkgPath := "", byteOffset := 0 }, { name := "Value", type := 30, offset := 1, embedded := false, tag := "", pkgPath := "", byteOffset := 16 }] = true := by kernel_rfl
  have hC : Try.prog.cellsOf 32 = 2 := by kernel_rfl
  obtain ⟨xs, n, _, rfl, hlen, hxl, hg⟩ := DataW.trod_struct Try.underlying32 h
  rw [hC] at hlen
  match cs, hlen with
  | [c0, c1], _ =>
    match xs, hxl with
    | [y0, y1], _ =>
      obtain ⟨o0, q0⟩ := hone_of hone 0 _ rfl
      obtain ⟨o1, q1⟩ := hone_of hone 1 _ rfl
      have g0 := hg 0 _ rfl
      have g1 := hg 1 _ rfl
      rw [o0, q0] at g0
      rw [o1, q1] at g1
      obtain ⟨s, e0, r0, _⟩ := DataW.trod_string Try.underlying9 g0
      simp at e0
      subst e0 r0
      have hb : Rows.uptoBulk (DataW.agg [DataW.lit (H := H) (.string s.data.toList), y1.1]) = s.size + 1 + Rows.uptoBulk y1.1 + 1 := by
        simp only [Rows.uptoBulk, Rows.uptoBulkAll]
        have : s.data.toList.length = s.size := by rw [Array.length_toList]; rfl
        omega
      simp only [List.map_cons, List.map_nil] at hM ⊢
      rw [hb] at hM ⊢
      obtain ⟨b, hb1, hb2⟩ := open_by (M := M) (by omega) g1
      refine ⟨(s, c1), (s, b), rfl, ⟨rfl, by simp only; omega, hb1⟩, ?_⟩
      unfold szP
      simp only
      omega
theorem open_pr {fuel M : Nat} {v : Value} {z : DataW H × List MemPlace} (hM : Rows.uptoBulk z.1 ≤ M) (h : DataW.trod enc Try.prog w base spare held fuel 22 [v] = some z) :
    ∃ props, PrAt T w M v props ∧ tot szP props + 1 ≤ Rows.uptoBulk z.1 := by
  rcases open_slice Try.underlying22 h with ⟨hcs, _⟩ | ⟨a, len, cap, m, f, D, Pl, hcs, _, hl, hm, hmm, rfl, hi⟩
  · injection hcs with hv
    subst hv
    exact ⟨[], ⟨[], SlAt.nil _ _ _, Nat.zero_le _, Rel.nil _⟩, bulk_one _⟩
  · injection hcs with hv
    subst hv
    simp only at hM
    have hC : Try.prog.cellsOf 32 = 2 := by kernel_rfl
    rw [hC] at hi
    have hbl : ∀ l : List Nat, l = List.range len → Rows.uptoBulkAll (l.map D) + 1 ≤ Rows.uptoBulk (DataW.slice ((List.range len).map D) ((List.range (m - len)).map fun j => D (len + j))) := by
      rintro l rfl
      simp only [Rows.uptoBulk]
      omega
    have hb := hbl _ rfl
    obtain ⟨G, hG⟩ := choose_lt (α := (ByteArray × Value) × (ByteArray × ByteArray)) (n := len) (p := fun i x => w.cell? (a.add (i * 2)) = some (.string x.1.1) ∧ w.cell? (a.add (i * 2 + 1)) = some x.1.2 ∧ PrR T w M x.1 x.2 ∧ szP x.2 ≤ Rows.uptoBulk (D i)) (fun i hlt => by
      obtain ⟨cs', hc, ht'⟩ := hi i (by rw [hmm]; split <;> omega)
      have := bulk_mem D (List.range len) i (by simpa using hlt)
      obtain ⟨p, q, rfl, hr, hz⟩ := pr_cells (M := M) (by simp only; omega) ht'
      obtain ⟨_, hcl, hat⟩ := World.cells?_some hc
      refine ⟨(p, q), ?_, ?_, hr, hz⟩
      · have := hat 0 (by omega); simpa [add_add] using this
      · have := hat 1 (by omega); simpa [add_add] using this)
    refine ⟨(List.range len).map fun i => (G i).2, ⟨(List.range len).map fun i => (G i).1, ⟨some a, cap, by simp, by simpa using hl, hm, (fun e => by cases e), by rw [pcs_len]; simp, fun _ => ⟨a, rfl, trivial⟩, fun ad e j u hu => ?_⟩, ?_, by simp, fun i x y hx hy => ?_⟩, ?_⟩
    · injection e with e
      subst e
      have hj : j < len * 2 := by have := (List.getElem?_eq_some_iff.1 hu).1; rw [pcs_len] at this; simpa using this
      obtain ⟨p0, p1⟩ := pcs_at ((List.range len).map fun i => (G i).1) (j / 2) (G (j / 2)).1 (range_get _ (by omega))
      obtain ⟨g0, g1, _, _⟩ := hG (j / 2) (by omega)
      rcases Nat.mod_two_eq_zero_or_one j with h0 | h0
      · have e : j / 2 * 2 = j := by omega
        rw [e] at p0 g0
        rw [hu] at p0
        rw [g0, p0]
      · have e : j / 2 * 2 + 1 = j := by omega
        rw [e] at p1 g1
        rw [hu] at p1
        rw [g1, p1]
    · have := bulk_len D (List.range len)
      simp at this ⊢
      omega
    · have hi' : i < len := by have := (List.getElem?_eq_some_iff.1 hx).1; simpa using this
      rw [range_get _ hi'] at hx hy
      injection hx with hx
      injection hy with hy
      subst hx hy
      exact (hG i hi').2.2.1
    · have := bulk_tot szP (fun i => (G i).2) D (List.range len) (fun i hi' => (hG i (by simpa using hi')).2.2.2)
      show _ ≤ Rows.uptoBulk (DataW.slice _ _)
      omega
/-- What is said of a node of no more than m. -/
def NdOk (enc : TypeId × Value → H) (w : World) (base : Nat) (spare : Nat → Bool) (held : Bool) (M m : Nat) : Prop := ∀ (fuel : Nat) (cs : List Value) (z : DataW H × List MemPlace), Rows.uptoBulk z.1 ≤ m → DataW.trod enc Try.prog w base spare held fuel 25 cs = some z →
  ∃ (k : ByteArray × Value × Value) (n : Nd), cs = [.string k.1, k.2.1, k.2.2] ∧ k.1 = n.name ∧ n.name.size ≤ M ∧ NdAt T w M m k.2.1 k.2.2 n ∧ szN m n ≤ Rows.uptoBulk z.1
theorem open_ki {fuel M m : Nat} {v : Value} {z : DataW H × List MemPlace} (ih : NdOk enc w base spare held M m) (hm' : Rows.uptoBulk z.1 ≤ m) (hM : m ≤ M) (h : DataW.trod enc Try.prog w base spare held fuel 23 [v] = some z) :
    ∃ kids, KiAt (NdAt T w M m) T w M v kids ∧ tot (szN m) kids + 1 ≤ Rows.uptoBulk z.1 := by
  rcases open_slice Try.underlying23 h with ⟨hcs, _⟩ | ⟨a, len, cap, mm, f, D, Pl, hcs, _, hl, hm, hmm, rfl, hi⟩
  · injection hcs with hv
    subst hv
    exact ⟨[], ⟨[], SlAt.nil _ _ _, Nat.zero_le _, Rel.nil _⟩, bulk_one _⟩
  · injection hcs with hv
    subst hv
    simp only at hm'
    have hC : Try.prog.cellsOf 25 = 3 := by kernel_rfl
    rw [hC] at hi
    have hbl : ∀ l : List Nat, l = List.range len → Rows.uptoBulkAll (l.map D) + 1 ≤ Rows.uptoBulk (DataW.slice ((List.range len).map D) ((List.range (mm - len)).map fun j => D (len + j))) := by
      rintro l rfl
      simp only [Rows.uptoBulk]
      omega
    have hb := hbl _ rfl
    obtain ⟨G, hG⟩ := choose_lt (α := (ByteArray × Value × Value) × Nd) (n := len) (p := fun i x => w.cell? (a.add (i * 3)) = some (.string x.1.1) ∧ w.cell? (a.add (i * 3 + 1)) = some x.1.2.1 ∧ w.cell? (a.add (i * 3 + 2)) = some x.1.2.2 ∧ KiR M (NdAt T w M m) x.1 x.2 ∧ szN m x.2 ≤ Rows.uptoBulk (D i)) (fun i hlt => by
      obtain ⟨cs', hc, ht'⟩ := hi i (by rw [hmm]; split <;> omega)
      have := bulk_mem D (List.range len) i (by simpa using hlt)
      obtain ⟨p, q, rfl, e1, e2, hr, hz⟩ := ih _ _ _ (by simp only; omega) ht'
      obtain ⟨_, hcl, hat⟩ := World.cells?_some hc
      refine ⟨(p, q), ?_, ?_, ?_, ⟨e1, e2, hr⟩, hz⟩
      · have := hat 0 (by omega); simpa [add_add] using this
      · have := hat 1 (by omega); simpa [add_add] using this
      · have := hat 2 (by omega); simpa [add_add] using this)
    refine ⟨(List.range len).map fun i => (G i).2, ⟨(List.range len).map fun i => (G i).1, ⟨some a, cap, by simp, by simpa using hl, hm, (fun e => by cases e), by rw [kcs_len]; simp, fun _ => ⟨a, rfl, trivial⟩, fun ad e j u hu => ?_⟩, ?_, by simp, fun i x y hx hy => ?_⟩, ?_⟩
    · injection e with e
      subst e
      have hj : j < len * 3 := by have := (List.getElem?_eq_some_iff.1 hu).1; rw [kcs_len] at this; simpa using this
      obtain ⟨p0, p1, p2⟩ := kcs_at ((List.range len).map fun i => (G i).1) (j / 3) (G (j / 3)).1 (range_get _ (by omega))
      obtain ⟨g0, g1, g2, _, _⟩ := hG (j / 3) (by omega)
      have h3 : j % 3 = 0 ∨ j % 3 = 1 ∨ j % 3 = 2 := by omega
      rcases h3 with h0 | h0 | h0
      · have e : j / 3 * 3 = j := by omega
        rw [e] at p0 g0
        rw [hu] at p0
        rw [g0, p0]
      · have e : j / 3 * 3 + 1 = j := by omega
        rw [e] at p1 g1
        rw [hu] at p1
        rw [g1, p1]
      · have e : j / 3 * 3 + 2 = j := by omega
        rw [e] at p2 g2
        rw [hu] at p2
        rw [g2, p2]
    · have := bulk_len D (List.range len)
      simp at this ⊢
      omega
    · have hi' : i < len := by have := (List.getElem?_eq_some_iff.1 hx).1; simpa using this
      rw [range_get _ hi'] at hx hy
      injection hx with hx
      injection hy with hy
      subst hx hy
      exact (hG i hi').2.2.2.1
    · have := bulk_tot (szN m) (fun i => (G i).2) D (List.range len) (fun i hi' => (hG i (by simpa using hi')).2.2.2.2)
      show _ ≤ Rows.uptoBulk (DataW.slice _ _)
      omega
theorem open_nd (M m : Nat) (hM : m ≤ M) : NdOk enc w base spare held M m := by
  induction m with
  | zero =>
    intro fuel cs z hz
    have := bulk_one z.1
    omega
  | succ m ih =>
    intro fuel cs z hz h
    have ih := ih (by omega)
    have hone : oneCellFields Try.prog #[{ name := "Name", type := 9, offset := 0, embedded := false, tag := "", pkgPath := "", byteOffset := 0 }, { name := "Props", type := 22, offset := 1, embedded := false, tag := "", pkgPath := "", byteOffset := 16 }, { name := "Kids", type := 23, offset := 2, embedded := false, tag := "", pkgPath := "", byteOffset := 40 }] = true := by kernel_rfl
    have hC : Try.prog.cellsOf 25 = 3 := by kernel_rfl
    obtain ⟨xs, n, _, rfl, hlen, hxl, hg⟩ := DataW.trod_struct Try.underlying25 h
    rw [hC] at hlen
    match cs, hlen with
    | [c0, c1, c2], _ =>
      match xs, hxl with
      | [y0, y1, y2], _ =>
        obtain ⟨o0, q0⟩ := hone_of hone 0 _ rfl
        obtain ⟨o1, q1⟩ := hone_of hone 1 _ rfl
        obtain ⟨o2, q2⟩ := hone_of hone 2 _ rfl
        have g0 := hg 0 _ rfl
        have g1 := hg 1 _ rfl
        have g2 := hg 2 _ rfl
        rw [o0, q0] at g0
        rw [o1, q1] at g1
        rw [o2, q2] at g2
        obtain ⟨s, e0, r0, _⟩ := DataW.trod_string Try.underlying9 g0
        simp at e0
        subst e0 r0
        have hb : Rows.uptoBulk (DataW.agg [DataW.lit (H := H) (.string s.data.toList), y1.1, y2.1]) = s.size + 1 + Rows.uptoBulk y1.1 + Rows.uptoBulk y2.1 + 1 := by
          simp only [Rows.uptoBulk, Rows.uptoBulkAll]
          have : s.data.toList.length = s.size := by rw [Array.length_toList]; rfl
          omega
        simp only [List.map_cons, List.map_nil] at hz ⊢
        rw [hb] at hz ⊢
        obtain ⟨props, hp1, hp2⟩ := open_pr (M := M) (by omega) g1
        obtain ⟨kids, hk1, hk2⟩ := open_ki ih (by omega) (by omega) g2
        refine ⟨(s, c1, c2), .mk s props kids, rfl, rfl, by simp only [Nd.name]; omega, ⟨hp1, hk1⟩, ?_⟩
        simp only [szN, Nd.name, Nd.props, Nd.kids]
        omega
end
end Go.Proofs.Ytkkpdeiooopifaa
