/- How much a node is of, and that merging adds no more than both are of (layer 10). No conditions, no program. -/
import Derived.Test.YtkkpdeiooopifaaLaw
namespace Go.Proofs.Ytkkpdeiooopifaa
set_option linter.unusedVariables false
/-- The sum of all of a list. -/
def tot {α : Type} (z : α → Nat) (l : List α) : Nat := (l.map z).sum
section
variable {α : Type} (key : α → ByteArray) (f : α → α → α) (z : α → Nat)
theorem tot_nil : tot z [] = 0 := rfl
theorem tot_cons (x : α) (l : List α) : tot z (x :: l) = z x + tot z l := by simp [tot]
theorem tot_app (l m : List α) : tot z (l ++ m) = tot z l + tot z m := by simp [tot]
theorem tot_mem {l : List α} {x : α} (h : x ∈ l) : z x ≤ tot z l := by
  induction l with
  | nil => cases h
  | cons y l ih =>
    rw [tot_cons]
    rcases List.mem_cons.1 h with rfl | h
    · omega
    · have := ih h; omega
theorem tot_len (hz : ∀ x, 1 ≤ z x) (l : List α) : l.length ≤ tot z l := by
  induction l with
  | nil => simp
  | cons y l ih => rw [tot_cons, List.length_cons]; have := hz y; omega
theorem tot_take (l : List α) (k : Nat) : tot z (l.take k) ≤ tot z l := by
  conv => rhs; rw [← List.take_append_drop k l]
  rw [tot_app]; omega
theorem tot_upk (hf : ∀ y x, z (f y x) ≤ z y + z x) (l : List α) (x : α) : tot z (upk key f l x) ≤ tot z l + z x := by
  induction l with
  | nil => simp [upk, tot_cons, tot_nil]
  | cons y l ih =>
    unfold upk
    split
    · rw [tot_cons, tot_cons]; have := hf y x; omega
    · rw [tot_cons, tot_cons]; omega
theorem tot_fold (hf : ∀ y x, z (f y x) ≤ z y + z x) (a b : List α) : tot z (b.foldl (upk key f) a) ≤ tot z a + tot z b := by
  induction b generalizing a with
  | nil => simp [tot_nil]
  | cons x b ih =>
    rw [List.foldl_cons, tot_cons]
    have := ih (upk key f a x)
    have := tot_upk key f z hf a x
    omega
theorem upk_len (l : List α) (x : α) : l.length ≤ (upk key f l x).length ∧ (upk key f l x).length ≤ l.length + 1 := by
  induction l with
  | nil => simp [upk]
  | cons y l ih =>
    unfold upk
    split
    · simp
    · simp only [List.length_cons]; omega
theorem fold_len (a b : List α) : (b.foldl (upk key f) a).length ≤ a.length + b.length := by
  induction b generalizing a with
  | nil => simp
  | cons x b ih =>
    rw [List.foldl_cons, List.length_cons]
    have := ih (upk key f a x)
    have := (upk_len key f a x).2
    omega
theorem fold_step (a b : List α) (k : Nat) (x : α) (h : b[k]? = some x) : (b.take (k + 1)).foldl (upk key f) a = upk key f ((b.take k).foldl (upk key f) a) x := by
  obtain ⟨hk, e⟩ := List.getElem?_eq_some_iff.1 h
  rw [List.take_succ_eq_append_getElem hk, List.foldl_append, e]
  rfl
end
def szP (p : ByteArray × ByteArray) : Nat := 1 + p.1.size + p.2.size
/-- How much a node is of. -/
def szN : Nat → Nd → Nat
  | 0, _ => 1
  | d + 1, n => 1 + n.name.size + tot szP n.props + tot (szN d) n.kids
theorem szN_pos (d : Nat) (n : Nd) : 1 ≤ szN d n := by cases d <;> simp [szN]; omega
theorem szP_pos (p : ByteArray × ByteArray) : 1 ≤ szP p := by unfold szP; omega
theorem sz_merge (d : Nat) (a b : Nd) : szN d (mergeN d a b) ≤ szN d a + szN d b := by
  induction d generalizing a b with
  | zero => simp [szN]
  | succ d ih =>
    have h1 := tot_fold Nd.name (mergeN d) (szN d) (fun y x => ih y x) a.kids b.kids
    have h2 := tot_fold (α := ByteArray × ByteArray) Prod.fst (fun _ p => p) szP (fun y x => Nat.le_add_left _ _) a.props b.props
    simp only [mergeN, szN, Nd.name, Nd.props, Nd.kids] at h1 h2 ⊢
    omega
/-- What the first k of b's make of a's. -/
def mprops (a b : Nd) (k : Nat) : List (ByteArray × ByteArray) := (b.props.take k).foldl (upk Prod.fst fun _ p => p) a.props
def mkids (d : Nat) (a b : Nd) (k : Nat) : List Nd := (b.kids.take k).foldl (upk Nd.name (mergeN d)) a.kids
theorem mprops_zero (a b : Nd) : mprops a b 0 = a.props := rfl
theorem mkids_zero (d : Nat) (a b : Nd) : mkids d a b 0 = a.kids := rfl
theorem mprops_all (a b : Nd) : mprops a b b.props.length = (b.props.foldl (upk Prod.fst fun _ p => p) a.props) := by unfold mprops; rw [List.take_length]
theorem mkids_all (d : Nat) (a b : Nd) : mkids d a b b.kids.length = (b.kids.foldl (upk Nd.name (mergeN d)) a.kids) := by unfold mkids; rw [List.take_length]
theorem merge_is (d : Nat) (a b : Nd) : mergeN (d + 1) a b = .mk a.name (mprops a b b.props.length) (mkids d a b b.kids.length) := by rw [mprops_all, mkids_all]; rfl
theorem mprops_len (a b : Nd) (k : Nat) : (mprops a b k).length ≤ a.props.length + k := by
  have h1 := fold_len (α := ByteArray × ByteArray) Prod.fst (fun _ p => p) a.props (b.props.take k)
  have : (b.props.take k).length ≤ k := by rw [List.length_take]; omega
  unfold mprops
  omega
theorem mkids_len (d : Nat) (a b : Nd) (k : Nat) : (mkids d a b k).length ≤ a.kids.length + k := by
  have h1 := fold_len Nd.name (mergeN d) a.kids (b.kids.take k)
  have : (b.kids.take k).length ≤ k := by rw [List.length_take]; omega
  unfold mkids
  omega
theorem mprops_step {a b : Nd} {k : Nat} {q : ByteArray × ByteArray} (h : b.props[k]? = some q) : mprops a b (k + 1) = upk Prod.fst (fun _ p => p) (mprops a b k) q := fold_step _ _ _ _ _ _ h
theorem mkids_step {d : Nat} {a b : Nd} {k : Nat} {q : Nd} (h : b.kids[k]? = some q) : mkids d a b (k + 1) = upk Nd.name (mergeN d) (mkids d a b k) q := fold_step _ _ _ _ _ _ h
/-- What is merged below is of no more than both above. -/
theorem sz_below {d : Nat} {a b : Nd} {k : Nat} {y q : Nd} (hq : b.kids[k]? = some q) (hy : y ∈ mkids d a b k) : szN d y + szN d q ≤ szN (d + 1) a + szN (d + 1) b := by
  have h1 := tot_fold Nd.name (mergeN d) (szN d) (fun y x => sz_merge d y x) a.kids (b.kids.take k)
  have h2 := tot_mem (szN d) hy
  have h3 : tot (szN d) (b.kids.take k) + szN d q ≤ tot (szN d) b.kids := by
    obtain ⟨hk, e⟩ := List.getElem?_eq_some_iff.1 hq
    have := tot_take (szN d) b.kids (k + 1)
    rw [List.take_succ_eq_append_getElem hk, tot_app, e, tot_cons, tot_nil] at this
    omega
  unfold mkids at h2
  simp only [szN]
  omega
theorem sz_props (d : Nat) (n : Nd) : n.props.length ≤ szN (d + 1) n := by
  have := tot_len szP szP_pos n.props
  simp only [szN]; omega
theorem sz_kids (d : Nat) (n : Nd) : n.kids.length ≤ szN (d + 1) n := by
  have := tot_len (szN d) (szN_pos d) n.kids
  simp only [szN]; omega
end Go.Proofs.Ytkkpdeiooopifaa
