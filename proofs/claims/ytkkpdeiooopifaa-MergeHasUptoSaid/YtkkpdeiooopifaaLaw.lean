/- The plain law of merging nodes: a node laid over another one, twice, and what is there then (layer 10). No conditions, no program. -/
import Derived.Test.YtkkpdeiooopifaaBase
namespace Go.Proofs.Ytkkpdeiooopifaa
set_option linter.unusedVariables false
/-- A node: its name, its properties, and the nodes below. -/
inductive Nd where
  | mk (name : ByteArray) (props : List (ByteArray × ByteArray)) (kids : List Nd)
def Nd.name : Nd → ByteArray | .mk n _ _ => n
def Nd.props : Nd → List (ByteArray × ByteArray) | .mk _ p _ => p
def Nd.kids : Nd → List Nd | .mk _ _ k => k
theorem Nd.eta (n : Nd) : Nd.mk n.name n.props n.kids = n := by cases n; rfl
section
variable {α : Type} (key : α → ByteArray) (f : α → α → α)
/-- The place of a name. -/
def at_ (s : ByteArray) (l : List α) : Int := idx (fun y => decide (key y = s)) l
/-- One laid over the one of its name, or put behind all. -/
def upk : List α → α → List α
  | [], x => [x]
  | y :: l, x => if key y = key x then f y x :: l else y :: upk l x
theorem upk_miss (l : List α) (x : α) (h : at_ key (key x) l < 0) : upk key f l x = l ++ [x] := by
  induction l with
  | nil => rfl
  | cons y l ih =>
    unfold at_ idx at h
    by_cases hy : key y = key x
    · simp [hy] at h
    · simp only [hy, decide_false, Bool.false_eq_true, if_false] at h
      unfold upk
      rw [if_neg hy, ih]
      · rfl
      · unfold at_
        by_cases hn : idx (fun y => decide (key y = key x)) l < 0
        · exact hn
        · rw [if_neg hn] at h; omega
theorem upk_hit (l : List α) (x : α) (k : Nat) (h : at_ key (key x) l = k) : ∃ y, l[k]? = some y ∧ key y = key x ∧ upk key f l x = l.set k (f y x) := by
  induction l generalizing k with
  | nil => simp [at_, idx] at h
  | cons y l ih =>
    unfold at_ idx at h
    by_cases hy : key y = key x
    · simp [hy] at h
      obtain rfl : k = 0 := by omega
      exact ⟨y, rfl, hy, by unfold upk; rw [if_pos hy]; rfl⟩
    · simp only [hy, decide_false, Bool.false_eq_true, if_false] at h
      by_cases hn : idx (fun y => decide (key y = key x)) l < 0
      · rw [if_pos hn] at h; omega
      · rw [if_neg hn] at h
        obtain ⟨k', rfl⟩ : ∃ k', k = k' + 1 := ⟨k - 1, by omega⟩
        obtain ⟨z, h1, h2, h3⟩ := ih k' (by unfold at_; omega)
        exact ⟨z, by simpa using h1, h2, by unfold upk; rw [if_neg hy, h3]; rfl⟩
variable (hf : ∀ x y, key (f x y) = key x)
/-- The one of a name. -/
def look (s : ByteArray) : List α → Option α
  | [] => none
  | y :: l => if key y = s then some y else look s l
def has (s : ByteArray) (l : List α) : Bool := (look key s l).isSome
theorem look_key {s : ByteArray} {l : List α} {x : α} (h : look key s l = some x) : key x = s ∧ x ∈ l := by
  induction l with
  | nil => cases h
  | cons y l ih =>
    unfold look at h
    split at h
    · rename_i hy; injection h with h; subst h; exact ⟨hy, by simp⟩
    · obtain ⟨a, b⟩ := ih h; exact ⟨a, by simp [b]⟩
theorem look_none {s : ByteArray} {l : List α} (h : look key s l = none) : ∀ x ∈ l, key x ≠ s := by
  induction l with
  | nil => simp
  | cons y l ih =>
    unfold look at h
    split at h
    · cases h
    · rename_i hy
      intro x hx
      rcases List.mem_cons.1 hx with rfl | hx
      · exact hy
      · exact ih h x hx
theorem look_mem {s : ByteArray} {l : List α} {x : α} (hn : (l.map key).Nodup) (hx : x ∈ l) (hk : key x = s) : look key s l = some x := by
  induction l with
  | nil => cases hx
  | cons y l ih =>
    simp only [List.map_cons, List.nodup_cons] at hn
    unfold look
    rcases List.mem_cons.1 hx with rfl | hx
    · rw [if_pos hk]
    · rw [if_neg, ih hn.2 hx]
      intro e
      exact hn.1 (by rw [e, ← hk]; exact List.mem_map_of_mem hx)
/-- What came of all. -/
def mrg (a b : List α) : List α := (a.map fun x => match look key (key x) b with | some k => f x k | none => x) ++ b.filter fun k => !has key (key k) a
theorem mrg_def (a b : List α) : mrg key f a b = (a.map fun x => match look key (key x) b with | some k => f x k | none => x) ++ b.filter fun k => !has key (key k) a := rfl
theorem upk_eq (l : List α) (x : α) (hl : (l.map key).Nodup) : upk key f l x = mrg key f l [x] := by
  induction l with
  | nil => simp [upk, mrg, has, look]
  | cons y l ih =>
    simp only [List.map_cons, List.nodup_cons] at hl
    have ih := ih hl.2
    unfold upk
    by_cases hy : key y = key x
    · rw [if_pos hy]
      have h1 : ∀ z ∈ l, (match look key (key z) [x] with | some k => f z k | none => z) = z := by
        intro z hz
        have : key x ≠ key z := by rw [← hy]; intro e; exact hl.1 (by rw [e]; exact List.mem_map_of_mem hz)
        simp [look, this]
      have h2 : l.map (fun z => match look key (key z) [x] with | some k => f z k | none => z) = l := by
        conv => rhs; rw [← List.map_id l]
        exact List.map_congr_left h1
      simp only [mrg, List.map_cons, h2]
      simp [look, has, hy]
    · rw [if_neg hy, ih]
      have hx : key x ≠ key y := fun e => hy e.symm
      have e1 : has key (key x) (y :: l) = has key (key x) l := by simp [has, look, hy]
      have e2 : look key (key y) [x] = none := by simp [look, hx]
      simp only [mrg, List.map_cons, e2, List.cons_append, List.filter_cons, List.filter_nil, e1]
include hf in
theorem keys_mrg (a b : List α) : (mrg key f a b).map key = a.map key ++ (b.filter fun k => !has key (key k) a).map key := by
  unfold mrg
  rw [List.map_append, List.map_map]
  congr 1
  apply List.map_congr_left
  intro x _
  simp only [Function.comp]
  split
  · exact hf _ _
  · rfl
theorem has_iff {s : ByteArray} {l : List α} : has key s l = true ↔ s ∈ l.map key := by
  unfold has
  constructor
  · intro h
    obtain ⟨x, hx⟩ := Option.isSome_iff_exists.1 h
    obtain ⟨a, b⟩ := look_key key hx
    rw [← a]; exact List.mem_map_of_mem b
  · intro h
    cases hl : look key s l
    · obtain ⟨x, hx, e⟩ := List.mem_map.1 h
      exact absurd e (look_none key hl x hx)
    · rfl
include hf in
theorem nodup_mrg {a b : List α} (ha : (a.map key).Nodup) (hb : (b.map key).Nodup) : ((mrg key f a b).map key).Nodup := by
  rw [keys_mrg key f hf, List.nodup_append]
  refine ⟨ha, ?_, ?_⟩
  · exact List.Nodup.sublist (List.Sublist.map _ List.filter_sublist) hb
  · intro x hx y hy e
    subst e
    obtain ⟨k, hk, rfl⟩ := List.mem_map.1 hy
    have := (List.mem_filter.1 hk).2
    rw [Bool.not_eq_true'] at this
    rw [(has_iff key).2 hx] at this
    cases this
include hf in
theorem fold_mrg (a b : List α) (ha : (a.map key).Nodup) (hb : (b.map key).Nodup) : b.foldl (upk key f) a = mrg key f a b := by
  induction b generalizing a with
  | nil => simp [mrg, look]
  | cons x b ih =>
    simp only [List.map_cons, List.nodup_cons] at hb
    have h1 := upk_eq key f a x ha
    have hn : ((mrg key f a [x]).map key).Nodup := nodup_mrg key f hf ha (by simp)
    rw [List.foldl_cons, h1, ih _ hn hb.2]
    have hxb : ∀ z ∈ b, key z ≠ key x := fun z hz e => hb.1 (by rw [← e]; exact List.mem_map_of_mem hz)
    have hlx : look key (key x) b = none := by
      cases hq : look key (key x) b
      · rfl
      · obtain ⟨e1, e2⟩ := look_key key hq
        exact absurd e1 (hxb _ e2)
    have hk1 : ∀ z, key z ≠ key x → look key (key z) (x :: b) = look key (key z) b := fun z hz => by
      conv => lhs; unfold look
      rw [if_neg (fun e => hz e.symm)]
    have hmap : ∀ y ∈ a, (fun z => match look key (key z) b with | some k => f z k | none => z) ((fun z => match look key (key z) [x] with | some k => f z k | none => z) y) = (match look key (key y) (x :: b) with | some k => f y k | none => y) := by
      intro y hy
      by_cases e : key x = key y
      · have e1 : look key (key y) [x] = some x := by simp [look, e]
        have e2 : look key (key y) (x :: b) = some x := by simp [look, e]
        have e0 : (match look key (key y) [x] with | some k => f y k | none => y) = f y x := by rw [e1]
        simp only [e0, hf, e2]
        rw [← e, hlx]
      · have e1 : look key (key y) [x] = none := by simp [look, e]
        have e0 : (match look key (key y) [x] with | some k => f y k | none => y) = y := by rw [e1]
        simp only [e0]
        rw [hk1 y (fun h => e h.symm)]
    have hhas : ∀ z ∈ b, has key (key z) (mrg key f a [x]) = has key (key z) a := by
      intro z hz
      have hzx := hxb z hz
      rw [Bool.eq_iff_iff, has_iff, has_iff, keys_mrg key f hf, List.mem_append]
      constructor
      · rintro (h | h)
        · exact h
        · obtain ⟨k, hk, e⟩ := List.mem_map.1 h
          have := (List.mem_filter.1 hk).1
          rw [List.mem_singleton] at this
          subst this
          exact absurd e.symm hzx
      · exact .inl
    have hfil : b.filter (fun k => !has key (key k) (mrg key f a [x])) = b.filter (fun k => !has key (key k) a) := List.filter_congr fun z hz => by rw [hhas z hz]
    show (mrg key f a [x]).map _ ++ b.filter _ = _
    rw [hfil]
    have hA : (mrg key f a [x]).map (fun z => match look key (key z) b with | some k => f z k | none => z) = a.map (fun z => match look key (key z) (x :: b) with | some k => f z k | none => z) ++ [x].filter (fun k => !has key (key k) a) := by
      conv => lhs; unfold mrg
      rw [List.map_append, List.map_map]
      congr 1
      · exact List.map_congr_left hmap
      · cases hh : has key (key x) a
        · simp [hh, hlx]
        · simp [hh]
    rw [hA]
    unfold mrg
    rw [List.append_assoc, ← List.filter_append]
    rfl
include hf in
/-- Laid over twice is as once. -/
theorem mrg_twice {a b : List α} (ha : (a.map key).Nodup) (hb : (b.map key).Nodup) (h1 : ∀ x ∈ a, ∀ k ∈ b, f (f x k) k = f x k) (h2 : ∀ k ∈ b, f k k = k) : mrg key f (mrg key f a b) b = mrg key f a b := by
  have hfil : b.filter (fun k => !has key (key k) (mrg key f a b)) = [] := by
    rw [List.filter_eq_nil_iff]
    intro k hk
    rw [Bool.not_eq_true, Bool.not_eq_false', has_iff, keys_mrg key f hf, List.mem_append]
    by_cases h : has key (key k) a = true
    · exact .inl ((has_iff key).1 h)
    · exact .inr (List.mem_map_of_mem (List.mem_filter.2 ⟨hk, by simpa using h⟩))
  rw [mrg_def key f (mrg key f a b), hfil, List.append_nil]
  conv => rhs; rw [← List.map_id (mrg key f a b)]
  apply List.map_congr_left
  intro x hx
  rcases List.mem_append.1 hx with hx | hx
  · obtain ⟨y, hy, rfl⟩ := List.mem_map.1 hx
    cases hl : look key (key y) b with
    | none => simp only [hl, id]
    | some k =>
      simp only [hf, hl, id]
      exact h1 y hy k (look_key key hl).2
  · have hxb := (List.mem_filter.1 hx).1
    rw [look_mem key hb hxb rfl]
    exact h2 x hxb
/-- Laid over itself is itself. -/
theorem mrg_self {a : List α} (ha : (a.map key).Nodup) (h2 : ∀ k ∈ a, f k k = k) : mrg key f a a = a := by
  have hfil : a.filter (fun k => !has key (key k) a) = [] := by
    rw [List.filter_eq_nil_iff]
    intro k hk
    rw [Bool.not_eq_true, Bool.not_eq_false', has_iff]
    exact List.mem_map_of_mem hk
  unfold mrg
  rw [hfil, List.append_nil]
  conv => rhs; rw [← List.map_id a]
  apply List.map_congr_left
  intro x hx
  rw [look_mem key ha hx rfl]
  exact h2 x hx
/-- Is each the first of its name? Just if no name is there twice. -/
theorem uq_nodup (l : List α) : (∀ (i : Nat) x, l[i]? = some x → at_ key (key x) l = (i : Int)) ↔ (l.map key).Nodup := by
  induction l with
  | nil => simp
  | cons y l ih =>
    simp only [List.map_cons, List.nodup_cons]
    rw [← ih]
    constructor
    · intro h
      have hne : ∀ (i : Nat) x, l[i]? = some x → key y ≠ key x := by
        intro i x hx e
        have := h (i + 1) x (by simpa using hx)
        simp [at_, idx, e] at this
        omega
      refine ⟨fun hm => ?_, fun i x hx => ?_⟩
      · obtain ⟨x, hx, e⟩ := List.mem_map.1 hm
        obtain ⟨i, hi⟩ := List.getElem?_of_mem hx
        exact hne i x hi e.symm
      · have := h (i + 1) x (by simpa using hx)
        unfold at_ idx at this
        simp only [hne i x hx, decide_false, Bool.false_eq_true, if_false] at this
        unfold at_
        split at this <;> omega
    · rintro ⟨h1, h2⟩ i x hx
      cases i with
      | zero =>
        simp at hx
        subst hx
        simp [at_, idx]
      | succ i =>
        have hx : l[i]? = some x := by simpa using hx
        have := h2 i x hx
        have hne : key y ≠ key x := fun e => h1 (by rw [e]; exact List.mem_map_of_mem (List.mem_of_getElem? hx))
        unfold at_ idx
        simp only [hne, decide_false, Bool.false_eq_true, if_false]
        unfold at_ at this
        rw [this, if_neg (by omega)]
        omega
theorem at_mem {l : List α} (hn : (l.map key).Nodup) {x : α} (hx : x ∈ l) : ∃ k : Nat, l[k]? = some x ∧ at_ key (key x) l = k := by
  obtain ⟨i, hi⟩ := List.getElem?_of_mem hx
  exact ⟨i, hi, (uq_nodup key l).2 hn i x hi⟩
theorem at_has {l : List α} {s : ByteArray} (h : s ∈ l.map key) : 0 ≤ at_ key s l := by
  induction l with
  | nil => simp at h
  | cons y l ih =>
    unfold at_ idx
    by_cases e : key y = s
    · simp [e]
    · simp only [e, decide_false, Bool.false_eq_true, if_false]
      have := ih (by simp only [List.map_cons, List.mem_cons] at h; rcases h with h | h; exact absurd h.symm e; exact h)
      unfold at_ at this
      rw [if_neg (by omega)]
      omega
/-- Each of b is there in the end, as it was laid over or put behind. -/
theorem mrg_mem {a b : List α} (hb : (b.map key).Nodup) {k : α} (hk : k ∈ b) : (∃ x ∈ a, key x = key k ∧ f x k ∈ mrg key f a b) ∨ k ∈ mrg key f a b := by
  by_cases h : has key (key k) a = true
  · left
    obtain ⟨x, hx, e⟩ := List.mem_map.1 ((has_iff key).1 h)
    refine ⟨x, hx, e, ?_⟩
    unfold mrg
    rw [List.mem_append]
    left
    refine List.mem_map.2 ⟨x, hx, ?_⟩
    rw [look_mem key hb hk e.symm]
  · right
    unfold mrg
    rw [List.mem_append]
    exact .inr (List.mem_filter.2 ⟨hk, by simpa using h⟩)
theorem mrg_all {p : α → Prop} {a b : List α} (ha : ∀ x ∈ a, p x) (hb : ∀ k ∈ b, p k) (hp : ∀ x ∈ a, ∀ k ∈ b, p (f x k)) : ∀ z ∈ mrg key f a b, p z := by
  intro z hz
  unfold mrg at hz
  rcases List.mem_append.1 hz with hz | hz
  · obtain ⟨x, hx, rfl⟩ := List.mem_map.1 hz
    split
    · rename_i k hk
      exact hp x hx k (look_key key hk).2
    · exact ha x hx
  · exact hb z (List.mem_filter.1 hz).1
end
/-- A node laid over another one, d nodes down at the most. -/
def mergeN : Nat → Nd → Nd → Nd
  | 0, a, _ => a
  | d + 1, a, b => .mk a.name (b.props.foldl (upk Prod.fst fun _ p => p) a.props) (b.kids.foldl (upk Nd.name (mergeN d)) a.kids)
theorem mergeN_name (d : Nat) (a b : Nd) : (mergeN d a b).name = a.name := by cases d <;> rfl
/-- Is no name there twice, d nodes down at the most? -/
def uniqN : Nat → Nd → Prop
  | 0, _ => True
  | d + 1, n => (n.props.map Prod.fst).Nodup ∧ (n.kids.map Nd.name).Nodup ∧ ∀ k ∈ n.kids, uniqN d k
/-- upk with one that takes the new one's place is of the same name only where the names are alike: the properties'. -/
def prp : ByteArray × ByteArray → ByteArray × ByteArray → ByteArray × ByteArray := fun x p => (x.1, p.2)
theorem upk_prp (l : List (ByteArray × ByteArray)) (p : ByteArray × ByteArray) : upk Prod.fst (fun _ p => p) l p = upk Prod.fst prp l p := by
  induction l with
  | nil => rfl
  | cons y l ih =>
    unfold upk
    split
    · rename_i h; unfold prp; rw [h]
    · rw [ih]
theorem fold_prp (a b : List (ByteArray × ByteArray)) : b.foldl (upk Prod.fst fun _ p => p) a = b.foldl (upk Prod.fst prp) a := by
  have : upk (α := ByteArray × ByteArray) Prod.fst (fun _ p => p) = upk Prod.fst prp := by funext l p; exact upk_prp l p
  rw [this]
theorem prp_key (x y : ByteArray × ByteArray) : (prp x y).1 = x.1 := rfl
theorem mergeN_mrg {d : Nat} {a b : Nd} (ha : uniqN (d + 1) a) (hb : uniqN (d + 1) b) : mergeN (d + 1) a b = .mk a.name (mrg Prod.fst prp a.props b.props) (mrg Nd.name (mergeN d) a.kids b.kids) := by
  unfold mergeN
  rw [fold_prp, fold_mrg Prod.fst prp prp_key _ _ ha.1 hb.1, fold_mrg Nd.name (mergeN d) (mergeN_name d) _ _ ha.2.1 hb.2.1]
theorem merge_self {d : Nat} {a : Nd} (ha : uniqN d a) : mergeN d a a = a := by
  induction d generalizing a with
  | zero => rfl
  | succ d ih =>
    rw [mergeN_mrg ha ha, mrg_self Prod.fst prp ha.1 (fun _ _ => rfl), mrg_self Nd.name (mergeN d) ha.2.1 (fun k hk => ih (ha.2.2 k hk))]
    exact a.eta
theorem merge_uniq {d : Nat} {a b : Nd} (ha : uniqN d a) (hb : uniqN d b) : uniqN d (mergeN d a b) := by
  induction d generalizing a b with
  | zero => trivial
  | succ d ih =>
    rw [mergeN_mrg ha hb]
    exact ⟨nodup_mrg Prod.fst prp prp_key ha.1 hb.1, nodup_mrg Nd.name (mergeN d) (mergeN_name d) ha.2.1 hb.2.1,
      mrg_all Nd.name (mergeN d) ha.2.2 hb.2.2 fun x hx k hk => ih (ha.2.2 x hx) (hb.2.2 k hk)⟩
/-- Laid over twice is as once. -/
theorem merge_twice {d : Nat} {a b : Nd} (ha : uniqN d a) (hb : uniqN d b) : mergeN d (mergeN d a b) b = mergeN d a b := by
  induction d generalizing a b with
  | zero => rfl
  | succ d ih =>
    have hm := merge_uniq ha hb
    rw [mergeN_mrg hm hb]
    rw [mergeN_mrg ha hb]
    simp only [Nd.name, Nd.props, Nd.kids]
    have e1 := mrg_twice Prod.fst prp prp_key ha.1 hb.1 (fun _ _ _ _ => rfl) (fun _ _ => rfl)
    have e2 := mrg_twice Nd.name (mergeN d) (mergeN_name d) ha.2.1 hb.2.1 (fun x hx k hk => ih (ha.2.2 x hx) (hb.2.2 k hk)) (fun k hk => merge_self (hb.2.2 k hk))
    exact congr (congrArg _ e1) e2
theorem merge_none (d : Nat) (a : Nd) (s : ByteArray) : mergeN d a (.mk s [] []) = a := by
  cases d with
  | zero => rfl
  | succ d => exact a.eta
section
variable {d : Nat} {a b : Nd} (ha : uniqN (d + 1) a) (hb : uniqN (d + 1) b)
include ha hb
theorem has_props (i : Nat) (p : ByteArray × ByteArray) (h : a.props[i]? = some p) : ∃ q, (mergeN (d + 1) a b).props[i]? = some q ∧ q.1 = p.1 := by
  rw [mergeN_mrg ha hb]
  have hk := keys_mrg Prod.fst prp prp_key a.props b.props
  have h2 : ((mrg Prod.fst prp a.props b.props).map Prod.fst)[i]? = some p.1 := by
    have hi : i < a.props.length := (List.getElem?_eq_some_iff.1 h).1
    rw [hk, List.getElem?_append_left (by simpa using hi), List.getElem?_map, h]
    rfl
  rw [List.getElem?_map, Option.map_eq_some_iff] at h2
  exact h2
theorem has_kids (i : Nat) (p : Nd) (h : a.kids[i]? = some p) : ∃ q, (mergeN (d + 1) a b).kids[i]? = some q ∧ q.name = p.name := by
  rw [mergeN_mrg ha hb]
  have hk := keys_mrg Nd.name (mergeN d) (mergeN_name d) a.kids b.kids
  have h2 : ((mrg Nd.name (mergeN d) a.kids b.kids).map Nd.name)[i]? = some p.name := by
    have hi : i < a.kids.length := (List.getElem?_eq_some_iff.1 h).1
    rw [hk, List.getElem?_append_left (by simpa using hi), List.getElem?_map, h]
    rfl
  rw [List.getElem?_map, Option.map_eq_some_iff] at h2
  exact h2
theorem has_theirs (p : ByteArray × ByteArray) (h : p ∈ b.props) : ∃ k : Nat, at_ Prod.fst p.1 (mergeN (d + 1) a b).props = k ∧ (mergeN (d + 1) a b).props[k]? = some p := by
  have hm := (merge_uniq ha hb).1
  rw [mergeN_mrg ha hb] at hm ⊢
  have hin : p ∈ mrg Prod.fst prp a.props b.props := by
    rcases mrg_mem Prod.fst prp hb.1 h (a := a.props) with ⟨x, _, e, h1⟩ | h1
    · have : prp x p = p := by unfold prp; rw [e]
      rwa [this] at h1
    · exact h1
  obtain ⟨k, h1, h2⟩ := at_mem Prod.fst hm hin
  exact ⟨k, h2, h1⟩
theorem has_nodes (k : Nd) (h : k ∈ b.kids) : 0 ≤ at_ Nd.name k.name (mergeN (d + 1) a b).kids := by
  rw [mergeN_mrg ha hb]
  apply at_has
  rcases mrg_mem Nd.name (mergeN d) hb.2.1 h (a := a.kids) with ⟨x, _, e, h1⟩ | h1
  · rw [← e, ← mergeN_name d x k]
    exact List.mem_map_of_mem h1
  · exact List.mem_map_of_mem h1
end
end Go.Proofs.Ytkkpdeiooopifaa
