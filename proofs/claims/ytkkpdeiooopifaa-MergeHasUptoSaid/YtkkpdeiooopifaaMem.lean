/- Nodes in memory: which blocks they lie in, and what keeps them (layer 10). No conditions. -/
import Derived.Test.YtkkpdeiooopifaaLaw
namespace Go.Proofs.Ytkkpdeiooopifaa
open Go.RowKit Go.Sort
set_option linter.unusedVariables false
/-- The blocks of φ are as they were. -/
structure Kp (φ : Nat → Prop) (w w' : World) : Prop where
  size : w.heap.size ≤ w'.heap.size
  block : ∀ k, k < w.heap.size → φ k → w'.heap[k]? = w.heap[k]?
theorem Kp.refl (φ : Nat → Prop) (w : World) : Kp φ w w := ⟨Nat.le_refl _, fun _ _ _ => rfl⟩
theorem Kp.below {w w' : World} (φ : Nat → Prop) (h : Below w.heap.size w w') : Kp φ w w' := ⟨h.size, fun k hk _ => h.block k hk⟩
theorem Kp.grown {w w' : World} {φ : Nat → Prop} {row : Option Nat} (h : w.grownBy w' row) (hn : ∀ k, φ k → some k ≠ row) : Kp φ w w' := ⟨h.size, fun k hk hp => h.block k hk (hn k hp)⟩
theorem Kp.set {φ : Nat → Prop} (w : World) (a : Addr) (v : Value) (hn : ∀ k, φ k → k ≠ a.block) : Kp φ w (w.setCell a v) :=
  ⟨by simp, fun k hk hp => Below.heap_setCell w a v k (hn k hp)⟩
theorem Kp.trans {φ : Nat → Prop} {u v w : World} (h : Kp φ u v) (k : Kp φ v w) : Kp φ u w :=
  ⟨Nat.le_trans h.size k.size, fun i hi hp => (k.block i (Nat.lt_of_lt_of_le hi h.size) hp).trans (h.block i hi hp)⟩
theorem Kp.mono {φ ψ : Nat → Prop} {w w' : World} (h : Kp φ w w') (hp : ∀ k, ψ k → φ k) : Kp ψ w w' := ⟨h.size, fun k hk hq => h.block k hk (hp k hq)⟩
theorem add_block (a : Addr) (j : Nat) : (a.add j).block = a.block := by unfold Addr.add; split <;> rfl
theorem adr (g j : Nat) : (⟨g, 0, none⟩ : Addr).add j = ⟨g, j, none⟩ := by unfold Addr.add; split <;> simp_all
theorem add_0 (a : Addr) : a.add 0 = a := rfl
/-- A slice of n elements of z cells each. -/
def SlAt (φ : Nat → Prop) (w : World) (v : Value) (n z : Nat) (cs : List Value) : Prop :=
  ∃ A c, v = .slice A n c ∧ n ≤ c ∧ c ≤ maxLen ∧ (A = none → c = 0) ∧ cs.length = n * z ∧ (0 < cs.length → ∃ ad, A = some ad ∧ φ ad.block) ∧ ∀ ad, A = some ad → ∀ j u, cs[j]? = some u → w.cell? (ad.add j) = some u
theorem SlAt.keep {φ ψ : Nat → Prop} {w w' : World} {v : Value} {n z : Nat} {cs : List Value} (h : SlAt φ w v n z cs) (hk : Kp φ w w') (hp : ∀ k, k < w.heap.size → φ k → ψ k) : SlAt ψ w' v n z cs := by
  obtain ⟨A, c, rfl, h1, h2, h3, h4, h5, h6⟩ := h
  have hb : ∀ ad, A = some ad → 0 < cs.length → φ ad.block ∧ ad.block < w.heap.size := by
    rintro ad rfl h0
    obtain ⟨ad', e, hp'⟩ := h5 h0
    injection e with e
    subst e
    have := World.block_lt_of_cell? _ _ (h6 ad rfl 0 _ (List.getElem?_eq_getElem h0))
    rw [add_block] at this
    exact ⟨hp', this⟩
  refine ⟨A, c, rfl, h1, h2, h3, h4, fun h0 => ?_, fun ad e j u hu => ?_⟩
  · obtain ⟨ad, e, _⟩ := h5 h0
    obtain ⟨b1, b2⟩ := hb ad e h0
    exact ⟨ad, e, hp _ b2 b1⟩
  · have h0 : 0 < cs.length := by have := (List.getElem?_eq_some_iff.1 hu).1; omega
    obtain ⟨b1, b2⟩ := hb ad e h0
    exact (World.cell?_of_block (by rw [add_block]; exact hk.block _ b2 b1)).trans (h6 ad e j u hu)
theorem SlAt.nil (φ : Nat → Prop) (w : World) (z : Nat) : SlAt φ w (.slice none 0 0) 0 z [] :=
  ⟨none, 0, rfl, Nat.le_refl _, by simp [maxLen], fun _ => rfl, by simp, fun h => absurd h (by simp), fun ad e => by cases e⟩
theorem SlAt.own {φ : Nat → Prop} {w : World} {B : Nat} {t : TypeId} {z : Nat} {v : Value} {n : Nat} {xs : List Value} (h : w.ownsRow B t z v n xs) (hp : ∀ k, v.ownBlock = some k → φ k) : SlAt φ w v n z xs := by
  have hl := h.1
  rcases h.2 with ⟨rfl, rfl⟩ | ⟨g, cap, cur, rfl, hb, hg, h1, h2, h3, h4⟩
  · obtain rfl : xs = [] := List.eq_nil_of_length_eq_zero (by omega)
    exact SlAt.nil _ _ _
  · refine ⟨some ⟨g, 0, none⟩, cap, rfl, h1, h2, fun e => (by cases e), hl, fun _ => ⟨_, rfl, hp g rfl⟩, fun ad e j u hu => ?_⟩
    injection e with e
    subst e
    exact h.cells (g := g) rfl j u hu
/-- Alike in length, and each as the other's. -/
def Rel {α β : Type} (R : α → β → Prop) (l : List α) (m : List β) : Prop := l.length = m.length ∧ ∀ (i : Nat) a b, l[i]? = some a → m[i]? = some b → R a b
theorem Rel.nil {α β : Type} (R : α → β → Prop) : Rel R [] [] := ⟨rfl, fun i a b h => by simp at h⟩
theorem Rel.mono {α β : Type} {R S : α → β → Prop} {l : List α} {m : List β} (h : Rel R l m) (hs : ∀ a b, b ∈ m → R a b → S a b) : Rel S l m := ⟨h.1, fun i a b ha hb => hs a b (List.mem_of_getElem? hb) (h.2 i a b ha hb)⟩
theorem Rel.snoc {α β : Type} {R : α → β → Prop} {l : List α} {m : List β} (h : Rel R l m) {a : α} {b : β} (hr : R a b) : Rel R (l ++ [a]) (m ++ [b]) := by
  refine ⟨by simp [h.1], fun i x y hx hy => ?_⟩
  have hl := h.1
  by_cases hi : i < l.length
  · rw [List.getElem?_append_left hi] at hx
    rw [List.getElem?_append_left (by omega)] at hy
    exact h.2 i x y hx hy
  · rw [List.getElem?_append_right (by omega)] at hx
    rw [List.getElem?_append_right (by omega)] at hy
    rw [hl] at hx
    have hz : i - m.length = 0 := by
      have := (List.getElem?_eq_some_iff.1 hy).1
      simp at this
      omega
    rw [hz] at hx hy
    simp at hx hy
    subst hx hy
    exact hr
theorem Rel.set {α β : Type} {R : α → β → Prop} {l : List α} {m : List β} (h : Rel R l m) (k : Nat) {a : α} {b : β} (hr : R a b) : Rel R (l.set k a) (m.set k b) := by
  refine ⟨by simp [h.1], fun i x y hx hy => ?_⟩
  rw [List.getElem?_set] at hx hy
  by_cases e : k = i
  · subst e
    rw [if_pos rfl] at hx hy
    split at hx
    · split at hy
      · injection hx with hx; injection hy with hy; subst hx hy; exact hr
      · cases hy
    · cases hx
  · rw [if_neg e] at hx hy
    exact h.2 i x y hx hy
theorem Rel.get {α β : Type} {R : α → β → Prop} {l : List α} {m : List β} (h : Rel R l m) {i : Nat} {b : β} (hb : m[i]? = some b) : ∃ a, l[i]? = some a ∧ R a b := by
  have hi : i < l.length := by have := (List.getElem?_eq_some_iff.1 hb).1; have := h.1; omega
  exact ⟨l[i], List.getElem?_eq_getElem hi, h.2 i _ _ (List.getElem?_eq_getElem hi) hb⟩
/-- Bytes as values. -/
def bs (xs : List Int) : List Value := xs.map (Value.int .u8)
theorem bs_len (xs : List Int) : (bs xs).length = xs.length := by simp [bs]
theorem bs_one (xs : List Int) : ∀ u ∈ bs xs, u.oneCell' = true := by
  intro u hu
  simp [bs] at hu
  obtain ⟨a, _, rfl⟩ := hu
  rfl
/-- A value's bytes. -/
def ByAt (φ : Nat → Prop) (w : World) (M : Nat) (v : Value) (s : ByteArray) : Prop := ∃ xs, SlAt φ w v xs.length 1 (bs xs) ∧ xs.length ≤ M ∧ s = strOfNums xs
theorem ByAt.keep {φ ψ : Nat → Prop} {w w' : World} {M M' : Nat} {v : Value} {s : ByteArray} (h : ByAt φ w M v s) (hk : Kp φ w w') (hp : ∀ k, k < w.heap.size → φ k → ψ k) (hM : M ≤ M') : ByAt ψ w' M' v s := by
  obtain ⟨xs, h1, h2, h3⟩ := h
  exact ⟨xs, h1.keep hk hp, by omega, h3⟩
theorem ByAt.form {φ : Nat → Prop} {w : World} {M : Nat} {v : Value} {s : ByteArray} (h : ByAt φ w M v s) : ∃ A n c, v = .slice A n c := by
  obtain ⟨xs, ⟨A, c, rfl, _⟩, _⟩ := h
  exact ⟨_, _, _, rfl⟩
/-- The cells of properties; of nodes. -/
def pcs (l : List (ByteArray × Value)) : List Value := l.flatMap fun p => [.string p.1, p.2]
def kcs (l : List (ByteArray × Value × Value)) : List Value := l.flatMap fun p => [.string p.1, p.2.1, p.2.2]
theorem pcs_len (l : List (ByteArray × Value)) : (pcs l).length = l.length * 2 := by
  induction l with
  | nil => rfl
  | cons p l ih => simp only [pcs, List.flatMap_cons, List.length_append, List.length_cons] at ih ⊢; rw [ih]; simp; omega
theorem kcs_len (l : List (ByteArray × Value × Value)) : (kcs l).length = l.length * 3 := by
  induction l with
  | nil => rfl
  | cons p l ih => simp only [kcs, List.flatMap_cons, List.length_append, List.length_cons] at ih ⊢; rw [ih]; simp; omega
theorem pcs_at (l : List (ByteArray × Value)) (i : Nat) (p : ByteArray × Value) (h : l[i]? = some p) : (pcs l)[i * 2]? = some (.string p.1) ∧ (pcs l)[i * 2 + 1]? = some p.2 := by
  induction l generalizing i with
  | nil => simp at h
  | cons q l ih =>
    have e : pcs (q :: l) = .string q.1 :: q.2 :: pcs l := rfl
    rw [e]
    cases i with
    | zero => simp at h; subst h; simp
    | succ i =>
      have := ih i (by simpa using h)
      rw [show (i + 1) * 2 = i * 2 + 1 + 1 from by omega]
      simpa using this
theorem kcs_at (l : List (ByteArray × Value × Value)) (i : Nat) (p : ByteArray × Value × Value) (h : l[i]? = some p) : (kcs l)[i * 3]? = some (.string p.1) ∧ (kcs l)[i * 3 + 1]? = some p.2.1 ∧ (kcs l)[i * 3 + 2]? = some p.2.2 := by
  induction l generalizing i with
  | nil => simp at h
  | cons q l ih =>
    have e : kcs (q :: l) = .string q.1 :: q.2.1 :: q.2.2 :: kcs l := rfl
    rw [e]
    cases i with
    | zero => simp at h; subst h; simp
    | succ i =>
      have := ih i (by simpa using h)
      rw [show (i + 1) * 3 = i * 3 + 1 + 1 + 1 from by omega]
      simpa using this
theorem pcs_snoc (l : List (ByteArray × Value)) (p : ByteArray × Value) : pcs (l ++ [p]) = pcs l ++ [.string p.1, p.2] := by simp [pcs]
theorem kcs_snoc (l : List (ByteArray × Value × Value)) (p : ByteArray × Value × Value) : kcs (l ++ [p]) = kcs l ++ [.string p.1, p.2.1, p.2.2] := by simp [kcs]
theorem pcs_set (l : List (ByteArray × Value)) (k : Nat) (p : ByteArray × Value) : pcs (l.set k p) = ((pcs l).set (k * 2) (.string p.1)).set (k * 2 + 1) p.2 := by
  induction l generalizing k with
  | nil => simp [pcs]
  | cons q l ih =>
    cases k with
    | zero => simp [pcs]
    | succ k =>
      have := ih k
      rw [show (k + 1) * 2 = k * 2 + 1 + 1 from by omega]
      show .string q.1 :: q.2 :: pcs (l.set k p) = _
      rw [this]
      simp [pcs]
theorem kcs_set (l : List (ByteArray × Value × Value)) (k : Nat) (p : ByteArray × Value × Value) : kcs (l.set k p) = (((kcs l).set (k * 3) (.string p.1)).set (k * 3 + 1) p.2.1).set (k * 3 + 2) p.2.2 := by
  induction l generalizing k with
  | nil => simp [kcs]
  | cons q l ih =>
    cases k with
    | zero => simp [kcs]
    | succ k =>
      have := ih k
      rw [show (k + 1) * 3 = k * 3 + 1 + 1 + 1 from by omega]
      show .string q.1 :: q.2.1 :: q.2.2 :: kcs (l.set k p) = _
      rw [this]
      simp [kcs]
/-- Properties; nodes, of which R says the rest; a node's two slices, d nodes down at the most. -/
def PrR (φ : Nat → Prop) (w : World) (M : Nat) (p : ByteArray × Value) (q : ByteArray × ByteArray) : Prop := p.1 = q.1 ∧ q.1.size ≤ M ∧ ByAt φ w M p.2 q.2
def KiR (M : Nat) (R : Value → Value → Nd → Prop) (k : ByteArray × Value × Value) (n : Nd) : Prop := k.1 = n.name ∧ n.name.size ≤ M ∧ R k.2.1 k.2.2 n
def PrAt (φ : Nat → Prop) (w : World) (M : Nat) (v : Value) (props : List (ByteArray × ByteArray)) : Prop :=
  ∃ ps, SlAt φ w v props.length 2 (pcs ps) ∧ props.length ≤ M ∧ Rel (PrR φ w M) ps props
def KiAt (R : Value → Value → Nd → Prop) (φ : Nat → Prop) (w : World) (M : Nat) (v : Value) (kids : List Nd) : Prop :=
  ∃ ks, SlAt φ w v kids.length 3 (kcs ks) ∧ kids.length ≤ M ∧ Rel (KiR M R) ks kids
def NdAt (φ : Nat → Prop) (w : World) (M : Nat) : Nat → Value → Value → Nd → Prop
  | 0, _, _, _ => False
  | d + 1, vp, vk, n => PrAt φ w M vp n.props ∧ KiAt (NdAt φ w M d) φ w M vk n.kids
theorem PrR.keep {φ ψ : Nat → Prop} {w w' : World} {M M' : Nat} {p : ByteArray × Value} {q : ByteArray × ByteArray} (h : PrR φ w M p q) (hk : Kp φ w w') (hp : ∀ k, k < w.heap.size → φ k → ψ k) (hM : M ≤ M') : PrR ψ w' M' p q :=
  ⟨h.1, by have := h.2.1; omega, h.2.2.keep hk hp hM⟩
theorem PrAt.keep {φ ψ : Nat → Prop} {w w' : World} {M M' : Nat} {v : Value} {props : List (ByteArray × ByteArray)} (h : PrAt φ w M v props) (hk : Kp φ w w') (hp : ∀ k, k < w.heap.size → φ k → ψ k) (hM : M ≤ M') : PrAt ψ w' M' v props := by
  obtain ⟨ps, h1, h2, h3⟩ := h
  exact ⟨ps, h1.keep hk hp, by omega, h3.mono fun a b _ hr => hr.keep hk hp hM⟩
theorem NdAt.keep {φ ψ : Nat → Prop} {w w' : World} {M M' d d' : Nat} {vp vk : Value} {n : Nd} (h : NdAt φ w M d vp vk n) (hk : Kp φ w w') (hp : ∀ k, k < w.heap.size → φ k → ψ k) (hM : M ≤ M') (hd : d ≤ d') : NdAt ψ w' M' d' vp vk n := by
  induction d generalizing d' vp vk n with
  | zero => cases h
  | succ d ih =>
    obtain ⟨d', rfl⟩ : ∃ e, d' = e + 1 := ⟨d' - 1, by omega⟩
    obtain ⟨h1, ks, h2, h3, h4⟩ := h
    exact ⟨h1.keep hk hp hM, ks, h2.keep hk hp, by omega, h4.mono fun a b _ hr => ⟨hr.1, by have := hr.2.1; omega, ih hr.2.2 (by omega)⟩⟩
theorem PrAt.form {φ : Nat → Prop} {w : World} {M : Nat} {v : Value} {props : List (ByteArray × ByteArray)} (h : PrAt φ w M v props) : ∃ A c, v = .slice A props.length c ∧ props.length ≤ c ∧ c ≤ maxLen ∧ props.length ≤ M := by
  obtain ⟨ps, ⟨A, c, rfl, h1, h2, _⟩, h3, _⟩ := h
  exact ⟨A, c, rfl, h1, h2, h3⟩
theorem KiAt.form {R : Value → Value → Nd → Prop} {φ : Nat → Prop} {w : World} {M : Nat} {v : Value} {kids : List Nd} (h : KiAt R φ w M v kids) : ∃ A c, v = .slice A kids.length c ∧ kids.length ≤ c ∧ c ≤ maxLen ∧ kids.length ≤ M := by
  obtain ⟨ps, ⟨A, c, rfl, h1, h2, _⟩, h3, _⟩ := h
  exact ⟨A, c, rfl, h1, h2, h3⟩
theorem PrAt.at_ {φ : Nat → Prop} {w : World} {M n c : Nat} {A : Option Addr} {props : List (ByteArray × ByteArray)} (h : PrAt φ w M (.slice A n c) props) {i : Nat} {q : ByteArray × ByteArray} (hq : props[i]? = some q) :
    ∃ ad bv, A = some ad ∧ φ ad.block ∧ w.cell? (ad.add (i * 2)) = some (.string q.1) ∧ w.cell? ⟨(ad.add (i * 2)).block, (ad.add (i * 2)).off + 1, none⟩ = some bv ∧ q.1.size ≤ M ∧ ByAt φ w M bv q.2 := by
  obtain ⟨ps, ⟨A', c', e, h1, h2, h3, h4, h5, h6⟩, hM, hr⟩ := h
  injection e with e1 e2 e3
  subst e1 e2 e3
  obtain ⟨p, hp, r1, r2, r3⟩ := hr.get hq
  obtain ⟨c0, c1⟩ := pcs_at ps i p hp
  obtain ⟨ad, e, hφ⟩ := h5 (by have := (List.getElem?_eq_some_iff.1 c0).1; omega)
  refine ⟨ad, p.2, e, hφ, ?_, ?_, r2, r3⟩
  · rw [← r1]; exact h6 ad e _ _ c0
  · have := h6 ad e _ _ c1
    have e2 : ad.add (i * 2 + 1) = ⟨(ad.add (i * 2)).block, (ad.add (i * 2)).off + 1, none⟩ := by
      unfold Addr.add
      split
      · omega
      · split
        · simp_all
        · simp; omega
    rw [← e2]; exact this
theorem KiAt.at_ {R : Value → Value → Nd → Prop} {φ : Nat → Prop} {w : World} {M n c : Nat} {A : Option Addr} {kids : List Nd} (h : KiAt R φ w M (.slice A n c) kids) {i : Nat} {q : Nd} (hq : kids[i]? = some q) :
    ∃ ad vp vk, A = some ad ∧ φ ad.block ∧ w.cell? (ad.add (i * 3)) = some (.string q.name) ∧ w.cell? ⟨(ad.add (i * 3)).block, (ad.add (i * 3)).off + 1, none⟩ = some vp ∧ w.cell? ⟨(ad.add (i * 3)).block, (ad.add (i * 3)).off + 2, none⟩ = some vk ∧ q.name.size ≤ M ∧ R vp vk q := by
  obtain ⟨ks, ⟨A', c', e, h1, h2, h3, h4, h5, h6⟩, hM, hr⟩ := h
  injection e with e1 e2 e3
  subst e1 e2 e3
  obtain ⟨p, hp, r1, r2, r3⟩ := hr.get hq
  obtain ⟨c0, c1, c2⟩ := kcs_at ks i p hp
  obtain ⟨ad, e, hφ⟩ := h5 (by have := (List.getElem?_eq_some_iff.1 c0).1; omega)
  have ea : ∀ j, 0 < j → ad.add (i * 3 + j) = ⟨(ad.add (i * 3)).block, (ad.add (i * 3)).off + j, none⟩ := by
    intro j hj
    unfold Addr.add
    split
    · omega
    · split
      · simp_all
      · simp; omega
  refine ⟨ad, p.2.1, p.2.2, e, hφ, ?_, ?_, ?_, r2, r3⟩
  · rw [← r1]; exact h6 ad e _ _ c0
  · rw [← ea 1 (by decide)]; exact h6 ad e _ _ c1
  · rw [← ea 2 (by decide)]; exact h6 ad e _ _ c2
theorem KiAt.keep {φ ψ : Nat → Prop} {w w' : World} {M M' d d' : Nat} {v : Value} {kids : List Nd} (h : KiAt (NdAt φ w M d) φ w M v kids) (hk : Kp φ w w') (hp : ∀ k, k < w.heap.size → φ k → ψ k) (hM : M ≤ M') (hd : d ≤ d') : KiAt (NdAt ψ w' M' d') ψ w' M' v kids := by
  obtain ⟨ks, h2, h3, h4⟩ := h
  exact ⟨ks, h2.keep hk hp, by omega, h4.mono fun a b _ hr => ⟨hr.1, by have := hr.2.1; omega, hr.2.2.keep hk hp hM hd⟩⟩
theorem NdAt.form {φ : Nat → Prop} {w : World} {M d : Nat} {vp vk : Value} {n : Nd} (h : NdAt φ w M d vp vk n) : ∃ A k c A' k' c', vp = .slice A k c ∧ vk = .slice A' k' c' := by
  cases d with
  | zero => cases h
  | succ d =>
    obtain ⟨h1, h2⟩ := h
    obtain ⟨A, c, rfl, _⟩ := h1.form
    obtain ⟨A', c', rfl, _⟩ := h2.form
    exact ⟨_, _, _, _, _, _, rfl, rfl⟩
theorem take_snoc {α : Type} {l : List α} {k : Nat} {x : α} (h : l[k]? = some x) : l.take (k + 1) = l.take k ++ [x] := by
  obtain ⟨hk, e⟩ := List.getElem?_eq_some_iff.1 h
  rw [List.take_succ_eq_append_getElem hk, e]
end Go.Proofs.Ytkkpdeiooopifaa
