/- A node that is being made: a box, and two rows of the call's own (layer 10). No conditions. -/
import Derived.Test.YtkkpdeiooopifaaMem
import Derived.Laws.OwnMore
namespace Go.Proofs.Ytkkpdeiooopifaa
open Go.RowKit Go.Sort
set_option linter.unusedVariables false
theorem own_bk_ne {w : World} {base : Nat} {e : TypeId} {size n : Nat} {r : Value} {xs : List Value} {q : Nat} {t : TypeId} {cs : Array Value} (h : w.ownsRow base e size r n xs) (hg : Bk w q t cs) (hne : e ≠ t) : some q ≠ r.ownBlock := by
  rcases h.2 with ⟨rfl, _⟩ | ⟨g', cap, cur, rfl, _, hh, _⟩
  · simp [Value.ownBlock]
  · intro he
    have : q = g' := by simpa [Value.ownBlock] using he
    subst this
    unfold Bk at hg
    rw [hh] at hg
    injection hg with hg
    injection hg with _ ht
    exact hne ht
theorem own_own_ne {w : World} {b1 b2 : Nat} {e t : TypeId} {z1 z2 n1 n2 : Nat} {r s : Value} {xs ys : List Value} (h : w.ownsRow b1 e z1 r n1 xs) (hg : w.ownsRow b2 t z2 s n2 ys) (hne : e ≠ t) : s.ownBlock = none ∨ s.ownBlock ≠ r.ownBlock := by
  rcases hg.2 with ⟨rfl, _⟩ | ⟨g, cap, cur, rfl, _, hh, _⟩
  · exact .inl rfl
  · right
    exact own_bk_ne (q := g) (t := t) (cs := cur) h hh hne
theorem own_keep {w v : World} {B : Nat} {e : TypeId} {size n : Nat} {x : Value} {xs : List Value} (h : v.ownsRow B e size x n xs) (hk : ∀ k, x.ownBlock = some k → w.heap[k]? = v.heap[k]?) : w.ownsRow B e size x n xs := by
  refine ⟨h.1, ?_⟩
  rcases h.2 with h0 | ⟨g, cap, cur, rfl, h1, h2, h3⟩
  · exact .inl h0
  · exact .inr ⟨g, cap, cur, rfl, h1, (hk g (by simp [Value.ownBlock])).trans h2, h3⟩
theorem own_below {w v : World} {B : Nat} {e : TypeId} {size n : Nat} {x : Value} {xs : List Value} (h : v.ownsRow B e size x n xs) (hb : Below v.heap.size v w) : w.ownsRow B e size x n xs :=
  own_keep h fun k hk => hb.block k (h.lt k hk).2
theorem own_setb {v : World} {B : Nat} {e : TypeId} {size n : Nat} {x : Value} {xs : List Value} (h : v.ownsRow B e size x n xs) {p : Addr} (hn : some p.block ≠ x.ownBlock) (u : Value) : (v.setCell p u).ownsRow B e size x n xs :=
  own_keep h fun k hk => Below.heap_setCell v p u k (fun e => hn (by rw [hk, e]))
/-- What the parts of the node avoid. -/
def Cold (φ : Nat → Prop) (B : Nat) (vp vk : Value) (k : Nat) : Prop := φ k ∧ k ≠ B ∧ some k ≠ vp.ownBlock ∧ some k ≠ vk.ownBlock
theorem bk_grown {w w' : World} {q H : Nat} {t e : TypeId} {cs : Array Value} {z n : Nat} {v : Value} {xs : List Value} (h : Bk w q t cs) (own : w.ownsRow H e z v n xs) (hq : q < H) (hg : w.grownBy w' v.ownBlock) : Bk w' q t cs :=
  (hg.block q h.lt (fun e => by have := (own.lt q e.symm).1; omega)).trans h
theorem bk_set {w : World} {q : Nat} {t : TypeId} {cs : Array Value} (h : Bk w q t cs) {a : Addr} (hne : q ≠ a.block) (u : Value) : Bk (w.setCell a u) q t cs := (Below.heap_setCell w a u q hne).trans h
theorem bw_set {v w : World} {S : Nat} (h : Below S v w) {a : Addr} (ha : S ≤ a.block) (hS : S ≤ w.heap.size) (u : Value) : Below S v (w.setCell a u) :=
  h.grown (row := some a.block) ⟨rfl, rfl, rfl, by simp, fun k _ hk => Below.heap_setCell w a u k (fun e => hk (by rw [e]))⟩ hS (fun k hk => by injection hk with hk; omega)
structure Out (φ : Nat → Prop) (E H M d : Nat) (w : World) (B : Nat) (nm : ByteArray) (vp vk : Value) (props : List (ByteArray × ByteArray)) (kids : List Nd) : Prop where
  hE : E ≤ B
  hH : E ≤ H
  hS : H ≤ w.heap.size
  box : Bk w B 25 #[.string nm, vp, vk]
  nk : some B ≠ vk.ownBlock
  ps : ∃ ps, w.ownsRow H 32 2 vp props.length (pcs ps) ∧ Rel (PrR (Cold φ B vp vk) w M) ps props
  ks : ∃ ks, w.ownsRow H 25 3 vk kids.length (kcs ks) ∧ Rel (KiR M (NdAt (Cold φ B vp vk) w M d)) ks kids
section
variable {φ : Nat → Prop} {E H M d B : Nat} {w w' : World} {nm : ByteArray} {vp vk : Value} {props : List (ByteArray × ByteArray)} {kids : List Nd}
theorem KiR.keep {φ ψ : Nat → Prop} {k : ByteArray × Value × Value} {n : Nd} (h : KiR M (NdAt φ w M d) k n) (hk : Kp φ w w') (hp : ∀ k, k < w.heap.size → φ k → ψ k) : KiR M (NdAt ψ w' M d) k n :=
  ⟨h.1, h.2.1, h.2.2.keep hk hp (Nat.le_refl _) (Nat.le_refl _)⟩
theorem Out.below (h : Out φ E H M d w B nm vp vk props kids) (hb : Below w.heap.size w w') : Out φ E H M d w' B nm vp vk props kids := by
  obtain ⟨ps, p1, p2⟩ := h.ps
  obtain ⟨ks, k1, k2⟩ := h.ks
  exact ⟨h.hE, h.hH, Nat.le_trans h.hS hb.size, h.box.below hb, h.nk, ⟨ps, own_below p1 hb, p2.mono fun _ _ _ hr => hr.keep (Kp.below _ hb) (fun _ _ h => h) (Nat.le_refl _)⟩,
    ⟨ks, own_below k1 hb, k2.mono fun _ _ _ hr => hr.keep (Kp.below _ hb) (fun _ _ h => h)⟩⟩
theorem Out.np (h : Out φ E H M d w B nm vp vk props kids) : some B ≠ vp.ownBlock := by
  obtain ⟨ps, p1, p2⟩ := h.ps
  exact own_bk_ne p1 h.box (by decide)
/-- The blocks that are known. -/
theorem Out.fresh (h : Out φ E H M d w B nm vp vk props kids) (hφ : ∀ k, H ≤ k → φ k) {k : Nat} (hk : w.heap.size ≤ k) : Cold φ B vp vk k := by
  obtain ⟨ps, p1, p2⟩ := h.ps
  obtain ⟨ks, k1, k2⟩ := h.ks
  have := h.box.lt
  have := h.hS
  refine ⟨hφ k (by omega), by omega, fun e => ?_, fun e => ?_⟩
  · have := (p1.lt k e.symm).2; omega
  · have := (k1.lt k e.symm).2; omega
theorem Out.old (h : Out φ E H M d w B nm vp vk props kids) {k : Nat} (hk : k < E) (hφ : φ k) : Cold φ B vp vk k := by
  obtain ⟨ps, p1, p2⟩ := h.ps
  obtain ⟨ks, k1, k2⟩ := h.ks
  have := h.hH
  have := h.hE
  refine ⟨hφ, by omega, fun e => ?_, fun e => ?_⟩
  · have := (p1.lt k e.symm).1; omega
  · have := (k1.lt k e.symm).1; omega
theorem Out.pr (h : Out φ E H M d w B nm vp vk props kids) (hφ : ∀ k, H ≤ k → φ k) (hM : props.length ≤ M) : PrAt (fun k => φ k ∧ k ≠ B) w M vp props := by
  obtain ⟨ps, p1, p2⟩ := h.ps
  refine ⟨ps, SlAt.own p1 (fun k hk => ⟨hφ k (p1.lt k hk).1, ?_⟩), hM, p2.mono fun _ _ _ hr => hr.keep (Kp.refl _ _) (fun k _ hc => ⟨hc.1, hc.2.1⟩) (Nat.le_refl _)⟩
  rintro rfl
  exact h.np hk.symm
theorem Out.ki (h : Out φ E H M d w B nm vp vk props kids) (hφ : ∀ k, H ≤ k → φ k) (hM : kids.length ≤ M) : KiAt (NdAt (fun k => φ k ∧ k ≠ B) w M d) (fun k => φ k ∧ k ≠ B) w M vk kids := by
  obtain ⟨ks, p1, p2⟩ := h.ks
  refine ⟨ks, SlAt.own p1 (fun k hk => ⟨hφ k (p1.lt k hk).1, ?_⟩), hM, p2.mono fun _ _ _ hr => hr.keep (Kp.refl _ _) (fun k _ hc => ⟨hc.1, hc.2.1⟩)⟩
  rintro rfl
  exact h.nk hk.symm
theorem Out.nd (h : Out φ E H M d w B nm vp vk props kids) (hφ : ∀ k, H ≤ k → φ k) (hM : props.length ≤ M) (hM2 : kids.length ≤ M) : NdAt φ w M (d + 1) vp vk (.mk nm props kids) :=
  ⟨(h.pr hφ hM).keep (Kp.refl _ _) (fun _ _ h => h.1) (Nat.le_refl _), (h.ki hφ hM2).keep (Kp.refl _ _) (fun _ _ h => h.1) (Nat.le_refl _) (Nat.le_refl _)⟩
/-- A property put behind all. -/
theorem Out.snocP (h : Out φ E H M d w B nm vp vk props kids) {ps : List (ByteArray × Value)} (hrel : Rel (PrR (Cold φ B vp vk) w M) ps props) {g n c : Nat} {s : ByteArray} {bv : Value} {q : ByteArray × ByteArray}
    (own6 : w'.ownsRow H 32 2 (.slice (some ⟨g, 0, none⟩) n c) (props.length + 1) (pcs ps ++ [.string s, bv])) (hg : w.grownBy w' vp.ownBlock) (hat : vp.ownBlock = some g ∨ g = w.heap.size) (hq : PrR (Cold φ B vp vk) w M (s, bv) q) :
    Out φ E H M d (w'.setCell ⟨B, 1, none⟩ (.slice (some ⟨g, 0, none⟩) n c)) B nm (.slice (some ⟨g, 0, none⟩) n c) vk (props ++ [q]) kids := by
  obtain ⟨ks, k1, k2⟩ := h.ks
  obtain ⟨ps', p1, p2⟩ := h.ps
  have hlt := h.box.lt
  have box6 : Bk w' B 25 #[.string nm, vp, vk] := (hg.block B hlt h.np).trans h.box
  have hgB : B ≠ g := fun e => own_bk_ne own6 box6 (by decide) (by rw [e]; rfl)
  have hK : Kp (Cold φ B vp vk) w (w'.setCell ⟨B, 1, none⟩ (.slice (some ⟨g, 0, none⟩) n c)) :=
    (Kp.grown hg fun k hk => hk.2.2.1).trans (Kp.set w' _ _ fun k hk => hk.2.1)
  have hC : ∀ k, k < w.heap.size → Cold φ B vp vk k → Cold φ B (.slice (some ⟨g, 0, none⟩) n c) vk k := by
    rintro k hk ⟨c1, c2, c3, c4⟩
    refine ⟨c1, c2, ?_, c4⟩
    rintro e
    injection e with e
    subst e
    rcases hat with hat | hat
    · exact c3 hat.symm
    · omega
  have k6 := k1.kept hg (own_own_ne p1 k1 (by decide))
  refine ⟨h.hE, h.hH, by have := hg.size; have := h.hS; simp; omega, ?_, h.nk, ⟨ps ++ [(s, bv)], ?_, ?_⟩, ⟨ks, own_setb k6 h.nk _, k2.mono fun _ _ _ hr => hr.keep hK hC⟩⟩
  · have := box6.set 1 (.slice (some ⟨g, 0, none⟩) n c)
    simpa using this
  · rw [pcs_snoc, List.length_append]
    exact own_setb own6 (fun e => hgB (by injection e)) _
  · exact (hrel.mono fun _ _ _ hr => hr.keep hK hC (Nat.le_refl _)).snoc (hq.keep hK hC (Nat.le_refl _))
/-- A property laid over another one. -/
theorem Out.setP {g n c : Nat} (h : Out φ E H M d w B nm (.slice (some ⟨g, 0, none⟩) n c) vk props kids) {k : Nat} {s : ByteArray} {bv : Value} {q : ByteArray × ByteArray} (hn : n = props.length) (hq : PrR (Cold φ B (.slice (some ⟨g, 0, none⟩) n c) vk) w M (s, bv) q) :
    Out φ E H M d ((w.setCell ⟨g, k * 2, none⟩ (.string s)).setCell ⟨g, k * 2 + 1, none⟩ bv) B nm (.slice (some ⟨g, 0, none⟩) n c) vk (props.set k q) kids := by
  subst hn
  obtain ⟨ks, k1, k2⟩ := h.ks
  obtain ⟨ps, p1, p2⟩ := h.ps
  have hnp := h.np
  have hK : Kp (Cold φ B (.slice (some ⟨g, 0, none⟩) props.length c) vk) w ((w.setCell ⟨g, k * 2, none⟩ (.string s)).setCell ⟨g, k * 2 + 1, none⟩ bv) :=
    (Kp.set w _ _ fun k hk e => hk.2.2.1 (by rw [e]; rfl)).trans (Kp.set _ _ _ fun k hk e => hk.2.2.1 (by rw [e]; rfl))
  have hvk : some g ≠ vk.ownBlock := fun e => by
    rcases own_own_ne p1 k1 (by decide) with hh | hh
    · rw [hh] at e; cases e
    · exact hh e.symm
  have hBg : B ≠ g := fun e => hnp (by rw [e]; rfl)
  refine ⟨h.hE, h.hH, by have := h.hS; simp; omega, ?_, h.nk, ⟨ps.set k (s, bv), ?_, ?_⟩, ⟨ks, own_setb (own_setb k1 hvk _) hvk _, k2.mono fun _ _ _ hr => hr.keep hK (fun _ _ h => h)⟩⟩
  · exact (Below.heap_setCell _ _ _ B hBg).trans ((Below.heap_setCell _ _ _ B hBg).trans h.box)
  · rw [pcs_set, List.length_set]
    exact ((p1.stored (k * 2) (.string s)).1.stored (k * 2 + 1) bv).1
  · exact (p2.mono fun _ _ _ hr => hr.keep hK (fun _ _ h => h) (Nat.le_refl _)).set k (hq.keep hK (fun _ _ h => h) (Nat.le_refl _))
/-- A node put behind all. -/
theorem Out.snocK (h : Out φ E H M d w B nm vp vk props kids) {ks : List (ByteArray × Value × Value)} (hrel : Rel (KiR M (NdAt (Cold φ B vp vk) w M d)) ks kids) {g n c : Nat} {s : ByteArray} {bp bk : Value} {q : Nd}
    (own6 : w'.ownsRow H 25 3 (.slice (some ⟨g, 0, none⟩) n c) (kids.length + 1) (kcs ks ++ [.string s, bp, bk])) (hg : w.grownBy w' vk.ownBlock) (hat : vk.ownBlock = some g ∨ g = w.heap.size) (hq : KiR M (NdAt (Cold φ B vp vk) w M d) (s, bp, bk) q) :
    Out φ E H M d (w'.setCell ⟨B, 2, none⟩ (.slice (some ⟨g, 0, none⟩) n c)) B nm vp (.slice (some ⟨g, 0, none⟩) n c) props (kids ++ [q]) := by
  obtain ⟨ks', k1, k2⟩ := h.ks
  obtain ⟨ps, p1, p2⟩ := h.ps
  have hlt := h.box.lt
  have box6 : Bk w' B 25 #[.string nm, vp, vk] := (hg.block B hlt h.nk).trans h.box
  have hgB : B ≠ g := by
    rcases hat with hat | hat
    · intro e; exact h.nk (by rw [hat, e])
    · omega
  have hK : Kp (Cold φ B vp vk) w (w'.setCell ⟨B, 2, none⟩ (.slice (some ⟨g, 0, none⟩) n c)) :=
    (Kp.grown hg fun k hk => hk.2.2.2).trans (Kp.set w' _ _ fun k hk => hk.2.1)
  have hC : ∀ k, k < w.heap.size → Cold φ B vp vk k → Cold φ B vp (.slice (some ⟨g, 0, none⟩) n c) k := by
    rintro k hk ⟨c1, c2, c3, c4⟩
    refine ⟨c1, c2, c3, ?_⟩
    rintro e
    injection e with e
    subst e
    rcases hat with hat | hat
    · exact c4 hat.symm
    · omega
  have p6 := p1.kept hg (own_own_ne k1 p1 (by decide))
  refine ⟨h.hE, h.hH, by have := hg.size; have := h.hS; simp; omega, ?_, fun e => hgB (by injection e), ⟨ps, own_setb p6 h.np _, p2.mono fun _ _ _ hr => hr.keep hK hC (Nat.le_refl _)⟩, ⟨ks ++ [(s, bp, bk)], ?_, ?_⟩⟩
  · have := box6.set 2 (.slice (some ⟨g, 0, none⟩) n c)
    simpa using this
  · rw [kcs_snoc, List.length_append]
    exact own_setb own6 (fun e => hgB (by injection e)) _
  · exact (hrel.mono fun _ _ _ hr => hr.keep hK hC).snoc (hq.keep hK hC)
/-- A node laid over another one. -/
theorem Out.setK {g n c : Nat} (h : Out φ E H M d w B nm vp (.slice (some ⟨g, 0, none⟩) n c) props kids) {k : Nat} {s : ByteArray} {bp bk : Value} {q : Nd} (hn : n = kids.length) (hq : KiR M (NdAt (Cold φ B vp (.slice (some ⟨g, 0, none⟩) n c)) w M d) (s, bp, bk) q) :
    Out φ E H M d (((w.setCell ⟨g, k * 3, none⟩ (.string s)).setCell ⟨g, k * 3 + 1, none⟩ bp).setCell ⟨g, k * 3 + 2, none⟩ bk) B nm vp (.slice (some ⟨g, 0, none⟩) n c) props (kids.set k q) := by
  subst hn
  obtain ⟨ks, k1, k2⟩ := h.ks
  obtain ⟨ps, p1, p2⟩ := h.ps
  have hnk := h.nk
  have hK : Kp (Cold φ B vp (.slice (some ⟨g, 0, none⟩) kids.length c)) w (((w.setCell ⟨g, k * 3, none⟩ (.string s)).setCell ⟨g, k * 3 + 1, none⟩ bp).setCell ⟨g, k * 3 + 2, none⟩ bk) :=
    ((Kp.set w _ _ fun k hk e => hk.2.2.2 (by rw [e]; rfl)).trans (Kp.set _ _ _ fun k hk e => hk.2.2.2 (by rw [e]; rfl))).trans (Kp.set _ _ _ fun k hk e => hk.2.2.2 (by rw [e]; rfl))
  have hvp : some g ≠ vp.ownBlock := fun e => by
    rcases own_own_ne k1 p1 (by decide) with hh | hh
    · rw [hh] at e; cases e
    · exact hh e.symm
  have hBg : B ≠ g := fun e => hnk (by rw [e]; rfl)
  refine ⟨h.hE, h.hH, by have := h.hS; simp; omega, ?_, h.nk, ⟨ps, own_setb (own_setb (own_setb p1 hvp _) hvp _) hvp _, p2.mono fun _ _ _ hr => hr.keep hK (fun _ _ h => h) (Nat.le_refl _)⟩, ⟨ks.set k (s, bp, bk), ?_, ?_⟩⟩
  · exact (Below.heap_setCell _ _ _ B hBg).trans ((Below.heap_setCell _ _ _ B hBg).trans ((Below.heap_setCell _ _ _ B hBg).trans h.box))
  · rw [kcs_set, List.length_set]
    exact (((k1.stored (k * 3) (.string s)).1.stored (k * 3 + 1) bp).1.stored (k * 3 + 2) bk).1
  · exact (k2.mono fun _ _ _ hr => hr.keep hK (fun _ _ h => h)).set k (hq.keep hK (fun _ _ h => h))
end
end Go.Proofs.Ytkkpdeiooopifaa
