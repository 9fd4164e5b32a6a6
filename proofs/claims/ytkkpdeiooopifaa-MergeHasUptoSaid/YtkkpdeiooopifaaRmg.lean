/- The contract of the reference's Merge: a node laid over another one (layer 6's reference). Conditions: both are of not more than 2^40 together. -/
import Derived.Test.YtkkpdeiooopifaaMg
import Derived.Test.YtkkpdeiooopifaaAps
import Derived.Deep.CutRange
namespace Go.Proofs.Ytkkpdeiooopifaa
open Go.RowKit Go.Sort
set_option linter.unusedVariables false
theorem SlAt.one2 {φ : Nat → Prop} {w : World} {M : Nat} {ps : List (ByteArray × Value)} {props : List (ByteArray × ByteArray)} (h : Rel (PrR φ w M) ps props) : ∀ u ∈ pcs ps, u.oneCell' = true := by
  intro u hu
  obtain ⟨p, hp, hu⟩ := List.mem_flatMap.1 hu
  obtain ⟨i, hi⟩ := List.getElem?_of_mem hp
  have hlt : i < props.length := by have := (List.getElem?_eq_some_iff.1 hi).1; have := h.1; omega
  obtain ⟨_, _, hb⟩ := h.2 i p _ hi (List.getElem?_eq_getElem hlt)
  exact one_prop p.1 hb u hu
theorem SlAt.one3 {φ : Nat → Prop} {w : World} {M d : Nat} {ks : List (ByteArray × Value × Value)} {kids : List Nd} (h : Rel (KiR M (NdAt φ w M d)) ks kids) : ∀ u ∈ kcs ks, u.oneCell' = true := by
  intro u hu
  obtain ⟨p, hp, hu⟩ := List.mem_flatMap.1 hu
  obtain ⟨i, hi⟩ := List.getElem?_of_mem hp
  have hlt : i < kids.length := by have := (List.getElem?_eq_some_iff.1 hi).1; have := h.1; omega
  obtain ⟨_, _, hb⟩ := h.2 i p _ hi (List.getElem?_eq_getElem hlt)
  obtain ⟨A, k, c, A', k', c', e1, e2⟩ := hb.form
  obtain ⟨nm, vp, vk⟩ := p
  simp only at e1 e2
  subst e1 e2
  exact one_node nm A k c A' k' c' u hu
theorem Bk.new' (w : World) (t : TypeId) (cs : Array Value) {n : Nat} (h : w.heap.size = n) : Bk (w.alloc (.cells cs t)) n t cs := by subst h; exact Bk.new w t cs
theorem Bk.gr {W w' : World} {q g n c : Nat} {t : TypeId} {cs : Array Value} (h : Bk W q t cs) (hg : W.grownBy w' (Value.slice (some ⟨g, 0, none⟩) n c).ownBlock) (hne : q ≠ g) : Bk w' q t cs :=
  (hg.block q h.lt (fun e => hne (by injection e))).trans h
/-- An empty row that was just made. -/
theorem own_empty {w : World} {g H : Nat} {t : TypeId} {z : Nat} (h : Bk w g t #[]) (hH : H ≤ g) : w.ownsRow H t z (.slice (some ⟨g, 0, none⟩) 0 0) 0 [] :=
  ⟨by simp, .inr ⟨g, 0, #[], rfl, hH, h, Nat.le_refl _, by simp [maxLen], by simp, by simp⟩⟩
theorem boxa {W : World} {g : Nat} {nm : ByteArray} {vp vk : Value} (h : Bk W g 25 #[.string nm, vp, vk]) : W.cell? ⟨g, 0, none⟩ = some (.string nm) ∧ W.cell? ⟨g, 1, none⟩ = some vp ∧ W.cell? ⟨g, 2, none⟩ = some vk :=
  ⟨by simpa using h.cell 0, by simpa using h.cell 1, by simpa using h.cell 2⟩
theorem bk3 {W : World} {B : Nat} {t : TypeId} {x y z : Value} (h : Bk W B t #[x, y, z]) : (W.cell? ⟨B, 0, none⟩ = some x ∧ W.cell? ⟨B, 1, none⟩ = some y ∧ W.cell? ⟨B, 2, none⟩ = some z) ∧ W.frozen? ⟨B, 0, none⟩ = false ∧ W.frozen? ⟨B, 1, none⟩ = false ∧ W.frozen? ⟨B, 2, none⟩ = false :=
  ⟨⟨by simpa using h.cell 0, by simpa using h.cell 1, by simpa using h.cell 2⟩, h.free 0, h.free 1, h.free 2⟩
theorem own_alloc {w : World} {B : Nat} {e : TypeId} {size n : Nat} {x : Value} {xs : List Value} (h : w.ownsRow B e size x n xs) (o : Obj) : (w.alloc o).ownsRow B e size x n xs := own_below h (bw_alloc (Below.refl _ _) _)
theorem own_drew {w : World} {B : Nat} {e : TypeId} {size n : Nat} {x : Value} {xs : List Value} (h : w.ownsRow B e size x n xs) : w.drew.ownsRow B e size x n xs := own_below h (Below.drew (Below.refl _ _))
theorem own_gr {W w' : World} {B g n c k : Nat} {e t : TypeId} {size : Nat} {x : Value} {xs : List Value} (h : W.ownsRow B e size x k xs) (hb : Bk W g t #[]) (hg : W.grownBy w' (Value.slice (some ⟨g, 0, none⟩) n c).ownBlock) (hne : e ≠ t) : w'.ownsRow B e size x k xs :=
  h.kept hg (by
    by_cases hx : x.ownBlock = none
    · exact .inl hx
    · right
      intro e'
      exact own_bk_ne h hb hne (by rw [e']; rfl))
theorem cell_far2 {w : World} {g i j : Nat} {p : Addr} (h : p.block ≠ g) (u v : Value) : ((w.setCell ⟨g, i, none⟩ u).setCell ⟨g, j, none⟩ v).cell? p = w.cell? p :=
  World.cell?_of_block ((Below.heap_setCell _ _ _ p.block (fun e => h e)).trans (Below.heap_setCell _ _ _ p.block (fun e => h e)))
theorem cutq {p q : Prop} (h : p) (k : p → q) : q := k h
theorem at_append {P : Program} {w : World} {ops : Array Oper} {o : Oper} {a : Act} {K : Act → World → Prop} {Q : Exit → Act → World → Prop} {E : Prop} (s x : Operand) (t : TypeId)
    (ho : o.op = .call { callee := .builtin .append, args := #[s, x], argTypes := #[t, t] }) (h : if Region.wanted o (yielded ops a.tmps) = true then Oper.wp P o a w K Q else E) :
    if Region.wanted o (yielded ops a.tmps) = true then Oper.wp P o a w K Q else E := h
set_option maxHeartbeats 6400000 in
theorem rmerge_any (d : Nat) : ∀ (nm nm' : ByteArray) (vp vk up uk : Value) (a b : Nd) (φ : Nat → Prop) (M : Nat) (w : World), M ≤ 1099511627776 → szN d a + szN d b ≤ M → (∀ k, w.heap.size ≤ k → φ k) →
    NdAt φ w M d vp vk a → NdAt φ w M d up uk b → Calls Try.prog 10 #[.agg #[.string nm, vp, vk], .agg #[.string nm', up, uk]] w (MergeOut φ w M d nm (mergeN d a b)) := by
  induction d with
  | zero => intro nm nm' vp vk up uk a b φ M w hM hs hφ h; cases h
  | succ d ih =>
    intro nm nm' vp vk up uk a b φ M w hM hs hφ ha hb
    have IH := Lib.hid ih
    clear ih
    have hp := hb.1
    have hk := hb.2
    obtain ⟨psa, sla, hlaM, rela⟩ := ha.1
    obtain ⟨ksa, slk, hlkM, relk⟩ := ha.2
    obtain ⟨Aa, ca, rfl, -⟩ := id sla
    obtain ⟨Ak, ck, rfl, -⟩ := id slk
    obtain ⟨A, c, rfl, h1, h2, h3⟩ := hp.form
    obtain ⟨Bk', cbk, rfl, k1, k2, k3⟩ := hk.form
    have HP := Lib.hid hp
    have HK := Lib.hid hk
    have HS := Lib.hid hs
    have HF := Lib.hid hφ
    have SLA := Lib.hid sla
    have SLK := Lib.hid slk
    have RLA := Lib.hid rela
    have RLK := Lib.hid relk
    have hla := sz_props d a
    have hlb := sz_props d b
    have hka := sz_kids d a
    have hkb := sz_kids d b
    obtain ⟨i32, hi32, hz32, hs32, hb32⟩ := info_parts info32
    obtain ⟨i25, hi25, hz25, hs25, hb25⟩ := info_parts info25
    have I32 := Lib.hid (And.intro hi32 (And.intro hz32 (And.intro hs32 hb32)))
    have I25 := Lib.hid (And.intro hi25 (And.intro hz25 (And.intro hs25 hb25)))
    clear hi32 hz32 hs32 hb32 hi25 hz25 hs25 hb25 sla slk rela relk
    unfold maxLen at h2 k2
    generalize hN : b.props.length = N at *
    generalize hKN : b.kids.length = KN at *
    generalize hLA : a.props.length = LA at *
    generalize hKA : a.kids.length = KA at *
    have hLM : LA + N ≤ M := by omega
    have hKM : KA + KN ≤ M := by omega
    have HN := Lib.hid hN
    have HKN := Lib.hid hKN
    have HLA := Lib.hid hLA
    have HKA := Lib.hid hKA
    clear hN hKN hLA hKA hs hφ ha hb hp hk hla hlb hka hkb
    go_enter Try.func10, Try.ntmps10
    go_upto_region 1 with fail
    have HV0 : Hid (Bk (((w.alloc (.cells #[.string nm, .slice Aa LA ca, .slice Ak KA ck] 25)).alloc (.cells #[.string nm', .slice A N c, .slice Bk' KN cbk] 25)).alloc (.cells #[.string ⟨#[]⟩, .slice none 0 0, .slice none 0 0] 25)) w.heap.size 25 #[.string nm, .slice Aa LA ca, .slice Ak KA ck]) := ((Bk.new _ _ _).alloc _).alloc _
    have HV1 : Hid (Bk (((w.alloc (.cells #[.string nm, .slice Aa LA ca, .slice Ak KA ck] 25)).alloc (.cells #[.string nm', .slice A N c, .slice Bk' KN cbk] 25)).alloc (.cells #[.string ⟨#[]⟩, .slice none 0 0, .slice none 0 0] 25)) (w.heap.size + 1) 25 #[.string nm', .slice A N c, .slice Bk' KN cbk]) := (Bk.new' _ _ _ (by simp)).alloc _
    have HV2 : Hid (Bk (((w.alloc (.cells #[.string nm, .slice Aa LA ca, .slice Ak KA ck] 25)).alloc (.cells #[.string nm', .slice A N c, .slice Bk' KN cbk] 25)).alloc (.cells #[.string ⟨#[]⟩, .slice none 0 0, .slice none 0 0] 25)) (w.heap.size + 1 + 1) 25 #[.string ⟨#[]⟩, .slice none 0 0, .slice none 0 0]) := Bk.new' _ _ _ (by simp)
    have BV : Hid (Below w.heap.size w (((w.alloc (.cells #[.string nm, .slice Aa LA ca, .slice Ak KA ck] 25)).alloc (.cells #[.string nm', .slice A N c, .slice Bk' KN cbk] 25)).alloc (.cells #[.string ⟨#[]⟩, .slice none 0 0, .slice none 0 0] 25))) := bw_alloc (bw_alloc (bw_alloc (Below.refl _ _) _) _) _
    have hVs : (((w.alloc (.cells #[.string nm, .slice Aa LA ca, .slice Ak KA ck] 25)).alloc (.cells #[.string nm', .slice A N c, .slice Bk' KN cbk] 25)).alloc (.cells #[.string ⟨#[]⟩, .slice none 0 0, .slice none 0 0] 25)).heap.size = w.heap.size + 1 + 1 + 1 := by simp
    generalize ((w.alloc (.cells #[.string nm, .slice Aa LA ca, .slice Ak KA ck] 25)).alloc (.cells #[.string nm', .slice A N c, .slice Bk' KN cbk] 25)).alloc (.cells #[.string ⟨#[]⟩, .slice none 0 0, .slice none 0 0] 25) = V at *
    have HVS := Lib.hid hVs
    clear hVs
    go_cut [5] from 10 to 20 (fun s5 wx => ∃ (B1 : Nat) (vp vk : Value), s5 = .pointer (some ⟨B1, 0, none⟩) ∧ Hid (w.heap.size + 1 + 1 + 1 ≤ B1) ∧ Hid (Below w.heap.size w wx) ∧ Hid (Bk wx (w.heap.size + 1) 25 #[.string nm', .slice A N c, .slice Bk' KN cbk]) ∧
      Hid (Bk wx (w.heap.size + 1 + 1) 25 #[.string ⟨#[]⟩, .slice none 0 0, .slice none 0 0]) ∧ Hid (Out (fun k => φ k ∧ k ≠ w.heap.size + 1 + 1) w.heap.size (w.heap.size + 1 + 1 + 1) M d wx B1 nm vp vk a.props a.kids))
    have FIN0 : Hid (∀ (W : World) (B1 c5 c9 : Nat) (A5 A9 : Option Addr), Bk W B1 25 #[.string nm, .slice A5 LA c5, .slice A9 KA c9] → w.heap.size + 1 + 1 + 1 ≤ B1 → Below V.heap.size V W → W.ownsRow (w.heap.size + 1 + 1 + 1) 32 2 (.slice A5 LA c5) LA (pcs psa) → W.ownsRow (w.heap.size + 1 + 1 + 1) 25 3 (.slice A9 KA c9) KA (kcs ksa) → some B1 ≠ (Value.slice A9 KA c9).ownBlock →
          Hid (w.heap.size + 1 + 1 + 1 ≤ B1) ∧ Hid (Below w.heap.size w W) ∧ Hid (Bk W (w.heap.size + 1) 25 #[.string nm', .slice A N c, .slice Bk' KN cbk]) ∧ Hid (Bk W (w.heap.size + 1 + 1) 25 #[.string ⟨#[]⟩, .slice none 0 0, .slice none 0 0]) ∧
          Hid (Out (fun k => φ k ∧ k ≠ w.heap.size + 1 + 1) w.heap.size (w.heap.size + 1 + 1 + 1) M d W B1 nm (.slice A5 LA c5) (.slice A9 KA c9) a.props a.kids)) := by
      intro W B1 c5 c9 A5 A9 hb h1 hbel o5 o9 n9
      have hs := HVS.out
      have hw : Below w.heap.size w W := bw_trans BV.out hbel
      have hC : ∀ k, k < w.heap.size → φ k → Cold (fun k => φ k ∧ k ≠ w.heap.size + 1 + 1) B1 (.slice A5 LA c5) (.slice A9 KA c9) k := fun k hk hp =>
        ⟨⟨hp, by omega⟩, by omega, fun e => by have := (o5.lt k e.symm).1; omega, fun e => by have := (o9.lt k e.symm).1; omega⟩
      refine ⟨h1, hw, HV1.out.below hbel, HV2.out.below hbel, ⟨by omega, by omega, by have := hbel.size; omega, hb, n9, ⟨psa, ?_, RLA.out.mono fun _ _ _ hr => hr.keep (Kp.below _ hw) hC (Nat.le_refl _)⟩, ⟨ksa, ?_, RLK.out.mono fun _ _ _ hr => hr.keep (Kp.below _ hw) hC⟩⟩⟩
      · rw [HLA.out]; exact o5
      · rw [HKA.out]; exact o9
    have FINA : Hid (∀ (W : World) (B1 c5 c9 : Nat) (A5 A9 : Option Addr), B1 = W.heap.size → Below V.heap.size V W → W.ownsRow (w.heap.size + 1 + 1 + 1) 32 2 (.slice A5 LA c5) LA (pcs psa) → W.ownsRow (w.heap.size + 1 + 1 + 1) 25 3 (.slice A9 KA c9) KA (kcs ksa) →
          Hid (w.heap.size + 1 + 1 + 1 ≤ B1) ∧ Hid (Below w.heap.size w (W.alloc (.cells #[.string nm, .slice A5 LA c5, .slice A9 KA c9] 25))) ∧ Hid (Bk (W.alloc (.cells #[.string nm, .slice A5 LA c5, .slice A9 KA c9] 25)) (w.heap.size + 1) 25 #[.string nm', .slice A N c, .slice Bk' KN cbk]) ∧ Hid (Bk (W.alloc (.cells #[.string nm, .slice A5 LA c5, .slice A9 KA c9] 25)) (w.heap.size + 1 + 1) 25 #[.string ⟨#[]⟩, .slice none 0 0, .slice none 0 0]) ∧
          Hid (Out (fun k => φ k ∧ k ≠ w.heap.size + 1 + 1) w.heap.size (w.heap.size + 1 + 1 + 1) M d (W.alloc (.cells #[.string nm, .slice A5 LA c5, .slice A9 KA c9] 25)) B1 nm (.slice A5 LA c5) (.slice A9 KA c9) a.props a.kids)) := by
      intro W B1 c5 c9 A5 A9 e hbel o5 o9
      subst e
      exact FIN0.out _ _ _ _ _ _ (Bk.new _ _ _) (by have := HVS.out; have := hbel.size; omega) (bw_alloc hbel _) (own_alloc o5 _) (own_alloc o9 _) (fun e => by have := (o9.lt _ e.symm).2; omega)
    have FINB : Hid (∀ (W : World) (B1 c5 c9 : Nat) (A5 A9 : Option Addr), Bk W B1 25 #[.string ⟨#[]⟩, .slice none 0 0, .slice none 0 0] → w.heap.size + 1 + 1 + 1 ≤ B1 → Below V.heap.size V W → W.ownsRow (w.heap.size + 1 + 1 + 1) 32 2 (.slice A5 LA c5) LA (pcs psa) → W.ownsRow (w.heap.size + 1 + 1 + 1) 25 3 (.slice A9 KA c9) KA (kcs ksa) → some B1 ≠ (Value.slice A9 KA c9).ownBlock →
          Hid (w.heap.size + 1 + 1 + 1 ≤ B1) ∧ Hid (Below w.heap.size w (((W.setCell ⟨B1, 0, none⟩ (.string nm)).setCell ⟨B1, 1, none⟩ (.slice A5 LA c5)).setCell ⟨B1, 2, none⟩ (.slice A9 KA c9))) ∧ Hid (Bk (((W.setCell ⟨B1, 0, none⟩ (.string nm)).setCell ⟨B1, 1, none⟩ (.slice A5 LA c5)).setCell ⟨B1, 2, none⟩ (.slice A9 KA c9)) (w.heap.size + 1) 25 #[.string nm', .slice A N c, .slice Bk' KN cbk]) ∧ Hid (Bk (((W.setCell ⟨B1, 0, none⟩ (.string nm)).setCell ⟨B1, 1, none⟩ (.slice A5 LA c5)).setCell ⟨B1, 2, none⟩ (.slice A9 KA c9)) (w.heap.size + 1 + 1) 25 #[.string ⟨#[]⟩, .slice none 0 0, .slice none 0 0]) ∧
          Hid (Out (fun k => φ k ∧ k ≠ w.heap.size + 1 + 1) w.heap.size (w.heap.size + 1 + 1 + 1) M d (((W.setCell ⟨B1, 0, none⟩ (.string nm)).setCell ⟨B1, 1, none⟩ (.slice A5 LA c5)).setCell ⟨B1, 2, none⟩ (.slice A9 KA c9)) B1 nm (.slice A5 LA c5) (.slice A9 KA c9) a.props a.kids)) := by
      intro W B1 c5 c9 A5 A9 hb h1 hbel o5 o9 n9
      have hs := HVS.out
      have n5 := own_bk_ne o5 hb (by decide)
      have hbf : Bk (((W.setCell ⟨B1, 0, none⟩ (.string nm)).setCell ⟨B1, 1, none⟩ (.slice A5 LA c5)).setCell ⟨B1, 2, none⟩ (.slice A9 KA c9)) B1 25 #[.string nm, .slice A5 LA c5, .slice A9 KA c9] := by
        have := ((hb.set 0 (.string nm)).set 1 (.slice A5 LA c5)).set 2 (.slice A9 KA c9)
        simpa using this
      exact FIN0.out _ _ _ _ _ _ hbf h1 (bw_set (bw_set (bw_set hbel (by show V.heap.size ≤ B1; omega) hbel.size _) (by show V.heap.size ≤ B1; omega) (by have := hbel.size; simp; omega) _) (by show V.heap.size ≤ B1; omega) (by have := hbel.size; simp; omega) _)
        (own_setb (own_setb (own_setb o5 n5 _) n5 _) n5 _) (own_setb (own_setb (own_setb o9 n9 _) n9 _) n9 _) n9
    case first =>
      go_region_held3 (fun w' => w'.cell? ⟨w.heap.size, 0, none⟩ = some (.string nm) ∧ w'.cell? ⟨w.heap.size, 1, none⟩ = some (.slice Aa LA ca) ∧ w'.cell? ⟨w.heap.size, 2, none⟩ = some (.slice Ak KA ck))
        (exact boxa (by repeat (first | with_reducible exact HV0.out | ((with_reducible refine Bk.gr ?_ G5.out ?_); rotate_left; exact (by have := HVS.out; first | omega | (simp; done) | (simp; omega))) | ((with_reducible refine Bk.gr ?_ G9.out ?_); rotate_left; exact (by have := HVS.out; first | omega | (simp; done) | (simp; omega))) | ((with_reducible refine bk_set ?_ ?_ _); rotate_left; exact (by have := HVS.out; first | omega | (simp; done) | (simp; omega))) | with_reducible apply Bk.alloc | with_reducible apply Bk.drew)))
        (first
          | (with_reducible refine at_append (.tmp 12) (.tmp 14) 22 rfl ?_
             refine step_append_sl _ rfl (.tmp 12) (.tmp 14) 22 rfl (w.heap.size + 1 + 1 + 1) 32 i32 (.agg #[.string ByteArray.empty, .slice none 0 0]) 2 40 Try.underlying22 I32.out.1 I32.out.2.1 I32.out.2.2.1 I32.out.2.2.2 rfl (by decide) (.slice (some ⟨_, 0, none⟩) 0 0) 0 [] (by rfl) (own_empty (by repeat (first | ((with_reducible refine Bk.new' _ _ _ ?_); simp; done) | ((with_reducible refine Bk.gr ?_ G5.out ?_); rotate_left; exact (by have := HVS.out; first | omega | (simp; done) | (simp; omega))) | ((with_reducible refine Bk.gr ?_ G9.out ?_); rotate_left; exact (by have := HVS.out; first | omega | (simp; done) | (simp; omega))) | with_reducible apply Bk.alloc | with_reducible apply Bk.drew)) (by have := HVS.out; first | omega | (simp; done) | (simp; omega))) φ Aa LA ca (pcs psa) rfl (SLA.out.keep (Kp.below _ (bw_trans BV.out (by repeat (first | with_reducible exact BL5.out | with_reducible exact BL9.out | with_reducible exact Below.refl _ _ | with_reducible apply Below.drew | with_reducible apply bw_alloc)))) (fun _ _ h => h)) (SlAt.one2 RLA.out) (by simp only [maxLen]; omega) (by omega) (by have := HVS.out; first | omega | (simp; done) | (simp; omega)) ?_
             intro A5 c5 w5 own5 hg5 hat5
             have O5 : Hid (w5.ownsRow (w.heap.size + 1 + 1 + 1) 32 2 (.slice A5 LA c5) LA (pcs psa)) := Lib.hid (by simpa using own5)
             have BL5 : Hid (Below V.heap.size V w5) := Lib.hid (Below.grown (by repeat (first | with_reducible exact BL5.out | with_reducible exact BL9.out | with_reducible exact Below.refl _ _ | with_reducible apply Below.drew | with_reducible apply bw_alloc)) hg5 (by first | omega | (simp; done) | (simp; omega)) (by rintro k ⟨⟩; first | omega | (simp; done) | (simp; omega)))
             have lz5 := hg5.size
             (try simp at lz5)
             simp only [Nat.zero_add] at hat5; have G5 := Lib.hid hg5; have P5 := Lib.hid hat5; clear own5 hg5 hat5
             (first | (refine cutq (p := Bk w5 V.heap.size 25 #[.string ⟨#[]⟩, .slice none 0 0, .slice none 0 0]) ?_ ?_; (focus ((repeat (first | ((with_reducible refine Bk.new' _ _ _ ?_); simp; done) | ((with_reducible refine Bk.gr ?_ G5.out ?_); rotate_left; exact (by have := HVS.out; first | omega | (simp; done) | (simp; omega))) | ((with_reducible refine Bk.gr ?_ G9.out ?_); rotate_left; exact (by have := HVS.out; first | omega | (simp; done) | (simp; omega))) | with_reducible apply Bk.alloc | with_reducible apply Bk.drew)); done)); intro bxq; obtain ⟨⟨bx0, bx1, bx2⟩, bf0, bf1, bf2⟩ := bk3 bxq; clear bxq) | (refine cutq (p := Bk w5 (V.heap.size + 1) 25 #[.string ⟨#[]⟩, .slice none 0 0, .slice none 0 0]) ?_ ?_; (focus ((repeat (first | ((with_reducible refine Bk.new' _ _ _ ?_); simp; done) | ((with_reducible refine Bk.gr ?_ G5.out ?_); rotate_left; exact (by have := HVS.out; first | omega | (simp; done) | (simp; omega))) | ((with_reducible refine Bk.gr ?_ G9.out ?_); rotate_left; exact (by have := HVS.out; first | omega | (simp; done) | (simp; omega))) | with_reducible apply Bk.alloc | with_reducible apply Bk.drew)); done)); intro bxq; obtain ⟨⟨bx0, bx1, bx2⟩, bf0, bf1, bf2⟩ := bk3 bxq; clear bxq) | (refine cutq (p := Bk w5 (V.heap.size + 1 + 1) 25 #[.string ⟨#[]⟩, .slice none 0 0, .slice none 0 0]) ?_ ?_; (focus ((repeat (first | ((with_reducible refine Bk.new' _ _ _ ?_); simp; done) | ((with_reducible refine Bk.gr ?_ G5.out ?_); rotate_left; exact (by have := HVS.out; first | omega | (simp; done) | (simp; omega))) | ((with_reducible refine Bk.gr ?_ G9.out ?_); rotate_left; exact (by have := HVS.out; first | omega | (simp; done) | (simp; omega))) | with_reducible apply Bk.alloc | with_reducible apply Bk.drew)); done)); intro bxq; obtain ⟨⟨bx0, bx1, bx2⟩, bf0, bf1, bf2⟩ := bk3 bxq; clear bxq) | (refine cutq (p := Bk w5 w9.heap.size 25 #[.string ⟨#[]⟩, .slice none 0 0, .slice none 0 0]) ?_ ?_; (focus ((repeat (first | ((with_reducible refine Bk.new' _ _ _ ?_); simp; done) | ((with_reducible refine Bk.gr ?_ G5.out ?_); rotate_left; exact (by have := HVS.out; first | omega | (simp; done) | (simp; omega))) | ((with_reducible refine Bk.gr ?_ G9.out ?_); rotate_left; exact (by have := HVS.out; first | omega | (simp; done) | (simp; omega))) | with_reducible apply Bk.alloc | with_reducible apply Bk.drew)); done)); intro bxq; obtain ⟨⟨bx0, bx1, bx2⟩, bf0, bf1, bf2⟩ := bk3 bxq; clear bxq) | (refine cutq (p := Bk w5 (w9.heap.size + 1) 25 #[.string ⟨#[]⟩, .slice none 0 0, .slice none 0 0]) ?_ ?_; (focus ((repeat (first | ((with_reducible refine Bk.new' _ _ _ ?_); simp; done) | ((with_reducible refine Bk.gr ?_ G5.out ?_); rotate_left; exact (by have := HVS.out; first | omega | (simp; done) | (simp; omega))) | ((with_reducible refine Bk.gr ?_ G9.out ?_); rotate_left; exact (by have := HVS.out; first | omega | (simp; done) | (simp; omega))) | with_reducible apply Bk.alloc | with_reducible apply Bk.drew)); done)); intro bxq; obtain ⟨⟨bx0, bx1, bx2⟩, bf0, bf1, bf2⟩ := bk3 bxq; clear bxq) | skip))
          | (with_reducible refine at_append (.tmp 16) (.tmp 18) 23 rfl ?_
             refine step_append_sl _ rfl (.tmp 16) (.tmp 18) 23 rfl (w.heap.size + 1 + 1 + 1) 25 i25 (.agg #[.string ByteArray.empty, .slice none 0 0, .slice none 0 0]) 3 64 Try.underlying23 I25.out.1 I25.out.2.1 I25.out.2.2.1 I25.out.2.2.2 rfl (by decide) (.slice (some ⟨_, 0, none⟩) 0 0) 0 [] (by rfl) (own_empty (by repeat (first | ((with_reducible refine Bk.new' _ _ _ ?_); simp; done) | ((with_reducible refine Bk.gr ?_ G5.out ?_); rotate_left; exact (by have := HVS.out; first | omega | (simp; done) | (simp; omega))) | ((with_reducible refine Bk.gr ?_ G9.out ?_); rotate_left; exact (by have := HVS.out; first | omega | (simp; done) | (simp; omega))) | with_reducible apply Bk.alloc | with_reducible apply Bk.drew)) (by have := HVS.out; first | omega | (simp; done) | (simp; omega))) φ Ak KA ck (kcs ksa) rfl (SLK.out.keep (Kp.below _ (bw_trans BV.out (by repeat (first | with_reducible exact BL5.out | with_reducible exact BL9.out | with_reducible exact Below.refl _ _ | with_reducible apply Below.drew | with_reducible apply bw_alloc)))) (fun _ _ h => h)) (SlAt.one3 RLK.out) (by simp only [maxLen]; omega) (by omega) (by have := HVS.out; first | omega | (simp; done) | (simp; omega)) ?_
             intro A9 c9 w9 own9 hg9 hat9
             have O9 : Hid (w9.ownsRow (w.heap.size + 1 + 1 + 1) 25 3 (.slice A9 KA c9) KA (kcs ksa)) := Lib.hid (by simpa using own9)
             have BL9 : Hid (Below V.heap.size V w9) := Lib.hid (Below.grown (by repeat (first | with_reducible exact BL5.out | with_reducible exact BL9.out | with_reducible exact Below.refl _ _ | with_reducible apply Below.drew | with_reducible apply bw_alloc)) hg9 (by first | omega | (simp; done) | (simp; omega)) (by rintro k ⟨⟩; first | omega | (simp; done) | (simp; omega)))
             have lz9 := hg9.size
             (try simp at lz9)
             simp only [Nat.zero_add] at hat9; have G9 := Lib.hid hg9; have P9 := Lib.hid hat9; clear own9 hg9 hat9
             (first | (refine cutq (p := Bk w9 V.heap.size 25 #[.string ⟨#[]⟩, .slice none 0 0, .slice none 0 0]) ?_ ?_; (focus ((repeat (first | ((with_reducible refine Bk.new' _ _ _ ?_); simp; done) | ((with_reducible refine Bk.gr ?_ G5.out ?_); rotate_left; exact (by have := HVS.out; first | omega | (simp; done) | (simp; omega))) | ((with_reducible refine Bk.gr ?_ G9.out ?_); rotate_left; exact (by have := HVS.out; first | omega | (simp; done) | (simp; omega))) | with_reducible apply Bk.alloc | with_reducible apply Bk.drew)); done)); intro bxq; obtain ⟨⟨bx0, bx1, bx2⟩, bf0, bf1, bf2⟩ := bk3 bxq; clear bxq) | (refine cutq (p := Bk w9 (V.heap.size + 1) 25 #[.string ⟨#[]⟩, .slice none 0 0, .slice none 0 0]) ?_ ?_; (focus ((repeat (first | ((with_reducible refine Bk.new' _ _ _ ?_); simp; done) | ((with_reducible refine Bk.gr ?_ G5.out ?_); rotate_left; exact (by have := HVS.out; first | omega | (simp; done) | (simp; omega))) | ((with_reducible refine Bk.gr ?_ G9.out ?_); rotate_left; exact (by have := HVS.out; first | omega | (simp; done) | (simp; omega))) | with_reducible apply Bk.alloc | with_reducible apply Bk.drew)); done)); intro bxq; obtain ⟨⟨bx0, bx1, bx2⟩, bf0, bf1, bf2⟩ := bk3 bxq; clear bxq) | (refine cutq (p := Bk w9 (V.heap.size + 1 + 1) 25 #[.string ⟨#[]⟩, .slice none 0 0, .slice none 0 0]) ?_ ?_; (focus ((repeat (first | ((with_reducible refine Bk.new' _ _ _ ?_); simp; done) | ((with_reducible refine Bk.gr ?_ G5.out ?_); rotate_left; exact (by have := HVS.out; first | omega | (simp; done) | (simp; omega))) | ((with_reducible refine Bk.gr ?_ G9.out ?_); rotate_left; exact (by have := HVS.out; first | omega | (simp; done) | (simp; omega))) | with_reducible apply Bk.alloc | with_reducible apply Bk.drew)); done)); intro bxq; obtain ⟨⟨bx0, bx1, bx2⟩, bf0, bf1, bf2⟩ := bk3 bxq; clear bxq) | (refine cutq (p := Bk w9 w5.heap.size 25 #[.string ⟨#[]⟩, .slice none 0 0, .slice none 0 0]) ?_ ?_; (focus ((repeat (first | ((with_reducible refine Bk.new' _ _ _ ?_); simp; done) | ((with_reducible refine Bk.gr ?_ G5.out ?_); rotate_left; exact (by have := HVS.out; first | omega | (simp; done) | (simp; omega))) | ((with_reducible refine Bk.gr ?_ G9.out ?_); rotate_left; exact (by have := HVS.out; first | omega | (simp; done) | (simp; omega))) | with_reducible apply Bk.alloc | with_reducible apply Bk.drew)); done)); intro bxq; obtain ⟨⟨bx0, bx1, bx2⟩, bf0, bf1, bf2⟩ := bk3 bxq; clear bxq) | (refine cutq (p := Bk w9 (w5.heap.size + 1) 25 #[.string ⟨#[]⟩, .slice none 0 0, .slice none 0 0]) ?_ ?_; (focus ((repeat (first | ((with_reducible refine Bk.new' _ _ _ ?_); simp; done) | ((with_reducible refine Bk.gr ?_ G5.out ?_); rotate_left; exact (by have := HVS.out; first | omega | (simp; done) | (simp; omega))) | ((with_reducible refine Bk.gr ?_ G9.out ?_); rotate_left; exact (by have := HVS.out; first | omega | (simp; done) | (simp; omega))) | with_reducible apply Bk.alloc | with_reducible apply Bk.drew)); done)); intro bxq; obtain ⟨⟨bx0, bx1, bx2⟩, bf0, bf1, bf2⟩ := bk3 bxq; clear bxq) | skip)))
      all_goals
        go_wp2_with fail
        go_meet
        case rel =>
          first
            | exact ⟨_, _, _, rfl, FINA.out _ _ _ _ _ _ (by simp) (by repeat (first | with_reducible exact BL5.out | with_reducible exact BL9.out | with_reducible exact Below.refl _ _ | with_reducible apply Below.drew | with_reducible apply bw_alloc)) (by repeat (first | with_reducible exact O5.out | ((with_reducible refine own_gr (t := 25) ?_ ?_ G9.out ?_); rotate_left; exact (by repeat (first | ((with_reducible refine Bk.new' _ _ _ ?_); simp; done) | ((with_reducible refine Bk.gr ?_ G5.out ?_); rotate_left; exact (by have := HVS.out; first | omega | (simp; done) | (simp; omega))) | ((with_reducible refine Bk.gr ?_ G9.out ?_); rotate_left; exact (by have := HVS.out; first | omega | (simp; done) | (simp; omega))) | with_reducible apply Bk.alloc | with_reducible apply Bk.drew)); exact (by decide)) | with_reducible apply own_alloc | with_reducible apply own_drew)) (by repeat (first | with_reducible exact O9.out | ((with_reducible refine own_gr (t := 32) ?_ ?_ G5.out ?_); rotate_left; exact (by repeat (first | ((with_reducible refine Bk.new' _ _ _ ?_); simp; done) | ((with_reducible refine Bk.gr ?_ G5.out ?_); rotate_left; exact (by have := HVS.out; first | omega | (simp; done) | (simp; omega))) | ((with_reducible refine Bk.gr ?_ G9.out ?_); rotate_left; exact (by have := HVS.out; first | omega | (simp; done) | (simp; omega))) | with_reducible apply Bk.alloc | with_reducible apply Bk.drew)); exact (by decide)) | with_reducible apply own_alloc | with_reducible apply own_drew))⟩
            | exact ⟨_, _, _, rfl, FINB.out _ _ _ _ _ _ (by repeat (first | ((with_reducible refine Bk.new' _ _ _ ?_); simp; done) | ((with_reducible refine Bk.gr ?_ G5.out ?_); rotate_left; exact (by have := HVS.out; first | omega | (simp; done) | (simp; omega))) | ((with_reducible refine Bk.gr ?_ G9.out ?_); rotate_left; exact (by have := HVS.out; first | omega | (simp; done) | (simp; omega))) | with_reducible apply Bk.alloc | with_reducible apply Bk.drew)) (by have := HVS.out; first | omega | (simp; done) | (simp; omega)) (by repeat (first | with_reducible exact BL5.out | with_reducible exact BL9.out | with_reducible exact Below.refl _ _ | with_reducible apply Below.drew | with_reducible apply bw_alloc)) (by repeat (first | with_reducible exact O5.out | ((with_reducible refine own_gr (t := 25) ?_ ?_ G9.out ?_); rotate_left; exact (by repeat (first | ((with_reducible refine Bk.new' _ _ _ ?_); simp; done) | ((with_reducible refine Bk.gr ?_ G5.out ?_); rotate_left; exact (by have := HVS.out; first | omega | (simp; done) | (simp; omega))) | ((with_reducible refine Bk.gr ?_ G9.out ?_); rotate_left; exact (by have := HVS.out; first | omega | (simp; done) | (simp; omega))) | with_reducible apply Bk.alloc | with_reducible apply Bk.drew)); exact (by decide)) | with_reducible apply own_alloc | with_reducible apply own_drew)) (by repeat (first | with_reducible exact O9.out | ((with_reducible refine own_gr (t := 32) ?_ ?_ G5.out ?_); rotate_left; exact (by repeat (first | ((with_reducible refine Bk.new' _ _ _ ?_); simp; done) | ((with_reducible refine Bk.gr ?_ G5.out ?_); rotate_left; exact (by have := HVS.out; first | omega | (simp; done) | (simp; omega))) | ((with_reducible refine Bk.gr ?_ G9.out ?_); rotate_left; exact (by have := HVS.out; first | omega | (simp; done) | (simp; omega))) | with_reducible apply Bk.alloc | with_reducible apply Bk.drew)); exact (by decide)) | with_reducible apply own_alloc | with_reducible apply own_drew)) (by intro e; have h1 := (O9.out.lt _ e.symm).2; rcases P9.out with h | h <;> (have h2 := e.trans h; first | (simp [Value.ownBlock] at h2; done) | (simp [Value.ownBlock] at h2; omega)))⟩
    case rest =>
      obtain ⟨B1, vp, vk, rfl, HB1, BWA, HAA, HRA, OU1⟩ := hcut
      generalize wc = W1 at *
      have a1 : W1.cell? ⟨w.heap.size + 1, 1, none⟩ = some (.slice A N c) := by simpa using HAA.out.cell 1
      go_wp2_with fail
      clear a1
      go_loopg [24] N (fun gg s24 wr => ∃ (k : Nat) (vp : Value), k ≤ N ∧ N - k ≤ gg ∧ s24 = .int .i64 k ∧ Hid (Below w.heap.size w wr) ∧ Hid (Bk wr (w.heap.size + 1) 25 #[.string nm', .slice A N c, .slice Bk' KN cbk]) ∧
        Hid (Bk wr (w.heap.size + 1 + 1) 25 #[.string ⟨#[]⟩, .slice none 0 0, .slice none 0 0]) ∧ Hid (Out (fun k => φ k ∧ k ≠ w.heap.size + 1 + 1) w.heap.size (w.heap.size + 1 + 1 + 1) M d wr B1 nm vp vk (mprops a b k) a.kids))
      case atStart => exact ⟨0, _, Nat.zero_le _, by omega, rfl, BWA, HAA, HRA, OU1⟩
      case round =>
        clear OU1 BWA HAA HRA
        obtain ⟨k, vp, hk, hg, rfl, BW, HA, HR, OU⟩ := hrel
        by_cases hlt : k < N
        · have hq : b.props[k]? = some (b.props[k]'(by rw [HN.out]; exact hlt)) := List.getElem?_eq_getElem _
          generalize b.props[k]'(by rw [HN.out]; exact hlt) = q at hq
          obtain ⟨ad, bv, rfl, _, c0, c1, qs, qb⟩ := (HP.out.keep (Kp.below φ BW.out) (fun _ _ h => h) (Nat.le_refl _)).at_ hq
          have QB : Hid (ByAt (fun k => φ k ∧ k < w.heap.size) wr M bv q.2) := by
            obtain ⟨ad', bv', e, _, _, d1, _, qn'⟩ := (HP.out.keep (ψ := fun k => φ k ∧ k < w.heap.size) (Kp.refl _ w) (fun k hk h => ⟨h, hk⟩) (Nat.le_refl _)).at_ hq
            injection e with e
            subst e
            have f1 := (BW.out.cell (World.block_lt_of_cell? _ _ d1)).trans d1
            rw [c1] at f1
            injection f1 with f1
            subst f1
            exact qn'.keep (Kp.below _ BW.out) (fun _ _ h => h) (Nat.le_refl _)
          have had : Hid (ad.block < w.heap.size) := by
            obtain ⟨ad', bv', e, _, d0, _⟩ := HP.out.at_ hq
            injection e with e
            subst e
            have := World.block_lt_of_cell? _ _ d0
            rw [add_block] at this
            exact this
          obtain ⟨Ab, nb, cb, rfl⟩ := QB.out.form
          have HQ := Lib.hid hq
          have QS := Lib.hid qs
          clear hq qs qb
          obtain ⟨s, y⟩ := q
          simp only at c0
          have hL := mprops_len a b k
          rw [HLA.out] at hL
          have hL' : (mprops a b k).length ≤ M := by omega
          obtain ⟨ps, pOwn, pRel⟩ := OU.out.ps
          have KIX := Lib.hid (fun (n : Nat) (os : Array Obj) => find_any nm s vp vk _ M (by omega) (mprops a b k) (grow (wr.drewN n) os) ((OU.out.below (Gr.below ⟨n, os, rfl⟩)).pr (fun k h => ⟨HF.out k (by omega), by omega⟩) hL'))
          have hMS := Lib.hid (fun h => props_miss (a := a) (b := b) HQ.out h)
          have hHT := Lib.hid (fun i h => props_hit (a := a) (b := b) (i := i) HQ.out h)
          have hbd := at_bounds Prod.fst s (mprops a b k)
          simp only at hMS hHT
          generalize at_ Prod.fst s (mprops a b k) = r at KIX hMS hHT hbd
          obtain ⟨L, hLL⟩ : ∃ L, L = (mprops a b k).length := ⟨_, rfl⟩
          rw [← hLL] at hL hL' hbd pOwn
          have HLL := Lib.hid hLL
          clear hLL
          obtain ⟨A3, c3, rfl⟩ := own_shape pOwn
          obtain ⟨Ax, Lx, cx, hvk⟩ : ∃ A n c, vk = .slice A n c := by
            obtain ⟨ks, kOwn, _⟩ := OU.out.ks
            obtain ⟨A, c, h⟩ := own_shape kOwn
            exact ⟨_, _, _, h⟩
          have HVK := Lib.hid hvk
          clear hvk
          have PO := Lib.hid pOwn
          have PR := Lib.hid pRel
          clear pOwn pRel
          have C0 := fun m os => cell_grown (World.block_lt_of_cell? _ _ c0) c0 m os
          have x0 : wr.cell? ⟨B1, 0, none⟩ = some (.string nm) := by simpa using OU.out.box.cell 0
          have x1 : wr.cell? ⟨B1, 1, none⟩ = some (.slice A3 L c3) := by simpa using OU.out.box.cell 1
          have x2 : wr.cell? ⟨B1, 2, none⟩ = some vk := by simpa using OU.out.box.cell 2
          have x3 : wr.cell? ⟨w.heap.size + 1, 1, none⟩ = some (.slice (some ad) N c) := by simpa using HA.out.cell 1
          have X0 := fun m os => cell_grown (World.block_lt_of_cell? _ _ x0) x0 m os
          have X1 := fun m os => cell_grown (World.block_lt_of_cell? _ _ x1) x1 m os
          have X2 := fun m os => cell_grown (World.block_lt_of_cell? _ _ x2) x2 m os
          have X3 := fun m os => cell_grown (World.block_lt_of_cell? _ _ x3) x3 m os
          have mixed : Try.prog.follows .mixedOrders = true := by kernel_rfl
          have CC0 := Lib.hid c0
          have CC1 := Lib.hid c1
          clear x0 x1 x2 x3 c0 c1
          go_wp2_with fail
          go_quiet_grown ((go_at_call 12; exact Calls.grown_of (KIX.out _ _)))
          have BEL4 : Hid (Below wr.heap.size wr (grow (wr.drewN nq) osq)) := Gr.below ⟨nq, osq, rfl⟩
          generalize grow (wr.drewN nq) osq = w4 at *
          have OU4 := Lib.hid (OU.out.below BEL4.out)
          have PO4 := Lib.hid (own_below PO.out BEL4.out)
          have PR4 := Lib.hid (PR.out.mono fun _ _ _ hr => hr.keep (Kp.below _ BEL4.out) (fun _ _ h => h) (Nat.le_refl _))
          have HA4 := Lib.hid (HA.out.below BEL4.out)
          have HR4 := Lib.hid (HR.out.below BEL4.out)
          have BW4 := Lib.hid (bw_trans BW.out BEL4.out)
          have QB4 := Lib.hid (QB.out.keep (Kp.below _ BEL4.out) (fun _ _ h => h) (Nat.le_refl _))
          have q0 := cell_stays BEL4.out CC0.out
          have q1 := cell_stays BEL4.out CC1.out
          clear KIX OU PO PR HA HR BW BEL4 QB C0 X0 X1 X2 X3 CC0 CC1
          have d4 : w4.cell? ⟨B1, 1, none⟩ = some (.slice A3 L c3) := by simpa using OU4.out.box.cell 1
          have d5 : w4.cell? ⟨w.heap.size + 1, 1, none⟩ = some (.slice (some ad) N c) := by simpa using HA4.out.cell 1
          have QO : Hid (∀ k', φ k' ∧ k' < w.heap.size → Cold (fun k => φ k ∧ k ≠ w.heap.size + 1 + 1) B1 (.slice A3 L c3) vk k') := Lib.hid fun k' hk' =>
            OU4.out.old hk'.2 ⟨hk'.1, by have := hk'.2; omega⟩
          by_cases hr : r < 0
          · obtain rfl : r = -1 := by omega
            have hnx := Lib.hid (hMS.out hr)
            clear hr hbd hMS hHT
            have FIN : Hid (∀ (W0 : World), Below w4.heap.size w4 W0 → ∀ (g c6 : Nat) (w6 : World), w6.ownsRow (w.heap.size + 1 + 1 + 1) 32 2 (.slice (some ⟨g, 0, none⟩) (L + 1) c6) (L + 1) (pcs ps ++ [.string s, .slice Ab nb cb]) →
                W0.grownBy w6 (Value.slice A3 L c3).ownBlock → ((Value.slice A3 L c3).ownBlock = some g ∨ g = W0.heap.size) →
                Hid (Below w.heap.size w (w6.setCell ⟨B1, 1, none⟩ (.slice (some ⟨g, 0, none⟩) (L + 1) c6))) ∧
                Hid (Bk (w6.setCell ⟨B1, 1, none⟩ (.slice (some ⟨g, 0, none⟩) (L + 1) c6)) (w.heap.size + 1) 25 #[.string nm', .slice (some ad) N c, .slice Bk' KN cbk]) ∧
                Hid (Bk (w6.setCell ⟨B1, 1, none⟩ (.slice (some ⟨g, 0, none⟩) (L + 1) c6)) (w.heap.size + 1 + 1) 25 #[.string ⟨#[]⟩, .slice none 0 0, .slice none 0 0]) ∧
                Hid (Out (fun k => φ k ∧ k ≠ w.heap.size + 1 + 1) w.heap.size (w.heap.size + 1 + 1 + 1) M d (w6.setCell ⟨B1, 1, none⟩ (.slice (some ⟨g, 0, none⟩) (L + 1) c6)) B1 nm (.slice (some ⟨g, 0, none⟩) (L + 1) c6) vk (mprops a b (k + 1)) a.kids)) := by
              intro W0 hbl g c6 w6 own6 hg6 hat6
              have OU3 := OU4.out.below hbl
              have own3 := own_below PO4.out hbl
              have hO := OU3.snocP (PR4.out.mono fun _ _ _ hr => hr.keep (Kp.below _ hbl) (fun _ _ h => h) (Nat.le_refl _)) (s := s) (bv := .slice Ab nb cb) (q := (s, y)) (by rw [← HLL.out]; exact own6) hg6 hat6
                ⟨rfl, QS.out, QB4.out.keep (Kp.below _ hbl) (fun k _ hk => QO.out k hk) (Nat.le_refl _)⟩
              rw [← hnx.out] at hO
              have A6 := bk_grown (HA4.out.below hbl) own3 (by omega) hg6
              have R6 := bk_grown (HR4.out.below hbl) own3 (by omega) hg6
              exact ⟨bw_set ((bw_trans BW4.out hbl).grown hg6 (by have := OU3.hS; omega) (fun q hq => by have := (own3.lt q hq).1; omega)) (a := ⟨B1, 1, none⟩) (by show w.heap.size ≤ B1; have := HB1.out; omega) (by have := hg6.size; have := OU3.hS; omega) _,
                bk_set A6 (a := ⟨B1, 1, none⟩) (by show w.heap.size + 1 ≠ B1; have := HB1.out; omega) _, bk_set R6 (a := ⟨B1, 1, none⟩) (by show w.heap.size + 1 + 1 ≠ B1; have := HB1.out; omega) _, hO⟩
            have d6 : ∀ o, (w4.alloc o).cell? ⟨B1, 1, none⟩ = some (.slice A3 L c3) := fun o => by simpa using (OU4.out.box.alloc o).cell 1
            have ONE := Lib.hid (one_prop s QB4.out)
            go_wp2_with fail
            go_region_law
              ((refine step_append_lies _ rfl (.tmp 47) (.tmp 53) 22 rfl (w.heap.size + 1 + 1 + 1) 32 i32 (.agg #[.string ByteArray.empty, .slice none 0 0]) 2 40 Try.underlying22 I32.out.1 I32.out.2.1 I32.out.2.2.1 I32.out.2.2.2 rfl (by decide) (.slice A3 L c3) L (pcs ps) rfl (own_below PO4.out (by repeat (first | with_reducible exact Below.refl _ _ | with_reducible apply Below.drew | with_reducible apply bw_alloc))) ⟨w4.heap.size, 0, none⟩ 1 1 [.string s, .slice Ab nb cb] rfl rfl (World.news_of_block (heap_alloc_new w4 _)) ONE.out (by decide) (by simp only [maxLen]; omega) (by omega) (by have := OU4.out.hS; simp; omega) (w4.heap.size + 1) (by simp) ?_
                intro g c6 w6 own6 hg6 hat6 hlt6
                have hbl := bw_alloc (Below.refl w4.heap.size w4) (.cells #[.string s, .slice Ab nb cb] 32)
                have B6 : Hid (Bk w6 B1 25 #[.string nm, .slice A3 L c3, vk]) := (hg6.block B1 (OU4.out.below hbl).box.lt (OU4.out.below hbl).np).trans (OU4.out.below hbl).box
                have s2 : w6.cell? ⟨B1, 1, none⟩ = some (.slice A3 L c3) := by simpa using B6.out.cell 1
                have s1 : w6.frozen? ⟨B1, 1, none⟩ = false := B6.out.free 1
                have O6 := Lib.hid own6; have G6 := Lib.hid hg6; have A6 := Lib.hid hat6
                clear own6 hg6 hat6 hlt6 hbl))
            all_goals
              obtain ⟨z1, z2, z3, z4⟩ := FIN.out _ (by repeat (first | with_reducible exact Below.refl _ _ | with_reducible apply Below.drew | with_reducible apply bw_alloc)) _ _ _ O6.out G6.out (by rcases A6.out with h | h; exact .inl h; right; rw [h]; simp)
              go_wp2_with fail
              go_roundg (N - (k + 1))
              case measure => omega
              case rel => exact ⟨k + 1, _, by omega, by omega, by go_num, z1, z2, z3, z4⟩
          · obtain ⟨i, rfl⟩ : ∃ i : Nat, r = i := ⟨r.toNat, by omega⟩
            obtain ⟨hiL, hnx'⟩ := hHT.out i rfl
            rw [← HLL.out] at hiL
            have hnx := Lib.hid hnx'
            clear hnx' hMS hHT
            obtain ⟨g, cg, hv, hgb, hgl⟩ := PO4.out.form (by omega)
            injection hv with hv1 hv2 hv3
            subst hv1
            have y0 := PO4.out.frozenAt (i * 2)
            have y1 := PO4.out.frozenAt (i * 2 + 1)
            obtain ⟨p0, hp0⟩ : ∃ u, (pcs ps)[i * 2]? = some u := ⟨_, List.getElem?_eq_getElem (by have := PO4.out.1; omega)⟩
            obtain ⟨p1, hp1⟩ : ∃ u, (pcs ps)[i * 2 + 1]? = some u := ⟨_, List.getElem?_eq_getElem (by have := PO4.out.1; omega)⟩
            have y2 := (PO4.out.cellAt (i * 2) (by omega)).trans hp0
            have y3 := (PO4.out.cellAt (i * 2 + 1) (by omega)).trans hp1
            have ea : (⟨g, 0, none⟩ : Addr).add (i * 2) = ⟨g, i * 2, none⟩ := adr g (i * 2)
            clear hp0 hp1
            have O6 := Lib.hid (OU4.out.setP (k := i) (s := s) (bv := .slice Ab nb cb) (q := (s, y)) HLL.out ⟨rfl, QS.out, QB4.out.keep (Kp.refl _ _) (fun k _ hk => QO.out k hk) (Nat.le_refl _)⟩)
            rw [← hnx.out] at O6
            have AF := Lib.hid (bk_set (bk_set HA4.out (a := ⟨g, i * 2, none⟩) (by show w.heap.size + 1 ≠ g; omega) (.string s)) (a := ⟨g, i * 2 + 1, none⟩) (by show w.heap.size + 1 ≠ g; omega) (.slice Ab nb cb))
            have RF := Lib.hid (bk_set (bk_set HR4.out (a := ⟨g, i * 2, none⟩) (by show w.heap.size + 1 + 1 ≠ g; omega) (.string s)) (a := ⟨g, i * 2 + 1, none⟩) (by show w.heap.size + 1 + 1 ≠ g; omega) (.slice Ab nb cb))
            have BF := Lib.hid (bw_set (bw_set BW4.out (a := ⟨g, i * 2, none⟩) (by show w.heap.size ≤ g; omega) BW4.out.size (.string s)) (a := ⟨g, i * 2 + 1, none⟩) (by show w.heap.size ≤ g; omega) (by have := BW4.out.size; simp; omega) (.slice Ab nb cb))
            have hB1g : B1 ≠ g := fun e => OU4.out.np (by rw [e]; rfl)
            have hadg : ad.block ≠ g := by have := had.out; omega
            have hAdg : (ad.add (k * 2)).block ≠ g := by rw [add_block]; exact hadg
            have SK : Hid (∀ (V : World) (u0 u1 : Value), (V.cell? ⟨B1, 1, none⟩ = some (.slice (some ⟨g, 0, none⟩) L c3) ∧ V.cell? ⟨w.heap.size + 1, 1, none⟩ = some (.slice (some ad) N c) ∧ V.cell? (ad.add (k * 2)) = some (.string s) ∧ V.cell? ⟨(ad.add (k * 2)).block, (ad.add (k * 2)).off + 1, none⟩ = some (.slice Ab nb cb)) →
                (((V.setCell ⟨g, i * 2, none⟩ u0).setCell ⟨g, i * 2 + 1, none⟩ u1).cell? ⟨B1, 1, none⟩ = some (.slice (some ⟨g, 0, none⟩) L c3) ∧ ((V.setCell ⟨g, i * 2, none⟩ u0).setCell ⟨g, i * 2 + 1, none⟩ u1).cell? ⟨w.heap.size + 1, 1, none⟩ = some (.slice (some ad) N c) ∧ ((V.setCell ⟨g, i * 2, none⟩ u0).setCell ⟨g, i * 2 + 1, none⟩ u1).cell? (ad.add (k * 2)) = some (.string s) ∧ ((V.setCell ⟨g, i * 2, none⟩ u0).setCell ⟨g, i * 2 + 1, none⟩ u1).cell? ⟨(ad.add (k * 2)).block, (ad.add (k * 2)).off + 1, none⟩ = some (.slice Ab nb cb))) := by
              rintro V u0 u1 ⟨v0, v1, v2, v3⟩
              exact ⟨(cell_far2 hB1g _ _).trans v0, (cell_far2 (by show w.heap.size + 1 ≠ g; omega) _ _).trans v1, (cell_far2 hAdg _ _).trans v2, (cell_far2 (p := ⟨(ad.add (k * 2)).block, _, none⟩) hAdg _ _).trans v3⟩
            clear hB1g hadg hAdg
            go_wp2_with fail
            go_region_held3 (fun w' => w'.cell? ⟨B1, 1, none⟩ = some (.slice (some ⟨g, 0, none⟩) L c3) ∧ w'.cell? ⟨w.heap.size + 1, 1, none⟩ = some (.slice (some ad) N c) ∧ w'.cell? (ad.add (k * 2)) = some (.string s) ∧ w'.cell? ⟨(ad.add (k * 2)).block, (ad.add (k * 2)).off + 1, none⟩ = some (.slice Ab nb cb))
              (first | exact ⟨d4, d5, q0, q1⟩ | exact SK.out _ _ _ ⟨d4, d5, q0, q1⟩) (fail)
            go_wp2_with fail
            go_roundg (N - (k + 1))
            case measure => omega
            case rel => exact ⟨k + 1, _, by omega, by omega, by go_num, Lib.hid (Below.drew BF.out), AF, RF, Lib.hid (O6.out.below (Below.drew (Below.refl _ _)))⟩
        · obtain rfl : k = N := by omega
          obtain ⟨ps0, own0, _⟩ := OU.out.ps
          obtain ⟨Ap, cp, rfl⟩ := own_shape own0
          obtain ⟨np, hnp⟩ : ∃ np, np = (mprops a b k).length := ⟨_, rfl⟩
          have HNP := Lib.hid hnp
          have hnpM : np ≤ M := by have := mprops_len a b k; rw [HLA.out] at this; omega
          rw [← hnp] at OU
          clear hnp own0
          have a2 : wr.cell? ⟨w.heap.size + 1, 2, none⟩ = some (.slice Bk' KN cbk) := by simpa using HA.out.cell 2
          go_wp2_with fail
          clear a2
          obtain ⟨gk1, rfl⟩ : ∃ g, g = gk := ⟨_, rfl⟩
          obtain ⟨wo, rfl⟩ : ∃ wo : World, wo = wr := ⟨_, rfl⟩
          have BW1 := BW
          have HR1 := HR
          have OU1 := OU
          have HA1 := HA
          go_loopg [60] KN (fun gg s60 wr => ∃ (j : Nat) (vk : Value), j ≤ KN ∧ KN - j ≤ gg ∧ s60 = .int .i64 j ∧ Hid (Below w.heap.size w wr) ∧ Hid (Bk wr (w.heap.size + 1) 25 #[.string nm', .slice A k c, .slice Bk' KN cbk]) ∧
            Hid (Bk wr (w.heap.size + 1 + 1) 25 #[.string ⟨#[]⟩, .slice none 0 0, .slice none 0 0]) ∧ Hid (Out (fun k => φ k ∧ k ≠ w.heap.size + 1 + 1) w.heap.size (w.heap.size + 1 + 1 + 1) M d wr B1 nm (.slice Ap np cp) vk (mprops a b k) (mkids d a b j)))
          case atStart => exact ⟨0, _, Nat.zero_le _, by omega, rfl, BW1, HA1, HR1, OU1⟩
          case round =>
            clear BW HR OU BW1 HR1 OU1 HA HA1 hg hlt
            obtain ⟨j, vk, hj, hg, rfl, BW, HA, HR, OU⟩ := hrel
            by_cases hlt : j < KN
            · have hq : b.kids[j]? = some (b.kids[j]'(by rw [HKN.out]; exact hlt)) := List.getElem?_eq_getElem _
              generalize b.kids[j]'(by rw [HKN.out]; exact hlt) = q at hq
              obtain ⟨ad, qp, qk, rfl, _, c0, c1, c2, qs, qn⟩ := (HK.out.keep (Kp.below φ BW.out) (fun _ _ h => h) (Nat.le_refl _) (Nat.le_refl _)).at_ hq
              obtain ⟨Ab, nb, cb, Ac, nc, cc, rfl, rfl⟩ := qn.form
              have HQ := Lib.hid hq
              have QS := Lib.hid qs
              have QB : Hid (NdAt (fun k => φ k ∧ k < w.heap.size) wr M d (.slice Ab nb cb) (.slice Ac nc cc) q) := by
                obtain ⟨ad', qp', qk', e, _, _, d1, d2, _, qn'⟩ := (HK.out.keep (ψ := fun k => φ k ∧ k < w.heap.size) (Kp.refl _ w) (fun k hk h => ⟨h, hk⟩) (Nat.le_refl _) (Nat.le_refl _)).at_ hq
                injection e with e
                subst e
                have f1 := (BW.out.cell (World.block_lt_of_cell? _ _ d1)).trans d1
                have f2 := (BW.out.cell (World.block_lt_of_cell? _ _ d2)).trans d2
                rw [c1] at f1
                rw [c2] at f2
                injection f1 with f1
                injection f2 with f2
                subst f1 f2
                exact qn'.keep (Kp.below _ BW.out) (fun _ _ h => h) (Nat.le_refl _) (Nat.le_refl _)
              clear hq qs qn
              obtain ⟨s, hs⟩ : ∃ s, s = q.name := ⟨_, rfl⟩
              have HSN := Lib.hid hs
              rw [← hs] at c0
              have hL := mkids_len d a b j
              rw [HKA.out] at hL
              have hL' : (mkids d a b j).length ≤ M := by omega
              obtain ⟨ks, kOwn, kRel⟩ := OU.out.ks
              have KIX := Lib.hid (fun (n : Nat) (os : Array Obj) => kid_any nm s (.slice Ap np cp) vk _ _ M (by omega) (mkids d a b j) (grow (wr.drewN n) os) ((OU.out.below (Gr.below ⟨n, os, rfl⟩)).ki (fun k h => ⟨HF.out k (by omega), by omega⟩) hL'))
              have hMS := Lib.hid (fun h => kids_miss (d := d) (a := a) (b := b) HQ.out h)
              have hHT := Lib.hid (fun i h => kids_hit (d := d) (a := a) (b := b) (i := i) HQ.out h)
              rw [← hs] at hMS hHT
              have hbd := at_bounds Nd.name s (mkids d a b j)
              clear hs
              generalize at_ Nd.name s (mkids d a b j) = r at KIX hMS hHT hbd
              obtain ⟨L, hLL⟩ : ∃ L, L = (mkids d a b j).length := ⟨_, rfl⟩
              rw [← hLL] at hL hL' hbd kOwn
              have HLL := Lib.hid hLL
              clear hLL
              obtain ⟨A3, c3, rfl⟩ := own_shape kOwn
              have KO := Lib.hid kOwn
              have KR := Lib.hid kRel
              clear kOwn kRel
              have C0 := fun m os => cell_grown (World.block_lt_of_cell? _ _ c0) c0 m os
              have x0 : wr.cell? ⟨B1, 0, none⟩ = some (.string nm) := by simpa using OU.out.box.cell 0
              have x1 : wr.cell? ⟨B1, 1, none⟩ = some (.slice Ap np cp) := by simpa using OU.out.box.cell 1
              have x2 : wr.cell? ⟨B1, 2, none⟩ = some (.slice A3 L c3) := by simpa using OU.out.box.cell 2
              have x3 : wr.cell? ⟨w.heap.size + 1, 2, none⟩ = some (.slice (some ad) KN cbk) := by simpa using HA.out.cell 2
              have X0 := fun m os => cell_grown (World.block_lt_of_cell? _ _ x0) x0 m os
              have X1 := fun m os => cell_grown (World.block_lt_of_cell? _ _ x1) x1 m os
              have X2 := fun m os => cell_grown (World.block_lt_of_cell? _ _ x2) x2 m os
              have X3 := fun m os => cell_grown (World.block_lt_of_cell? _ _ x3) x3 m os
              have mixed : Try.prog.follows .mixedOrders = true := by kernel_rfl
              have CC0 := Lib.hid c0
              have CC1 := Lib.hid c1
              have CC2 := Lib.hid c2
              clear x0 x1 x2 x3 c0 c1 c2
              go_wp2_with fail
              go_quiet_grown ((go_at_call 13; exact Calls.grown_of (KIX.out _ _)))
              have BEL4 : Hid (Below wr.heap.size wr (grow (wr.drewN nq) osq)) := Gr.below ⟨nq, osq, rfl⟩
              generalize grow (wr.drewN nq) osq = w4 at *
              have OU4 := Lib.hid (OU.out.below BEL4.out)
              have KO4 := Lib.hid (own_below KO.out BEL4.out)
              have KR4 := Lib.hid (KR.out.mono fun _ _ _ hr => hr.keep (Kp.below _ BEL4.out) (fun _ _ h => h))
              have HA4 := Lib.hid (HA.out.below BEL4.out)
              have HR4 := Lib.hid (HR.out.below BEL4.out)
              have BW4 := Lib.hid (bw_trans BW.out BEL4.out)
              have QB4 := Lib.hid (QB.out.keep (Kp.below _ BEL4.out) (fun _ _ h => h) (Nat.le_refl _) (Nat.le_refl _))
              have q0 := cell_stays BEL4.out CC0.out
              have q1 := cell_stays BEL4.out CC1.out
              have q2 := cell_stays BEL4.out CC2.out
              clear KIX OU KO KR HA HR BW BEL4 QB C0 X0 X1 X2 X3 CC0 CC1 CC2
              have d4 : w4.cell? ⟨B1, 2, none⟩ = some (.slice A3 L c3) := by simpa using OU4.out.box.cell 2
              have d5 : w4.cell? ⟨w.heap.size + 1, 2, none⟩ = some (.slice (some ad) KN cbk) := by simpa using HA4.out.cell 2
              have QO : Hid (∀ k', φ k' ∧ k' < w.heap.size → Cold (fun k => φ k ∧ k ≠ w.heap.size + 1 + 1) B1 (.slice Ap np cp) (.slice A3 L c3) k') := Lib.hid fun k' hk' =>
                OU4.out.old hk'.2 ⟨hk'.1, by have := hk'.2; omega⟩
              have FR : Hid (∀ k', w4.heap.size ≤ k' → Cold (fun k => φ k ∧ k ≠ w.heap.size + 1 + 1) B1 (.slice Ap np cp) (.slice A3 L c3) k') := Lib.hid fun k' hk' =>
                OU4.out.fresh (fun k h => ⟨HF.out k (by omega), by omega⟩) hk'
              by_cases hr : r < 0
              · obtain rfl : r = -1 := by omega
                have hnx := Lib.hid (hMS.out hr)
                clear hr hbd hMS hHT
                have FIN : Hid (∀ (W0 : World), Below w4.heap.size w4 W0 → ∀ (g c6 : Nat) (w6 : World), w6.ownsRow (w.heap.size + 1 + 1 + 1) 25 3 (.slice (some ⟨g, 0, none⟩) (L + 1) c6) (L + 1) (kcs ks ++ [.string s, .slice Ab nb cb, .slice Ac nc cc]) →
                    W0.grownBy w6 (Value.slice A3 L c3).ownBlock → ((Value.slice A3 L c3).ownBlock = some g ∨ g = W0.heap.size) →
                    Hid (Below w.heap.size w (w6.setCell ⟨B1, 2, none⟩ (.slice (some ⟨g, 0, none⟩) (L + 1) c6))) ∧
                    Hid (Bk (w6.setCell ⟨B1, 2, none⟩ (.slice (some ⟨g, 0, none⟩) (L + 1) c6)) (w.heap.size + 1) 25 #[.string nm', .slice A k c, .slice (some ad) KN cbk]) ∧
                    Hid (Bk (w6.setCell ⟨B1, 2, none⟩ (.slice (some ⟨g, 0, none⟩) (L + 1) c6)) (w.heap.size + 1 + 1) 25 #[.string ⟨#[]⟩, .slice none 0 0, .slice none 0 0]) ∧
                    Hid (Out (fun k => φ k ∧ k ≠ w.heap.size + 1 + 1) w.heap.size (w.heap.size + 1 + 1 + 1) M d (w6.setCell ⟨B1, 2, none⟩ (.slice (some ⟨g, 0, none⟩) (L + 1) c6)) B1 nm (.slice Ap np cp) (.slice (some ⟨g, 0, none⟩) (L + 1) c6) (mprops a b k) (mkids d a b (j + 1)))) := by
                  intro W0 hbl g c6 w6 own6 hg6 hat6
                  have OU3 := OU4.out.below hbl
                  have own3 := own_below KO4.out hbl
                  have hO := OU3.snocK (KR4.out.mono fun _ _ _ hr => hr.keep (Kp.below _ hbl) (fun _ _ h => h)) (s := s) (bp := .slice Ab nb cb) (bk := .slice Ac nc cc) (q := q) (by rw [← HLL.out]; exact own6) hg6 hat6
                    ⟨HSN.out, QS.out, QB4.out.keep (Kp.below _ hbl) (fun k _ hk => QO.out k hk) (Nat.le_refl _) (Nat.le_refl _)⟩
                  rw [← hnx.out] at hO
                  have A6 := bk_grown (HA4.out.below hbl) own3 (by omega) hg6
                  have R6 := bk_grown (HR4.out.below hbl) own3 (by omega) hg6
                  exact ⟨bw_set ((bw_trans BW4.out hbl).grown hg6 (by have := OU3.hS; omega) (fun q hq => by have := (own3.lt q hq).1; omega)) (a := ⟨B1, 2, none⟩) (by show w.heap.size ≤ B1; have := HB1.out; omega) (by have := hg6.size; have := OU3.hS; omega) _,
                    bk_set A6 (a := ⟨B1, 2, none⟩) (by show w.heap.size + 1 ≠ B1; have := HB1.out; omega) _, bk_set R6 (a := ⟨B1, 2, none⟩) (by show w.heap.size + 1 + 1 ≠ B1; have := HB1.out; omega) _, hO⟩
                have d6 : ∀ o, (w4.alloc o).cell? ⟨B1, 2, none⟩ = some (.slice A3 L c3) := fun o => by simpa using (OU4.out.box.alloc o).cell 2
                go_wp2_with fail
                go_region_law
                  ((refine step_append_lies _ rfl (.tmp 89) (.tmp 95) 23 rfl (w.heap.size + 1 + 1 + 1) 25 i25 (.agg #[.string ByteArray.empty, .slice none 0 0, .slice none 0 0]) 3 64 Try.underlying23 I25.out.1 I25.out.2.1 I25.out.2.2.1 I25.out.2.2.2 rfl (by decide) (.slice A3 L c3) L (kcs ks) rfl (own_below KO4.out (by repeat (first | with_reducible exact Below.refl _ _ | with_reducible apply Below.drew | with_reducible apply bw_alloc))) ⟨w4.heap.size, 0, none⟩ 1 1 [.string s, .slice Ab nb cb, .slice Ac nc cc] rfl rfl (World.news_of_block (heap_alloc_new w4 _)) (one_node s Ab nb cb Ac nc cc) (by decide) (by simp only [maxLen]; omega) (by omega) (by have := OU4.out.hS; simp; omega) (w4.heap.size + 1) (by simp) ?_
                    intro g c6 w6 own6 hg6 hat6 hlt6
                    have hbl := bw_alloc (Below.refl w4.heap.size w4) (.cells #[.string s, .slice Ab nb cb, .slice Ac nc cc] 25)
                    have B6 : Hid (Bk w6 B1 25 #[.string nm, .slice Ap np cp, .slice A3 L c3]) := (hg6.block B1 (OU4.out.below hbl).box.lt (OU4.out.below hbl).nk).trans (OU4.out.below hbl).box
                    have s2 : w6.cell? ⟨B1, 2, none⟩ = some (.slice A3 L c3) := by simpa using B6.out.cell 2
                    have s1 : w6.frozen? ⟨B1, 2, none⟩ = false := B6.out.free 2
                    have O6 := Lib.hid own6; have G6 := Lib.hid hg6; have A6 := Lib.hid hat6
                    clear own6 hg6 hat6 hlt6 hbl))
                all_goals
                  obtain ⟨z1, z2, z3, z4⟩ := FIN.out _ (by repeat (first | with_reducible exact Below.refl _ _ | with_reducible apply Below.drew | with_reducible apply bw_alloc)) _ _ _ O6.out G6.out (by rcases A6.out with h | h; exact .inl h; right; rw [h]; simp)
                  go_wp2_with fail
                  go_roundg (KN - (j + 1))
                  case measure => omega
                  case rel => exact ⟨j + 1, _, by omega, by omega, by go_num, z1, z2, z3, z4⟩
              · obtain ⟨i, rfl⟩ : ∃ i : Nat, r = i := ⟨r.toNat, by omega⟩
                obtain ⟨y, hy, hyn, hnx'⟩ := hHT.out i rfl
                have hnx := Lib.hid hnx'
                have HYN := Lib.hid hyn
                have hsz := Lib.hid (Nat.le_trans (sz_below HQ.out (List.mem_of_getElem? hy)) HS.out)
                have hiL : i < L := by have := (List.getElem?_eq_some_iff.1 hy).1; have := HLL.out; omega
                obtain ⟨kk, hkk, r1, r2, r3⟩ := KR4.out.get hy
                obtain ⟨yn, yp, yk⟩ := kk
                simp only at r1 r3
                obtain ⟨Yb, mb', eb', Yc, mc', ec', rfl, rfl⟩ := r3.form
                obtain ⟨e0, e1, e2⟩ := kcs_at ks i _ hkk
                obtain ⟨g, cg, hv, hgb, hgl⟩ := KO4.out.form (by omega)
                injection hv with hv1 hv2 hv3
                subst hv1
                have y0 := KO4.out.frozenAt (i * 3)
                have y0' := KO4.out.frozenAt (i * 3 + 1)
                have y0'' := KO4.out.frozenAt (i * 3 + 2)
                have y2 := (KO4.out.cellAt (i * 3) (by omega)).trans e0
                have y3 := (KO4.out.cellAt (i * 3 + 1) (by omega)).trans e1
                have y4 := (KO4.out.cellAt (i * 3 + 2) (by omega)).trans e2
                simp only at y2 y3 y4
                have ea : (⟨g, 0, none⟩ : Addr).add (i * 3) = ⟨g, i * 3, none⟩ := adr g (i * 3)
                have R1 := Lib.hid r1
                have R2 := Lib.hid r2
                have K := Lib.hid (IH.out yn s (.slice Yb mb' eb') (.slice Yc mc' ec') (.slice Ab nb cb) (.slice Ac nc cc) y q (Cold (fun k => φ k ∧ k ≠ w.heap.size + 1 + 1) B1 (.slice Ap np cp) (.slice (some ⟨g, 0, none⟩) L c3)) M w4.drew hM hsz.out (fun k hk => FR.out k hk)
                  (r3.keep (Kp.below _ (Below.drew (Below.refl _ _))) (fun _ _ h => h) (Nat.le_refl _) (Nat.le_refl _)) (QB4.out.keep (Kp.below _ (Below.drew (Below.refl _ _))) (fun k _ h => OU4.out.old h.2 ⟨h.1, by have := h.2; omega⟩) (Nat.le_refl _) (Nat.le_refl _)))
                unfold MergeOut at K
                clear hnx' hyn hy hkk r1 r2 r3 e0 e1 e2 hr hbd hMS hHT
                have FIN : Hid (∀ (w6 : World) (xp xk : Value), Below w4.heap.size w4 w6 → NdAt (Cold (fun k => φ k ∧ k ≠ w.heap.size + 1 + 1) B1 (.slice Ap np cp) (.slice (some ⟨g, 0, none⟩) L c3)) w6 M d xp xk (mergeN d y q) →
                    Hid (Below w.heap.size w (((w6.setCell ⟨g, i * 3, none⟩ (.string yn)).setCell ⟨g, i * 3 + 1, none⟩ xp).setCell ⟨g, i * 3 + 2, none⟩ xk)) ∧
                    Hid (Bk (((w6.setCell ⟨g, i * 3, none⟩ (.string yn)).setCell ⟨g, i * 3 + 1, none⟩ xp).setCell ⟨g, i * 3 + 2, none⟩ xk) (w.heap.size + 1) 25 #[.string nm', .slice A k c, .slice (some ad) KN cbk]) ∧
                    Hid (Bk (((w6.setCell ⟨g, i * 3, none⟩ (.string yn)).setCell ⟨g, i * 3 + 1, none⟩ xp).setCell ⟨g, i * 3 + 2, none⟩ xk) (w.heap.size + 1 + 1) 25 #[.string ⟨#[]⟩, .slice none 0 0, .slice none 0 0]) ∧
                    Hid (Out (fun k => φ k ∧ k ≠ w.heap.size + 1 + 1) w.heap.size (w.heap.size + 1 + 1 + 1) M d (((w6.setCell ⟨g, i * 3, none⟩ (.string yn)).setCell ⟨g, i * 3 + 1, none⟩ xp).setCell ⟨g, i * 3 + 2, none⟩ xk) B1 nm (.slice Ap np cp) (.slice (some ⟨g, 0, none⟩) L c3) (mprops a b k) (mkids d a b (j + 1)))) := by
                  intro w6 xp xk bel6 hcv
                  have BW6 := bw_trans BW4.out bel6
                  have hO := (OU4.out.below bel6).setK (k := i) (s := yn) (bp := xp) (bk := xk) (q := mergeN d y q) HLL.out ⟨by rw [mergeN_name]; exact R1.out, by rw [mergeN_name]; exact R2.out, hcv⟩
                  rw [← hnx.out] at hO
                  exact ⟨bw_set (bw_set (bw_set BW6 (a := ⟨g, i * 3, none⟩) (by show w.heap.size ≤ g; omega) BW6.size (.string yn)) (a := ⟨g, i * 3 + 1, none⟩) (by show w.heap.size ≤ g; omega) (by have := BW6.size; simp; omega) xp) (a := ⟨g, i * 3 + 2, none⟩) (by show w.heap.size ≤ g; omega) (by have := BW6.size; simp; omega) xk,
                    bk_set (bk_set (bk_set (HA4.out.below bel6) (a := ⟨g, i * 3, none⟩) (by show w.heap.size + 1 ≠ g; omega) (.string yn)) (a := ⟨g, i * 3 + 1, none⟩) (by show w.heap.size + 1 ≠ g; omega) xp) (a := ⟨g, i * 3 + 2, none⟩) (by show w.heap.size + 1 ≠ g; omega) xk,
                    bk_set (bk_set (bk_set (HR4.out.below bel6) (a := ⟨g, i * 3, none⟩) (by show w.heap.size + 1 + 1 ≠ g; omega) (.string yn)) (a := ⟨g, i * 3 + 1, none⟩) (by show w.heap.size + 1 + 1 ≠ g; omega) xp) (a := ⟨g, i * 3 + 2, none⟩) (by show w.heap.size + 1 + 1 ≠ g; omega) xk, hO⟩
                go_wp2_with fail
                go_region_law
                  (go_simp; go_at_call 10; refine K.out.mono ?_; rintro e w6 ⟨xp, xk, rfl, b2, bel2⟩; obtain ⟨Xb', mb'', eb'', Xc', mc'', ec'', rfl, rfl⟩ := b2.form
                   have BEL2 : Hid (Below w4.heap.size w4 w6) := (⟨bel2.os, bel2.tape, bel2.output, bel2.size, bel2.block⟩ : Below w4.heap.size w4 w6)
                   have B2 := Lib.hid (OU4.out.box.below BEL2.out); have CV := Lib.hid b2; clear b2 bel2
                   have r1 : w6.cell? ⟨B1, 2, none⟩ = some (.slice (some ⟨g, 0, none⟩) L c3) := by simpa using B2.out.cell 2
                   have own6 := own_below KO4.out BEL2.out
                   have s0 := own6.frozenAt (i * 3)
                   have s1 := own6.frozenAt (i * 3 + 1)
                   have s2 := own6.frozenAt (i * 3 + 2)
                   have v0 := cell_stays BEL2.out y2
                   have v1 := cell_stays BEL2.out y3
                   have v2 := cell_stays BEL2.out y4
                   clear own6)
                all_goals
                  obtain ⟨z1, z2, z3, z4⟩ := FIN.out _ _ _ BEL2.out CV.out
                  go_wp2_with fail
                  go_roundg (KN - (j + 1))
                  case measure => omega
                  case rel => exact ⟨j + 1, _, by omega, by omega, by go_num, z1, z2, z3, z4⟩
            · obtain rfl : j = KN := by omega
              obtain ⟨ks0, own0, _⟩ := OU.out.ks
              obtain ⟨Aq, cq, rfl⟩ := own_shape own0
              obtain ⟨nq, hnq⟩ : ∃ nq, nq = (mkids d a b j).length := ⟨_, rfl⟩
              have hnqM : nq ≤ M := by have := mkids_len d a b j; rw [HKA.out] at this; omega
              have HNQ := Lib.hid hnq
              rw [← hnq] at OU
              clear hnq own0
              have b0 : wr.cell? ⟨B1, 0, none⟩ = some (.string nm) := by simpa using OU.out.box.cell 0
              have b1 : wr.cell? ⟨B1, 1, none⟩ = some (.slice Ap np cp) := by simpa using OU.out.box.cell 1
              have b2 : wr.cell? ⟨B1, 2, none⟩ = some (.slice Aq nq cq) := by simpa using OU.out.box.cell 2
              have r0 : wr.cell? ⟨w.heap.size + 1 + 1, 0, none⟩ = some (.string ⟨#[]⟩) := by simpa using HR.out.cell 0
              have r1 : wr.cell? ⟨w.heap.size + 1 + 1, 1, none⟩ = some (.slice none 0 0) := by simpa using HR.out.cell 1
              have r2 : wr.cell? ⟨w.heap.size + 1 + 1, 2, none⟩ = some (.slice none 0 0) := by simpa using HR.out.cell 2
              have f0 := HR.out.free 0
              have f1 := HR.out.free 1
              have f2 := HR.out.free 2
              have RB : Hid (Bk (((wr.setCell ⟨w.heap.size + 1 + 1, 0, none⟩ (.string nm)).setCell ⟨w.heap.size + 1 + 1, 1, none⟩ (.slice Ap np cp)).setCell ⟨w.heap.size + 1 + 1, 2, none⟩ (.slice Aq nq cq)) (w.heap.size + 1 + 1) 25 #[.string nm, .slice Ap np cp, .slice Aq nq cq]) := by
                have := ((HR.out.set 0 (.string nm)).set 1 (.slice Ap np cp)).set 2 (.slice Aq nq cq)
                exact Lib.hid (by simpa using this)
              have hsz := HR.out.lt
              have BF : Hid (Below w.heap.size w (((wr.setCell ⟨w.heap.size + 1 + 1, 0, none⟩ (.string nm)).setCell ⟨w.heap.size + 1 + 1, 1, none⟩ (.slice Ap np cp)).setCell ⟨w.heap.size + 1 + 1, 2, none⟩ (.slice Aq nq cq))) :=
                bw_set (bw_set (bw_set BW.out (by show w.heap.size ≤ w.heap.size + 1 + 1; omega) BW.out.size _) (by show w.heap.size ≤ w.heap.size + 1 + 1; omega) (by simp; omega) _) (by show w.heap.size ≤ w.heap.size + 1 + 1; omega) (by simp; omega) _
              have NF : Hid (NdAt φ (((wr.setCell ⟨w.heap.size + 1 + 1, 0, none⟩ (.string nm)).setCell ⟨w.heap.size + 1 + 1, 1, none⟩ (.slice Ap np cp)).setCell ⟨w.heap.size + 1 + 1, 2, none⟩ (.slice Aq nq cq)) M (d + 1) (.slice Ap np cp) (.slice Aq nq cq) (mergeN (d + 1) a b)) := by
                have hnd := OU.out.nd (fun k h => ⟨HF.out k (by omega), by omega⟩) (by have := HNP.out; omega) (by have := HNQ.out; omega)
                have h2 := hnd.keep (ψ := φ) (((Kp.set wr ⟨w.heap.size + 1 + 1, 0, none⟩ (.string nm) (fun k h => h.2)).trans (Kp.set _ ⟨w.heap.size + 1 + 1, 1, none⟩ (.slice Ap np cp) (fun k h => h.2))).trans (Kp.set _ ⟨w.heap.size + 1 + 1, 2, none⟩ (.slice Aq nq cq) (fun k h => h.2))) (fun k _ h => h.1) (Nat.le_refl _) (Nat.le_refl _)
                show NdAt φ _ M (d + 1) _ _ _
                rw [merge_is, HN.out, HKN.out]
                exact h2
              go_wp2_with fail
              generalize (((wr.setCell ⟨w.heap.size + 1 + 1, 0, none⟩ (.string nm)).setCell ⟨w.heap.size + 1 + 1, 1, none⟩ (.slice Ap np cp)).setCell ⟨w.heap.size + 1 + 1, 2, none⟩ (.slice Aq nq cq)) = W at *
              have y0 : W.cell? ⟨w.heap.size + 1 + 1, 0, none⟩ = some (.string nm) := by simpa using RB.out.cell 0
              have y1 : W.cell? ⟨w.heap.size + 1 + 1, 1, none⟩ = some (.slice Ap np cp) := by simpa using RB.out.cell 1
              have y2 : W.cell? ⟨w.heap.size + 1 + 1, 2, none⟩ = some (.slice Aq nq cq) := by simpa using RB.out.cell 2
              refine bodyPost_ret (v := .agg #[.string nm, .slice Ap np cp, .slice Aq nq cq]) (by simp [results, Try.results10, go_sem, y0, y1, y2]) rfl ⟨_, _, rfl, NF.out, BF.out⟩
end Go.Proofs.Ytkkpdeiooopifaa
