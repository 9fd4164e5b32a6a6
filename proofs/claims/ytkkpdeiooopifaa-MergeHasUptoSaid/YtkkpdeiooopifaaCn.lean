/- The contract of tree.CloneNode: the same node in new memory (layers 3 and 10). Condition: not more than 2^40 of anything. -/
import Derived.Test.YtkkpdeiooopifaaOut
import Derived.Test.YtkkpdeiooopifaaClone
import Derived.Deep.RegionHeld3
import Derived.Deep.Onto
namespace Go.Proofs.Ytkkpdeiooopifaa
open Go.RowKit Go.Sort
set_option linter.unusedVariables false
theorem info32 : (Try.prog.info? 32).map (fun i => (i.zero, i.size, i.bytes)) = some (some (.agg #[.string .empty, .slice none 0 0]), 2, 40) := by kernel_rfl
theorem info25 : (Try.prog.info? 25).map (fun i => (i.zero, i.size, i.bytes)) = some (some (.agg #[.string .empty, .slice none 0 0, .slice none 0 0]), 3, 64) := by kernel_rfl
theorem box_cells {W : World} {B T : Nat} {nm s : ByteArray} {vp vk bv : Value} (h : Bk W B 25 #[.string nm, vp, vk]) (k : Bk W T 32 #[.string s, bv]) :
    W.cell? ⟨T, 0, none⟩ = some (.string s) ∧ W.cell? ⟨T, 1, none⟩ = some bv ∧ W.frozen? ⟨B, 1, none⟩ = false :=
  ⟨by simpa using k.cell 0, by simpa using k.cell 1, h.free 1⟩
theorem own_shape {v : World} {B : Nat} {e : TypeId} {size n : Nat} {x : Value} {xs : List Value} (h : v.ownsRow B e size x n xs) : ∃ A c, x = .slice A n c := by
  rcases h.2 with ⟨rfl, h0⟩ | ⟨g', cap, cur, rfl, _⟩
  · exact ⟨none, 0, by rw [h0]⟩
  · exact ⟨_, _, rfl⟩
/-- The two rows of a node are the call's own, from block H on; its parts avoid them. -/
def OwnNd (H : Nat) (w : World) (M d : Nat) (vp vk : Value) (n : Nd) : Prop := ∃ B0,
  (∃ ps, w.ownsRow H 32 2 vp n.props.length (pcs ps) ∧ Rel (PrR (Cold (fun k => H ≤ k) B0 vp vk) w M) ps n.props) ∧ (∃ ks, w.ownsRow H 25 3 vk n.kids.length (kcs ks) ∧ Rel (KiR M (NdAt (Cold (fun k => H ≤ k) B0 vp vk) w M d)) ks n.kids)
def NodeOut (w : World) (M d : Nat) (nm : ByteArray) (n : Nd) (e : Ending) (w' : World) : Prop :=
  ∃ vp vk, e = .returned (.agg #[.string nm, vp, vk]) ∧ NdAt (fun k => w.heap.size ≤ k) w' M d vp vk n ∧ Below w.heap.size w w' ∧ ∀ d', d = d' + 1 → OwnNd w.heap.size w' M d' vp vk n
theorem one_prop (s : ByteArray) {φ : Nat → Prop} {w : World} {M : Nat} {v : Value} {b : ByteArray} (h : ByAt φ w M v b) : ∀ u ∈ [Value.string s, v], u.oneCell' = true := by
  obtain ⟨xs, ⟨A, c, rfl, _⟩, _⟩ := h
  intro u hu
  simp only [List.mem_cons, List.not_mem_nil, or_false] at hu
  rcases hu with rfl | rfl <;> rfl
theorem one_node (s : ByteArray) (A : Option Addr) (n c : Nat) (A' : Option Addr) (n' c' : Nat) : ∀ u ∈ [Value.string s, .slice A n c, .slice A' n' c'], u.oneCell' = true := by
  intro u hu
  simp only [List.mem_cons, List.not_mem_nil, or_false] at hu
  rcases hu with rfl | rfl | rfl <;> rfl
set_option maxHeartbeats 6400000 in
theorem cnode_any (d : Nat) : ∀ (nm : ByteArray) (vp vk : Value) (n : Nd) (φ : Nat → Prop) (M : Nat) (w : World), M ≤ 1099511627776 → NdAt φ w M d vp vk n →
    Calls Try.prog 15 #[.agg #[.string nm, vp, vk]] w (NodeOut w M d nm n) := by
  induction d with
  | zero => intro nm vp vk n φ M w hM h; cases h
  | succ d ih =>
    intro nm vp vk n φ M w hM h
    have IH := Lib.hid ih
    clear ih
    obtain ⟨hp, hk⟩ := h
    obtain ⟨A, c, rfl, h1, h2, h3⟩ := hp.form
    obtain ⟨Ak, ck, rfl, k1, k2, k3⟩ := hk.form
    have HP := Lib.hid hp
    have HK := Lib.hid hk
    clear hp hk
    obtain ⟨i32, hi32, hz32, hs32, hb32⟩ := info_parts info32
    obtain ⟨i25, hi25, hz25, hs25, hb25⟩ := info_parts info25
    have I32 := Lib.hid (And.intro hi32 (And.intro hz32 (And.intro hs32 hb32)))
    have I25 := Lib.hid (And.intro hi25 (And.intro hz25 (And.intro hs25 hb25)))
    clear hi32 hz32 hs32 hb32 hi25 hz25 hs25 hb25
    unfold maxLen at h2 k2
    generalize hN : n.props.length = N at *
    generalize hKN : n.kids.length = KN at *
    have HN := Lib.hid hN
    have HKN := Lib.hid hKN
    clear hN hKN
    go_enter Try.func15, Try.ntmps15
    go_wp2_with fail
    have HB0 : Hid (w.heap.size + 3 ≤ w.heap.size + 3) := Lib.hid (Nat.le_refl _)
    go_loopg [14] N (fun gg s14 wr => ∃ (k : Nat) (vp : Value), k ≤ N ∧ N - k ≤ gg ∧ s14 = .int .i64 k ∧ Hid (Below w.heap.size w wr) ∧ Hid (Bk wr w.heap.size 25 #[.string nm, .slice A N c, .slice Ak KN ck]) ∧
      Hid (Bk wr (w.heap.size + 1) 25 #[.string ⟨#[]⟩, .slice none 0 0, .slice none 0 0]) ∧ Hid (Out (fun k => w.heap.size ≤ k ∧ k ≠ w.heap.size + 1) w.heap.size (w.heap.size + 3) M d wr (w.heap.size + 1 + 1) nm vp (.slice none 0 0) (n.props.take k) []))
    case atStart =>
      refine ⟨0, .slice none 0 0, Nat.zero_le _, by omega, rfl, bw_alloc (bw_alloc (bw_alloc (Below.refl _ _) _) _) _, ((Bk.new w _ _).alloc _).alloc _, ?_, ?_⟩
      · have := Bk.new (w.alloc (.cells #[.string nm, .slice A N c, .slice Ak KN ck] 25)) 25 #[.string ⟨#[]⟩, .slice none 0 0, .slice none 0 0]
        simp only [World.size_alloc] at this
        exact this.alloc _
      · have := Bk.new ((w.alloc (.cells #[.string nm, .slice A N c, .slice Ak KN ck] 25)).alloc (.cells #[.string ⟨#[]⟩, .slice none 0 0, .slice none 0 0] 25)) 25 #[.string nm, .slice none 0 0, .slice none 0 0]
        simp only [World.size_alloc] at this
        exact ⟨by omega, by omega, by simp, this, by simp [Value.ownBlock], ⟨[], World.ownsRow_nil _ _ _ _, Rel.nil _⟩, ⟨[], World.ownsRow_nil _ _ _ _, Rel.nil _⟩⟩
    case round =>
      obtain ⟨k, vp, hk, hg, rfl, BW, HA, HR, OU⟩ := hrel
      by_cases hlt : k < N
      · have hq : n.props[k]? = some (n.props[k]'(by rw [HN.out]; exact hlt)) := List.getElem?_eq_getElem _
        generalize n.props[k]'(by rw [HN.out]; exact hlt) = q at hq
        obtain ⟨ad, bv, rfl, _, c0, c1, qs, qb⟩ := (HP.out.keep (Kp.below φ BW.out) (fun _ _ h => h) (Nat.le_refl _)).at_ hq
        obtain ⟨Ab, nb, cb, rfl⟩ := qb.form
        have HQ := Lib.hid hq
        have QS := Lib.hid qs
        have QB := Lib.hid qb
        clear hq qs qb
        obtain ⟨s, b⟩ := q
        simp only at c0
        have hlk : (n.props.take k).length = k := by rw [List.length_take]; have := HN.out; omega
        obtain ⟨ps, pOwn, pRel⟩ := OU.out.ps
        rw [hlk] at pOwn
        obtain ⟨A3, c3, rfl⟩ := own_shape pOwn
        have PO := Lib.hid pOwn
        have PR := Lib.hid pRel
        have HLK := Lib.hid hlk
        clear pOwn pRel hlk
        have K := Lib.hid (bclone_any φ M (by omega) (.slice Ab nb cb) b (wr.alloc (.cells #[.string s, .slice Ab nb cb] 32)).drew (QB.out.keep (Kp.below φ (Below.drew (bw_alloc (Below.refl _ _) _))) (fun _ _ h => h) (Nat.le_refl _)))
        have FIN : Hid (∀ (w2 : World) (cv : Value), Below wr.heap.size wr w2 → ByAt (fun k => wr.heap.size ≤ k) w2 M cv b → ∀ (g c6 : Nat) (w6 : World), w6.ownsRow (w.heap.size + 3) 32 2 (.slice (some ⟨g, 0, none⟩) (k + 1) c6) (k + 1) (pcs ps ++ [.string s, cv]) →
            (w2.alloc (.cells #[.string s, cv] 32)).grownBy w6 (Value.slice A3 k c3).ownBlock → ((Value.slice A3 k c3).ownBlock = some g ∨ g = w2.heap.size + 1) →
            Hid (Below w.heap.size w (w6.setCell ⟨w.heap.size + 1 + 1, 1, none⟩ (.slice (some ⟨g, 0, none⟩) (k + 1) c6))) ∧ Hid (Bk (w6.setCell ⟨w.heap.size + 1 + 1, 1, none⟩ (.slice (some ⟨g, 0, none⟩) (k + 1) c6)) w.heap.size 25 #[.string nm, .slice (some ad) N c, .slice Ak KN ck]) ∧
            Hid (Bk (w6.setCell ⟨w.heap.size + 1 + 1, 1, none⟩ (.slice (some ⟨g, 0, none⟩) (k + 1) c6)) (w.heap.size + 1) 25 #[.string ⟨#[]⟩, .slice none 0 0, .slice none 0 0]) ∧
            Hid (Out (fun k => w.heap.size ≤ k ∧ k ≠ w.heap.size + 1) w.heap.size (w.heap.size + 3) M d (w6.setCell ⟨w.heap.size + 1 + 1, 1, none⟩ (.slice (some ⟨g, 0, none⟩) (k + 1) c6)) (w.heap.size + 1 + 1) nm (.slice (some ⟨g, 0, none⟩) (k + 1) c6) (.slice none 0 0) (n.props.take (k + 1)) [])) := by
          intro w2 cv bel2 hcv g c6 w6 own6 hg6 hat6
          have bel3 : Below wr.heap.size wr (w2.alloc (.cells #[.string s, cv] 32)) := bw_trans bel2 (bw_alloc (Below.refl _ _) _)
          have OU3 := OU.out.below bel3
          have own3 := own_below PO.out bel3
          have hlt3 : w.heap.size + 3 ≤ (w2.alloc (.cells #[.string s, cv] 32)).heap.size := by have := OU.out.box.lt; have := bel2.size; simp; omega
          have hO := OU3.snocP (PR.out.mono fun _ _ _ hr => hr.keep (Kp.below _ bel3) (fun _ _ h => h) (Nat.le_refl _)) (s := s) (bv := cv) (q := (s, b)) (by rw [HLK.out]; exact own6) hg6 (by rcases hat6 with h | h; exact .inl h; right; rw [h]; simp)
            ⟨rfl, QS.out, hcv.keep (Kp.below _ (bw_alloc (Below.refl _ _) _)) (fun k _ hk => by have := OU.out.fresh (fun k h => ⟨by omega, by omega⟩) hk; exact this) (Nat.le_refl _)⟩
          rw [← take_snoc HQ.out] at hO
          have A3 := bk_grown (HA.out.below bel3) own3 (by omega) hg6
          have R3 := bk_grown (HR.out.below bel3) own3 (by omega) hg6
          exact ⟨bw_set (((bw_trans BW.out bel3)).grown hg6 (by omega) (fun q hq => by have := (own3.lt q hq).1; omega)) (by show w.heap.size ≤ w.heap.size + 1 + 1; omega) (by have := hg6.size; omega) _, bk_set A3 (by show w.heap.size ≠ w.heap.size + 1 + 1; omega) _, bk_set R3 (by show w.heap.size + 1 ≠ w.heap.size + 1 + 1; omega) _, hO⟩
        have HT := Lib.hid (Bk.new wr 32 #[.string s, .slice Ab nb cb])
        have HO1 : Hid (Bk wr (w.heap.size + 1 + 1) 25 #[.string nm, .slice A3 k c3, .slice none 0 0]) := OU.out.box
        go_wp2_with fail
        have BV : Hid (Below wr.heap.size wr (wr.alloc (.cells #[.string s, .slice Ab nb cb] 32))) := bw_alloc (Below.refl _ _) _
        have BT : Hid (w.heap.size + 1 + 1 < wr.heap.size) := OU.out.box.lt
        obtain ⟨T, hT⟩ : ∃ T, T = wr.heap.size := ⟨_, rfl⟩
        have HTT := Lib.hid hT
        simp only [← hT]
        simp only [← hT] at HT
        clear hT
        generalize wr.alloc (.cells #[.string s, .slice Ab nb cb] 32) = V at *
        have q1 : V.cell? ⟨w.heap.size + 1 + 1, 1, none⟩ = some (.slice A3 k c3) := by simpa using (HO1.out.below BV.out).cell 1
        have q2 : V.cell? ⟨T, 0, none⟩ = some (.string s) := by simpa using HT.out.cell 0
        have q3 : V.cell? ⟨T, 1, none⟩ = some (.slice Ab nb cb) := by simpa using HT.out.cell 1
        go_region_law
          (first
            | (go_simp; go_at_call 16; refine K.out.mono ?_; rintro e w2 ⟨cv, rfl, b2, bel2⟩; obtain ⟨Ac, nc, cc, rfl⟩ := b2.form
               have BEL2 : Hid (Below wr.heap.size wr w2) := bw_trans BV.out (⟨bel2.os, bel2.tape, bel2.output, bel2.size, bel2.block⟩ : Below V.heap.size V w2)
               have B2 := Lib.hid (HO1.out.below BEL2.out); have T2 := Lib.hid (HT.out.drew.below bel2); have CV : Hid (ByAt (fun k => T ≤ k) w2 M (.slice Ac nc cc) b) := b2.keep (Kp.refl _ _) (fun k _ h => Nat.le_trans (by have := BV.out.size; rw [HTT.out]; exact this) h) (Nat.le_refl _); clear b2 bel2
               have r1 : w2.cell? ⟨w.heap.size + 1 + 1, 1, none⟩ = some (.slice A3 k c3) := by simpa using B2.out.cell 1
               have r1' : ∀ o, (w2.alloc o).cell? ⟨w.heap.size + 1 + 1, 1, none⟩ = some (.slice A3 k c3) := fun o => by simpa using (B2.out.alloc o).cell 1
               have r2 : w2.cell? ⟨T, 0, none⟩ = some (.string s) := by simpa using T2.out.cell 0
               have r3 : w2.cell? ⟨T, 1, none⟩ = some (.slice Ab nb cb) := by simpa using T2.out.cell 1)
            | (refine step_append_lies _ rfl (.tmp 19) (.tmp 26) 22 rfl (w.heap.size + 3) 32 i32 (.agg #[.string ByteArray.empty, .slice none 0 0]) 2 40 Try.underlying22 I32.out.1 I32.out.2.1 I32.out.2.2.1 I32.out.2.2.2 rfl (by decide) (.slice A3 k c3) k (pcs ps) rfl ((own_below PO.out BEL2.out).alloc _) ⟨w2.heap.size, 0, none⟩ 1 1 [.string s, .slice Ac nc cc] rfl rfl (World.news_of_block (heap_alloc_new w2 _)) (one_prop s CV.out) (by decide) (by simp only [maxLen]; omega) (by omega) (by have := BEL2.out.size; have := BT.out; simp; omega) (w2.heap.size + 1) (by simp) ?_
               intro g c6 w6 own6 hg6 hat6 hlt6
               have B6 := Lib.hid (bk_grown (B2.out.alloc _) ((own_below PO.out BEL2.out).alloc _) (by omega) hg6)
               have s2 : w6.cell? ⟨w.heap.size + 1 + 1, 1, none⟩ = some (.slice A3 k c3) := by simpa using B6.out.cell 1
               have s1 : w6.frozen? ⟨w.heap.size + 1 + 1, 1, none⟩ = false := B6.out.free 1
               have O6 := Lib.hid own6; have G6 := Lib.hid hg6; have A6 := Lib.hid hat6
               clear own6 hg6 hat6 hlt6))
        all_goals
          obtain ⟨z1, z2, z3, z4⟩ := FIN.out _ _ BEL2.out (by have := CV.out; rwa [HTT.out] at this) _ _ _ O6.out G6.out A6.out
          go_wp2_with fail
          go_roundg (N - (k + 1))
          case measure => omega
          case rel => exact ⟨k + 1, _, by omega, by omega, by go_num, z1, z2, z3, z4⟩
      · obtain rfl : k = N := by omega
        have hall : n.props.take k = n.props := List.take_of_length_le (by have := HN.out; omega)
        have OUA : Hid (Out (fun k => w.heap.size ≤ k ∧ k ≠ w.heap.size + 1) w.heap.size (w.heap.size + 3) M d wr (w.heap.size + 1 + 1) nm vp (.slice none 0 0) n.props []) := by
          have := OU.out
          rwa [hall] at this
        obtain ⟨ps0, own0, _⟩ := OUA.out.ps
        obtain ⟨Ap, cp, rfl⟩ := own_shape own0
        clear hall own0 OU
        have HN2 := HN.out
        rw [HN2] at OUA
        clear HN2
        have a2 : wr.cell? ⟨w.heap.size, 2, none⟩ = some (.slice Ak KN ck) := by simpa using HA.out.cell 2
        go_wp2_with fail
        clear a2
        obtain ⟨gk1, rfl⟩ : ∃ g, g = gk := ⟨_, rfl⟩
        obtain ⟨wo, rfl⟩ : ∃ wo : World, wo = wr := ⟨_, rfl⟩
        have BW1 := BW
        have HR1 := HR
        go_loopg [33] KN (fun gg s33 wr => ∃ (j : Nat) (vk : Value), j ≤ KN ∧ KN - j ≤ gg ∧ s33 = .int .i64 j ∧ Hid (Below w.heap.size w wr) ∧
          Hid (Bk wr (w.heap.size + 1) 25 #[.string ⟨#[]⟩, .slice none 0 0, .slice none 0 0]) ∧ Hid (Out (fun k => w.heap.size ≤ k ∧ k ≠ w.heap.size + 1) w.heap.size (w.heap.size + 3) M d wr (w.heap.size + 1 + 1) nm (.slice Ap k cp) vk n.props (n.kids.take j)))
        case atStart => exact ⟨0, .slice none 0 0, Nat.zero_le _, by omega, rfl, BW1, HR1, OUA⟩
        case round =>
          clear OUA BW HR HA BW1 HR1 hg hlt
          obtain ⟨j, vk, hj, hg, rfl, BW, HR, OU⟩ := hrel
          by_cases hlt : j < KN
          · have hq : n.kids[j]? = some (n.kids[j]'(by rw [HKN.out]; exact hlt)) := List.getElem?_eq_getElem _
            generalize n.kids[j]'(by rw [HKN.out]; exact hlt) = q at hq
            obtain ⟨ad, qp, qk, rfl, _, c0, c1, c2, qs, qn⟩ := (HK.out.keep (Kp.below φ BW.out) (fun _ _ h => h) (Nat.le_refl _) (Nat.le_refl _)).at_ hq
            obtain ⟨Ab, nb, cb, Ac, nc, cc, rfl, rfl⟩ := qn.form
            have HQ := Lib.hid hq
            have QS := Lib.hid qs
            have QB := Lib.hid qn
            clear hq qs qn
            obtain ⟨s, hs⟩ : ∃ s, s = q.name := ⟨_, rfl⟩
            have HS := Lib.hid hs
            rw [← hs] at c0
            clear hs
            have hlk : (n.kids.take j).length = j := by rw [List.length_take]; have := HKN.out; omega
            obtain ⟨ks, kOwn, kRel⟩ := OU.out.ks
            rw [hlk] at kOwn
            obtain ⟨A3, c3, rfl⟩ := own_shape kOwn
            have KO := Lib.hid kOwn
            have KR := Lib.hid kRel
            have HLK := Lib.hid hlk
            clear kOwn kRel hlk
            have K := Lib.hid (IH.out s (.slice Ab nb cb) (.slice Ac nc cc) q φ M (wr.alloc (.cells #[.string s, .slice Ab nb cb, .slice Ac nc cc] 25)).drew hM (QB.out.keep (Kp.below φ (Below.drew (bw_alloc (Below.refl _ _) _))) (fun _ _ h => h) (Nat.le_refl _) (Nat.le_refl _)))
            have FIN : Hid (∀ (w2 : World) (xp xk : Value), Below wr.heap.size wr w2 → NdAt (fun k => wr.heap.size ≤ k) w2 M d xp xk q → ∀ (g c6 : Nat) (w6 : World), w6.ownsRow (w.heap.size + 3) 25 3 (.slice (some ⟨g, 0, none⟩) (j + 1) c6) (j + 1) (kcs ks ++ [.string s, xp, xk]) →
                (w2.alloc (.cells #[.string s, xp, xk] 25)).grownBy w6 (Value.slice A3 j c3).ownBlock → ((Value.slice A3 j c3).ownBlock = some g ∨ g = w2.heap.size + 1) →
                Hid (Below w.heap.size w (w6.setCell ⟨w.heap.size + 1 + 1, 2, none⟩ (.slice (some ⟨g, 0, none⟩) (j + 1) c6))) ∧
                Hid (Bk (w6.setCell ⟨w.heap.size + 1 + 1, 2, none⟩ (.slice (some ⟨g, 0, none⟩) (j + 1) c6)) (w.heap.size + 1) 25 #[.string ⟨#[]⟩, .slice none 0 0, .slice none 0 0]) ∧
                Hid (Out (fun k => w.heap.size ≤ k ∧ k ≠ w.heap.size + 1) w.heap.size (w.heap.size + 3) M d (w6.setCell ⟨w.heap.size + 1 + 1, 2, none⟩ (.slice (some ⟨g, 0, none⟩) (j + 1) c6)) (w.heap.size + 1 + 1) nm (.slice Ap k cp) (.slice (some ⟨g, 0, none⟩) (j + 1) c6) n.props (n.kids.take (j + 1)))) := by
              intro w2 xp xk bel2 hcv g c6 w6 own6 hg6 hat6
              have bel3 : Below wr.heap.size wr (w2.alloc (.cells #[.string s, xp, xk] 25)) := bw_trans bel2 (bw_alloc (Below.refl _ _) _)
              have OU3 := OU.out.below bel3
              have own3 := own_below KO.out bel3
              have hlt3 : w.heap.size + 3 ≤ (w2.alloc (.cells #[.string s, xp, xk] 25)).heap.size := by have := OU.out.box.lt; have := bel2.size; simp; omega
              have hO := OU3.snocK (KR.out.mono fun _ _ _ hr => hr.keep (Kp.below _ bel3) (fun _ _ h => h)) (s := s) (bp := xp) (bk := xk) (q := q) (by rw [HLK.out]; exact own6) hg6 (by rcases hat6 with h | h; exact .inl h; right; rw [h]; simp)
                ⟨HS.out, QS.out, hcv.keep (Kp.below _ (bw_alloc (Below.refl _ _) _)) (fun k _ hk => by have := OU.out.fresh (fun k h => ⟨by omega, by omega⟩) hk; exact this) (Nat.le_refl _) (Nat.le_refl _)⟩
              rw [← take_snoc HQ.out] at hO
              have R3 := bk_grown (HR.out.below bel3) own3 (by omega) hg6
              exact ⟨bw_set (((bw_trans BW.out bel3)).grown hg6 (by omega) (fun q hq => by have := (own3.lt q hq).1; omega)) (by show w.heap.size ≤ w.heap.size + 1 + 1; omega) (by have := hg6.size; omega) _, bk_set R3 (by show w.heap.size + 1 ≠ w.heap.size + 1 + 1; omega) _, hO⟩
            have HT := Lib.hid (Bk.new wr 25 #[.string s, .slice Ab nb cb, .slice Ac nc cc])
            have HO1 : Hid (Bk wr (w.heap.size + 1 + 1) 25 #[.string nm, .slice Ap k cp, .slice A3 j c3]) := OU.out.box
            unfold NodeOut at K
            go_wp2_with fail
            have BV : Hid (Below wr.heap.size wr (wr.alloc (.cells #[.string s, .slice Ab nb cb, .slice Ac nc cc] 25))) := bw_alloc (Below.refl _ _) _
            have BT : Hid (w.heap.size + 1 + 1 < wr.heap.size) := OU.out.box.lt
            obtain ⟨T, hT⟩ : ∃ T, T = wr.heap.size := ⟨_, rfl⟩
            have HTT := Lib.hid hT
            simp only [← hT]
            simp only [← hT] at HT
            clear hT
            generalize wr.alloc (.cells #[.string s, .slice Ab nb cb, .slice Ac nc cc] 25) = V at *
            have q1 : V.cell? ⟨w.heap.size + 1 + 1, 2, none⟩ = some (.slice A3 j c3) := by simpa using (HO1.out.below BV.out).cell 2
            have q2 : V.cell? ⟨T, 0, none⟩ = some (.string s) := by simpa using HT.out.cell 0
            have q3 : V.cell? ⟨T, 1, none⟩ = some (.slice Ab nb cb) := by simpa using HT.out.cell 1
            have q4 : V.cell? ⟨T, 2, none⟩ = some (.slice Ac nc cc) := by simpa using HT.out.cell 2
            go_region_law
              (first
                | (go_simp; go_at_call 15; refine K.out.mono ?_; rintro e w2 ⟨xp, xk, rfl, b2, bel2, _⟩; obtain ⟨Xb, mb, eb, Xc, mc, ec, rfl, rfl⟩ := b2.form
                   have BEL2 : Hid (Below wr.heap.size wr w2) := bw_trans BV.out (⟨bel2.os, bel2.tape, bel2.output, bel2.size, bel2.block⟩ : Below V.heap.size V w2)
                   have B2 := Lib.hid (HO1.out.below BEL2.out); have CV : Hid (NdAt (fun k => T ≤ k) w2 M d (.slice Xb mb eb) (.slice Xc mc ec) q) := b2.keep (Kp.refl _ _) (fun k _ h => Nat.le_trans (by have := BV.out.size; rw [HTT.out]; exact this) h) (Nat.le_refl _) (Nat.le_refl _); clear b2 bel2
                   have r1 : w2.cell? ⟨w.heap.size + 1 + 1, 2, none⟩ = some (.slice A3 j c3) := by simpa using B2.out.cell 2
                   have r1' : ∀ o, (w2.alloc o).cell? ⟨w.heap.size + 1 + 1, 2, none⟩ = some (.slice A3 j c3) := fun o => by simpa using (B2.out.alloc o).cell 2)
                | (refine step_append_lies _ rfl (.tmp 38) (.tmp 41) 23 rfl (w.heap.size + 3) 25 i25 (.agg #[.string ByteArray.empty, .slice none 0 0, .slice none 0 0]) 3 64 Try.underlying23 I25.out.1 I25.out.2.1 I25.out.2.2.1 I25.out.2.2.2 rfl (by decide) (.slice A3 j c3) j (kcs ks) rfl ((own_below KO.out BEL2.out).alloc _) ⟨w2.heap.size, 0, none⟩ 1 1 [.string s, .slice Xb mb eb, .slice Xc mc ec] rfl rfl (World.news_of_block (heap_alloc_new w2 _)) (one_node s Xb mb eb Xc mc ec) (by decide) (by simp only [maxLen]; omega) (by omega) (by have := BEL2.out.size; have := BT.out; simp; omega) (w2.heap.size + 1) (by simp) ?_
                   intro g c6 w6 own6 hg6 hat6 hlt6
                   have B6 := Lib.hid (bk_grown (B2.out.alloc _) ((own_below KO.out BEL2.out).alloc _) (by omega) hg6)
                   have s2 : w6.cell? ⟨w.heap.size + 1 + 1, 2, none⟩ = some (.slice A3 j c3) := by simpa using B6.out.cell 2
                   have s1 : w6.frozen? ⟨w.heap.size + 1 + 1, 2, none⟩ = false := B6.out.free 2
                   have O6 := Lib.hid own6; have G6 := Lib.hid hg6; have A6 := Lib.hid hat6
                   clear own6 hg6 hat6 hlt6))
            all_goals
              obtain ⟨z1, z2, z3⟩ := FIN.out _ _ _ BEL2.out (by have := CV.out; rwa [HTT.out] at this) _ _ _ O6.out G6.out A6.out
              go_wp2_with fail
              go_roundg (KN - (j + 1))
              case measure => omega
              case rel => exact ⟨j + 1, _, by omega, by omega, by go_num, z1, z2, z3⟩
          · obtain rfl : j = KN := by omega
            have hall : n.kids.take j = n.kids := List.take_of_length_le (by have := HKN.out; omega)
            have OUA : Hid (Out (fun k => w.heap.size ≤ k ∧ k ≠ w.heap.size + 1) w.heap.size (w.heap.size + 3) M d wr (w.heap.size + 1 + 1) nm (.slice Ap k cp) vk n.props n.kids) := by
              have := OU.out
              rwa [hall] at this
            obtain ⟨ks0, own0, _⟩ := OUA.out.ks
            obtain ⟨Aq, cq, rfl⟩ := own_shape own0
            clear hall own0 OU
            have b0 : wr.cell? ⟨w.heap.size + 1 + 1, 0, none⟩ = some (.string nm) := by simpa using OUA.out.box.cell 0
            have b1 : wr.cell? ⟨w.heap.size + 1 + 1, 1, none⟩ = some (.slice Ap k cp) := by simpa using OUA.out.box.cell 1
            have b2 : wr.cell? ⟨w.heap.size + 1 + 1, 2, none⟩ = some (.slice Aq n.kids.length cq) := by simpa using OUA.out.box.cell 2
            have r0 : wr.cell? ⟨w.heap.size + 1, 0, none⟩ = some (.string ⟨#[]⟩) := by simpa using HR.out.cell 0
            have r1 : wr.cell? ⟨w.heap.size + 1, 1, none⟩ = some (.slice none 0 0) := by simpa using HR.out.cell 1
            have r2 : wr.cell? ⟨w.heap.size + 1, 2, none⟩ = some (.slice none 0 0) := by simpa using HR.out.cell 2
            have f0 := HR.out.free 0
            have f1 := HR.out.free 1
            have f2 := HR.out.free 2
            have RB : Hid (Bk (((wr.setCell ⟨w.heap.size + 1, 0, none⟩ (.string nm)).setCell ⟨w.heap.size + 1, 1, none⟩ (.slice Ap k cp)).setCell ⟨w.heap.size + 1, 2, none⟩ (.slice Aq n.kids.length cq)) (w.heap.size + 1) 25 #[.string nm, .slice Ap k cp, .slice Aq n.kids.length cq]) := by
              have := ((HR.out.set 0 (.string nm)).set 1 (.slice Ap k cp)).set 2 (.slice Aq n.kids.length cq)
              exact Lib.hid (by simpa using this)
            have hsz := OUA.out.box.lt
            have BF : Hid (Below w.heap.size w (((wr.setCell ⟨w.heap.size + 1, 0, none⟩ (.string nm)).setCell ⟨w.heap.size + 1, 1, none⟩ (.slice Ap k cp)).setCell ⟨w.heap.size + 1, 2, none⟩ (.slice Aq n.kids.length cq))) :=
              bw_set (bw_set (bw_set BW.out (Nat.le_succ _) (by omega) _) (Nat.le_succ _) (by simp; omega) _) (Nat.le_succ _) (by simp; omega) _
            have KF : ∀ {ψ : Nat → Prop}, (∀ k, ψ k → k ≠ w.heap.size + 1) → Kp ψ wr (((wr.setCell ⟨w.heap.size + 1, 0, none⟩ (.string nm)).setCell ⟨w.heap.size + 1, 1, none⟩ (.slice Ap k cp)).setCell ⟨w.heap.size + 1, 2, none⟩ (.slice Aq n.kids.length cq)) := fun h =>
              ((Kp.set wr ⟨w.heap.size + 1, 0, none⟩ (.string nm) h).trans (Kp.set _ ⟨w.heap.size + 1, 1, none⟩ (.slice Ap k cp) h)).trans (Kp.set _ ⟨w.heap.size + 1, 2, none⟩ (.slice Aq n.kids.length cq) h)
            have OF : Hid (OwnNd w.heap.size (((wr.setCell ⟨w.heap.size + 1, 0, none⟩ (.string nm)).setCell ⟨w.heap.size + 1, 1, none⟩ (.slice Ap k cp)).setCell ⟨w.heap.size + 1, 2, none⟩ (.slice Aq n.kids.length cq)) M d (.slice Ap k cp) (.slice Aq n.kids.length cq) n) := by
              obtain ⟨ps, p1, p2⟩ := OUA.out.ps
              obtain ⟨ks, k1, k2⟩ := OUA.out.ks
              have e1 : some (w.heap.size + 1) ≠ (Value.slice Ap k cp).ownBlock := fun e => by have := (p1.lt _ e.symm).1; omega
              have e2 : some (w.heap.size + 1) ≠ (Value.slice Aq n.kids.length cq).ownBlock := fun e => by have := (k1.lt _ e.symm).1; omega
              refine ⟨w.heap.size + 1 + 1, ⟨ps, ?_, ?_⟩, ⟨ks, ?_, ?_⟩⟩
              · exact World.ownsRow.mono (own_setb (own_setb (own_setb p1 e1 _) e1 _) e1 _) (by omega)
              · exact p2.mono fun _ _ _ hr => hr.keep (KF fun k hk => hk.1.2) (fun k _ hk => ⟨hk.1.1, hk.2⟩) (Nat.le_refl _)
              · exact World.ownsRow.mono (own_setb (own_setb (own_setb k1 e2 _) e2 _) e2 _) (by omega)
              · exact k2.mono fun _ _ _ hr => hr.keep (KF fun k hk => hk.1.2) (fun k _ hk => ⟨hk.1.1, hk.2⟩)
            have NF : Hid (NdAt (fun k => w.heap.size ≤ k) (((wr.setCell ⟨w.heap.size + 1, 0, none⟩ (.string nm)).setCell ⟨w.heap.size + 1, 1, none⟩ (.slice Ap k cp)).setCell ⟨w.heap.size + 1, 2, none⟩ (.slice Aq n.kids.length cq)) M (d + 1) (.slice Ap k cp) (.slice Aq n.kids.length cq) n) := by
              have := OUA.out.nd (fun k h => ⟨by omega, by omega⟩) (by have := HN.out; omega) (by have := HKN.out; omega)
              have h2 := this.keep (ψ := fun k => w.heap.size ≤ k) (((Kp.set wr ⟨w.heap.size + 1, 0, none⟩ (.string nm) (fun k h => h.2)).trans (Kp.set _ ⟨w.heap.size + 1, 1, none⟩ (.slice Ap k cp) (fun k h => h.2))).trans (Kp.set _ ⟨w.heap.size + 1, 2, none⟩ (.slice Aq n.kids.length cq) (fun k h => h.2))) (fun k _ h => h.1) (Nat.le_refl _) (Nat.le_refl _)
              exact h2
            go_wp2_with fail
            generalize ((wr.setCell ⟨w.heap.size + 1, 0, none⟩ (.string nm)).setCell ⟨w.heap.size + 1, 1, none⟩ (.slice Ap k cp)).setCell ⟨w.heap.size + 1, 2, none⟩ (.slice Aq n.kids.length cq) = W at *
            have y0 : W.cell? ⟨w.heap.size + 1, 0, none⟩ = some (.string nm) := by simpa using RB.out.cell 0
            have y1 : W.cell? ⟨w.heap.size + 1, 1, none⟩ = some (.slice Ap k cp) := by simpa using RB.out.cell 1
            have y2 : W.cell? ⟨w.heap.size + 1, 2, none⟩ = some (.slice Aq n.kids.length cq) := by simpa using RB.out.cell 2
            refine bodyPost_ret (v := .agg #[.string nm, .slice Ap k cp, .slice Aq n.kids.length cq]) (by simp [results, Try.results15, go_sem, y0, y1, y2]) rfl ⟨_, _, rfl, NF.out, BF.out, fun d' e => by injection e with e; subst e; exact OF.out⟩
end Go.Proofs.Ytkkpdeiooopifaa
