/- The contract of merge.Merge: a node laid over another one, in new memory (layer 10). Conditions: both are of not more than 2^40 together. -/
import Derived.Test.YtkkpdeiooopifaaCn
import Derived.Test.YtkkpdeiooopifaaSize
import Derived.Test.YtkkpdeiooopifaaIndex
namespace Go.Proofs.Ytkkpdeiooopifaa
open Go.RowKit Go.Sort
set_option linter.unusedVariables false
/-- What a merge answers. -/
def MergeOut (φ : Nat → Prop) (w : World) (M d : Nat) (nm : ByteArray) (n : Nd) (e : Ending) (w' : World) : Prop :=
  ∃ vp vk, e = .returned (.agg #[.string nm, vp, vk]) ∧ NdAt φ w' M d vp vk n ∧ Below w.heap.size w w'
/-- A property of b's laid over, or put behind. -/
theorem props_miss {a b : Nd} {k : Nat} {q : ByteArray × ByteArray} (h : b.props[k]? = some q) (hi : at_ Prod.fst q.1 (mprops a b k) < 0) : mprops a b (k + 1) = mprops a b k ++ [q] := by
  rw [mprops_step h, upk_miss _ _ _ _ hi]
theorem props_hit {a b : Nd} {k i : Nat} {q : ByteArray × ByteArray} (h : b.props[k]? = some q) (hi : at_ Prod.fst q.1 (mprops a b k) = i) : i < (mprops a b k).length ∧ mprops a b (k + 1) = (mprops a b k).set i q := by
  obtain ⟨y, h1, h2, h3⟩ := upk_hit Prod.fst (fun _ p => p) (mprops a b k) q i hi
  exact ⟨(List.getElem?_eq_some_iff.1 h1).1, by rw [mprops_step h, h3]⟩
theorem kids_miss {d : Nat} {a b : Nd} {k : Nat} {q : Nd} (h : b.kids[k]? = some q) (hi : at_ Nd.name q.name (mkids d a b k) < 0) : mkids d a b (k + 1) = mkids d a b k ++ [q] := by
  rw [mkids_step h, upk_miss _ _ _ _ hi]
theorem kids_hit {d : Nat} {a b : Nd} {k i : Nat} {q : Nd} (h : b.kids[k]? = some q) (hi : at_ Nd.name q.name (mkids d a b k) = i) : ∃ y, (mkids d a b k)[i]? = some y ∧ y.name = q.name ∧ mkids d a b (k + 1) = (mkids d a b k).set i (mergeN d y q) := by
  obtain ⟨y, h1, h2, h3⟩ := upk_hit Nd.name (mergeN d) (mkids d a b k) q i hi
  exact ⟨y, h1, h2, by rw [mkids_step h, h3]⟩
set_option maxHeartbeats 6400000 in
theorem merge_any (d : Nat) : ∀ (nm nm' : ByteArray) (vp vk up uk : Value) (a b : Nd) (φ : Nat → Prop) (M : Nat) (w : World), M ≤ 1099511627776 → szN d a + szN d b ≤ M → (∀ k, w.heap.size ≤ k → φ k) →
    NdAt φ w M d vp vk a → NdAt φ w M d up uk b → Calls Try.prog 9 #[.agg #[.string nm, vp, vk], .agg #[.string nm', up, uk]] w (MergeOut φ w M d nm (mergeN d a b)) := by
  induction d with
  | zero => intro nm nm' vp vk up uk a b φ M w hM hs hφ h; cases h
  | succ d ih =>
    intro nm nm' vp vk up uk a b φ M w hM hs hφ ha hb
    have IH := Lib.hid ih
    clear ih
    have hp := hb.1
    have hk := hb.2
    obtain ⟨Aa, na, ca, Ak, nk, ck, rfl, rfl⟩ := ha.form
    obtain ⟨A, c, rfl, h1, h2, h3⟩ := hp.form
    obtain ⟨Bk', cbk, rfl, k1, k2, k3⟩ := hk.form
    have HP := Lib.hid hp
    have HK := Lib.hid hk
    have HS := Lib.hid hs
    have HF := Lib.hid hφ
    have hla := sz_props d a
    have hlb := sz_props d b
    have hka := sz_kids d a
    have hkb := sz_kids d b
    obtain ⟨i32, hi32, hz32, hs32, hb32⟩ := info_parts info32
    obtain ⟨i25, hi25, hz25, hs25, hb25⟩ := info_parts info25
    have I32 := Lib.hid (And.intro hi32 (And.intro hz32 (And.intro hs32 hb32)))
    have I25 := Lib.hid (And.intro hi25 (And.intro hz25 (And.intro hs25 hb25)))
    clear hi32 hz32 hs32 hb32 hi25 hz25 hs25 hb25
    unfold maxLen at h2 k2
    generalize hN : b.props.length = N at *
    generalize hKN : b.kids.length = KN at *
    generalize hLA : a.props.length = LA at *
    generalize hKA : a.kids.length = KA at *
    have hLM : LA + N ≤ M := by omega
    have hKM : KA + KN ≤ M := by omega
    have HN := Lib.hid hN
    have HKN := Lib.hid hKN
    have HLA := Lib.hid hLA
    have HKA := Lib.hid hKA
    have b0 := ((bw_alloc (bw_alloc (bw_alloc (Below.refl w.heap.size w) (.cells #[.string nm, .slice Aa na ca, .slice Ak nk ck] 25)) (.cells #[.string nm', .slice A N c, .slice Bk' KN cbk] 25)) (.cells #[.string ⟨#[]⟩, .slice none 0 0, .slice none 0 0] 25)))
    have K := Lib.hid (cnode_any (d + 1) nm (.slice Aa na ca) (.slice Ak nk ck) a φ M _ hM (ha.keep (Kp.below φ b0) (fun _ _ h => h) (Nat.le_refl _) (Nat.le_refl _)))
    have B0 := Lib.hid b0
    clear hN hKN hLA hKA hs hφ ha hb hp hk b0 hla hlb hka hkb
    unfold NodeOut at K
    go_enter Try.func9, Try.ntmps9
    go_wp2_with fail
    refine K.out.mono ?_
    rintro e w1 ⟨xp, xk, rfl, b1, bel1, own1⟩
    obtain ⟨Xb, mb, eb, Xc, mc, ec, rfl, rfl⟩ := b1.form
    have HA1 := Lib.hid (((Bk.new (w.alloc (.cells #[.string nm, .slice Aa na ca, .slice Ak nk ck] 25)) 25 #[.string nm', .slice A N c, .slice Bk' KN cbk]).alloc (.cells #[.string ⟨#[]⟩, .slice none 0 0, .slice none 0 0] 25)).below bel1)
    have HR1 := Lib.hid ((Bk.new ((w.alloc (.cells #[.string nm, .slice Aa na ca, .slice Ak nk ck] 25)).alloc (.cells #[.string nm', .slice A N c, .slice Bk' KN cbk] 25)) 25 #[.string ⟨#[]⟩, .slice none 0 0, .slice none 0 0]).below bel1)
    simp only [World.size_alloc] at HA1 HR1
    have BW1 := Lib.hid (bw_trans B0.out bel1)
    have OW1 := Lib.hid (own1 d rfl)
    simp only [World.size_alloc] at OW1
    clear K b1 bel1 own1
    have OU1 : Hid (Out (fun k => φ k ∧ k ≠ w.heap.size + 1 + 1) w.heap.size (w.heap.size + 1 + 1 + 1) M d (w1.alloc (.cells #[.string nm, .slice Xb mb eb, .slice Xc mc ec] 25)) w1.heap.size nm (.slice Xb mb eb) (.slice Xc mc ec) a.props a.kids) := by
      obtain ⟨Bq, ⟨ps, p1, p2⟩, ⟨ks, q1, q2⟩⟩ := OW1.out
      have hb := bw_alloc (Below.refl w1.heap.size w1) (.cells #[.string nm, .slice Xb mb eb, .slice Xc mc ec] 25)
      have hsz : w.heap.size + 1 + 1 + 1 ≤ w1.heap.size := by have := HR1.out.lt; omega
      have hc : ∀ k, k < w1.heap.size → Cold (fun k => w.heap.size + 1 + 1 + 1 ≤ k) Bq (.slice Xb mb eb) (.slice Xc mc ec) k → Cold (fun k => φ k ∧ k ≠ w.heap.size + 1 + 1) w1.heap.size (.slice Xb mb eb) (.slice Xc mc ec) k := by
        rintro k hk ⟨c1, c2, c3, c4⟩
        exact ⟨⟨HF.out k (by omega), by omega⟩, by omega, c3, c4⟩
      refine ⟨by omega, by omega, by simp; omega, Bk.new _ _ _, fun e => ?_, ⟨ps, own_below p1 hb, p2.mono fun _ _ _ hr => hr.keep (Kp.below _ hb) hc (Nat.le_refl _)⟩, ⟨ks, own_below q1 hb, q2.mono fun _ _ _ hr => hr.keep (Kp.below _ hb) hc⟩⟩
      have := (q1.lt _ e.symm).2
      omega
    have e1 : ∀ o, (w1.alloc o).cell? ⟨w.heap.size + 1, 1, none⟩ = some (.slice A N c) := fun o => by simpa using (HA1.out.alloc o).cell 1
    have BWA : Hid (Below w.heap.size w (w1.alloc (.cells #[.string nm, .slice Xb mb eb, .slice Xc mc ec] 25))) := bw_alloc BW1.out _
    have HAA : Hid (Bk (w1.alloc (.cells #[.string nm, .slice Xb mb eb, .slice Xc mc ec] 25)) (w.heap.size + 1) 25 #[.string nm', .slice A N c, .slice Bk' KN cbk]) := HA1.out.alloc _
    have HRA : Hid (Bk (w1.alloc (.cells #[.string nm, .slice Xb mb eb, .slice Xc mc ec] 25)) (w.heap.size + 1 + 1) 25 #[.string ⟨#[]⟩, .slice none 0 0, .slice none 0 0]) := HR1.out.alloc _
    have HB1 : Hid (w.heap.size + 1 + 1 + 1 ≤ w1.heap.size) := Lib.hid (by have := HR1.out.lt; omega)
    clear OW1
    go_wp2_with fail
    clear e1
    obtain ⟨B1, hB1⟩ : ∃ B1, B1 = w1.heap.size := ⟨_, rfl⟩
    simp only [← hB1]
    simp only [← hB1] at OU1 HB1
    clear hB1
    generalize w1.alloc (.cells #[.string nm, .slice Xb mb eb, .slice Xc mc ec] 25) = W1 at *
    clear HA1 HR1 BW1
    go_loopg [17] N (fun gg s17 wr => ∃ (k : Nat) (vp : Value), k ≤ N ∧ N - k ≤ gg ∧ s17 = .int .i64 k ∧ Hid (Below w.heap.size w wr) ∧ Hid (Bk wr (w.heap.size + 1) 25 #[.string nm', .slice A N c, .slice Bk' KN cbk]) ∧
      Hid (Bk wr (w.heap.size + 1 + 1) 25 #[.string ⟨#[]⟩, .slice none 0 0, .slice none 0 0]) ∧ Hid (Out (fun k => φ k ∧ k ≠ w.heap.size + 1 + 1) w.heap.size (w.heap.size + 1 + 1 + 1) M d wr B1 nm vp (.slice Xc mc ec) (mprops a b k) a.kids))
    case atStart => exact ⟨0, _, Nat.zero_le _, by omega, rfl, BWA, HAA, HRA, OU1⟩
    case round =>
      clear OU1 BWA HAA HRA
      obtain ⟨k, vp, hk, hg, rfl, BW, HA, HR, OU⟩ := hrel
      by_cases hlt : k < N
      · have hq : b.props[k]? = some (b.props[k]'(by rw [HN.out]; exact hlt)) := List.getElem?_eq_getElem _
        generalize b.props[k]'(by rw [HN.out]; exact hlt) = q at hq
        obtain ⟨ad, bv, rfl, _, c0, c1, qs, qb⟩ := (HP.out.keep (Kp.below φ BW.out) (fun _ _ h => h) (Nat.le_refl _)).at_ hq
        obtain ⟨Ab, nb, cb, rfl⟩ := qb.form
        have HQ := Lib.hid hq
        have QS := Lib.hid qs
        have QB := Lib.hid qb
        clear hq qs qb
        obtain ⟨s, y⟩ := q
        simp only at c0
        have hL := mprops_len a b k
        rw [HLA.out] at hL
        have hL' : (mprops a b k).length ≤ M := by omega
        obtain ⟨ps, pOwn, pRel⟩ := OU.out.ps
        have KIX := Lib.hid (fun (V : World) (o : Out (fun k => φ k ∧ k ≠ w.heap.size + 1 + 1) w.heap.size (w.heap.size + 1 + 1 + 1) M d V B1 nm vp (.slice Xc mc ec) (mprops a b k) a.kids) (hc : V.cell? ⟨wr.heap.size, 0, none⟩ = some (.string s)) =>
          index_props s vp wr.heap.size _ M (by omega) (mprops a b k) V (o.pr (fun k h => ⟨HF.out k (by omega), by omega⟩) hL') hc)
        have hMS := Lib.hid (fun h => props_miss (a := a) (b := b) HQ.out h)
        have hHT := Lib.hid (fun i h => props_hit (a := a) (b := b) (i := i) HQ.out h)
        have hbd := at_bounds Prod.fst s (mprops a b k)
        simp only at hMS hHT
        generalize at_ Prod.fst s (mprops a b k) = r at KIX hMS hHT hbd
        obtain ⟨L, hLL⟩ : ∃ L, L = (mprops a b k).length := ⟨_, rfl⟩
        rw [← hLL] at hL hL' hbd pOwn
        have HLL := Lib.hid hLL
        clear hLL
        obtain ⟨A3, c3, rfl⟩ := own_shape pOwn
        have PO := Lib.hid pOwn
        have PR := Lib.hid pRel
        clear pOwn pRel
        have K := Lib.hid (bclone_any φ M (by omega) (.slice Ab nb cb) y (wr.alloc (.cells #[.string s, .slice Ab nb cb] 32)) (QB.out.keep (Kp.below φ (bw_alloc (Below.refl _ _) _)) (fun _ _ h => h) (Nat.le_refl _)))
        have HT := Lib.hid (Bk.new wr 32 #[.string s, .slice Ab nb cb])
        go_wp2_with fail
        refine K.out.mono ?_
        rintro e w2 ⟨cv, rfl, b2, bel2⟩
        obtain ⟨Ac, nc, cc, rfl⟩ := b2.form
        have BEL2 : Hid (Below wr.heap.size wr w2) := bw_trans (bw_alloc (Below.refl _ _) _) bel2
        have T2 := Lib.hid (HT.out.below bel2)
        have CV : Hid (ByAt (fun k => wr.heap.size + 1 ≤ k) w2 M (.slice Ac nc cc) y) := Lib.hid (by simpa using b2)
        clear b2 bel2 K
        have t1 : w2.cell? ⟨wr.heap.size, 1, none⟩ = some (.slice Ab nb cb) := by simpa using T2.out.cell 1
        have tf := T2.out.free 1
        have BEL3 : Hid (Below wr.heap.size wr (w2.setCell ⟨wr.heap.size, 1, none⟩ (.slice Ac nc cc))) := bw_set BEL2.out (Nat.le_refl _) BEL2.out.size _
        have T3 : Hid (Bk (w2.setCell ⟨wr.heap.size, 1, none⟩ (.slice Ac nc cc)) wr.heap.size 32 #[.string s, .slice Ac nc cc]) := Lib.hid (by simpa using T2.out.set 1 (.slice Ac nc cc))
        have CV3 : Hid (ByAt (fun k => wr.heap.size + 1 ≤ k) (w2.setCell ⟨wr.heap.size, 1, none⟩ (.slice Ac nc cc)) M (.slice Ac nc cc) y) := CV.out.keep (Kp.set _ _ _ fun k hk e => by simp only at e; omega) (fun _ _ h => h) (Nat.le_refl _)
        have K2 := Lib.hid (KIX.out _ (OU.out.below BEL3.out) (by simpa using T3.out.cell 0))
        have d1 : (w2.setCell ⟨wr.heap.size, 1, none⟩ (.slice Ac nc cc)).cell? ⟨B1, 1, none⟩ = some (.slice A3 L c3) := by simpa using (OU.out.below BEL3.out).box.cell 1
        go_wp2_with fail
        refine K2.out.mono ?_
        rintro e w4 ⟨rfl, g4⟩
        have BEL4 : Hid (Below wr.heap.size wr w4) := bw_trans BEL3.out g4.below
        have T4 := Lib.hid (T3.out.below g4.below)
        have CV4 : Hid (ByAt (fun k => wr.heap.size + 1 ≤ k) w4 M (.slice Ac nc cc) y) := CV3.out.keep (Kp.below _ g4.below) (fun _ _ h => h) (Nat.le_refl _)
        have OU4 := Lib.hid (OU.out.below BEL4.out)
        have PO4 := Lib.hid (own_below PO.out BEL4.out)
        have PR4 := Lib.hid (PR.out.mono fun _ _ _ hr => hr.keep (Kp.below _ BEL4.out) (fun _ _ h => h) (Nat.le_refl _))
        have HA4 := Lib.hid (HA.out.below BEL4.out)
        have HR4 := Lib.hid (HR.out.below BEL4.out)
        have BW4 := Lib.hid (bw_trans BW.out BEL4.out)
        have FR : Hid (∀ k', wr.heap.size + 1 ≤ k' → Cold (fun k => φ k ∧ k ≠ w.heap.size + 1 + 1) B1 (.slice A3 L c3) (.slice Xc mc ec) k') := Lib.hid fun k' hk' =>
          OU.out.fresh (fun k h => ⟨HF.out k (by omega), by omega⟩) (by omega)
        have d4 : w4.cell? ⟨B1, 1, none⟩ = some (.slice A3 L c3) := by simpa using OU4.out.box.cell 1
        have x0 : w4.cell? ⟨wr.heap.size, 0, none⟩ = some (.string s) := by simpa using T4.out.cell 0
        have x1 : w4.cell? ⟨wr.heap.size, 1, none⟩ = some (.slice Ac nc cc) := by simpa using T4.out.cell 1
        have HWR : Hid (w.heap.size + 1 + 1 + 1 ≤ wr.heap.size) := OU.out.hS
        clear g4 t1 tf d1 BEL2 BEL3 T2 T3 CV CV3 K2 KIX HT OU PO PR HA HR BW
        by_cases hr : r < 0
        · obtain rfl : r = -1 := by omega
          have hnx := Lib.hid (hMS.out hr)
          clear hr hbd
          have hlt4 : w.heap.size + 1 + 1 + 1 ≤ (w4.alloc (.cells #[.string s, .slice Ac nc cc] 32)).heap.size := by have := BEL4.out.size; have := HWR.out; simp; omega
          go_wp2_with (at_builtin; refine wpList_append_lies _ rfl (.tmp 32) (.tmp 34) 22 (by rfl) (w.heap.size + 1 + 1 + 1) 32 i32 (.agg #[.string ByteArray.empty, .slice none 0 0]) 2 40 Try.underlying22 I32.out.1 I32.out.2.1 I32.out.2.2.1 I32.out.2.2.2 rfl (by decide) (.slice A3 L c3) L (pcs ps) (by rfl) (PO4.out.alloc _) ⟨w4.heap.size, 0, none⟩ 1 1 [.string s, .slice Ac nc cc] (by rfl) rfl ?c1 ?c2 (by decide) ?c3 ?c4 hlt4 (w4.heap.size + 1) (by simp) ?_)
          case c1 => exact World.news_of_block (heap_alloc_new w4 _)
          case c2 => exact one_prop s CV4.out
          case c3 => simp only [maxLen]; omega
          case c4 => omega
          intro g c6 w6 own6 hg6 hat6 hlt6
          have hbl := bw_alloc (Below.refl w4.heap.size w4) (.cells #[.string s, .slice Ac nc cc] 32)
          have O6 := Lib.hid ((OU4.out.below hbl).snocP (PR4.out.mono fun _ _ _ hr => hr.keep (Kp.below _ hbl) (fun _ _ h => h) (Nat.le_refl _)) (s := s) (bv := .slice Ac nc cc) (q := (s, y)) (by rw [← HLL.out]; exact own6) hg6 (by rcases hat6 with h | h; exact .inl h; right; rw [h]; simp)
            ⟨rfl, QS.out, CV4.out.keep (Kp.below _ hbl) (fun k _ hk => FR.out k hk) (Nat.le_refl _)⟩)
          rw [← hnx.out] at O6
          have own4 := own_below PO4.out hbl
          have A6 := bk_grown (HA4.out.below hbl) own4 (by omega) hg6
          have R6 := bk_grown (HR4.out.below hbl) own4 (by omega) hg6
          have B6 : Bk w6 B1 25 #[.string nm, .slice A3 L c3, .slice Xc mc ec] := (hg6.block B1 (OU4.out.below hbl).box.lt (OU4.out.below hbl).np).trans (OU4.out.below hbl).box
          have s2 : w6.cell? ⟨B1, 1, none⟩ = some (.slice A3 L c3) := by simpa using B6.cell 1
          have s1 : w6.frozen? ⟨B1, 1, none⟩ = false := B6.free 1
          have AF := Lib.hid (bk_set A6 (a := ⟨B1, 1, none⟩) (by show w.heap.size + 1 ≠ B1; have := HB1.out; omega) (.slice (some ⟨g, 0, none⟩) (L + 1) c6))
          have RF := Lib.hid (bk_set R6 (a := ⟨B1, 1, none⟩) (by show w.heap.size + 1 + 1 ≠ B1; have := HB1.out; omega) (.slice (some ⟨g, 0, none⟩) (L + 1) c6))
          have BF := Lib.hid (bw_set ((bw_trans BW4.out hbl).grown hg6 (by omega) (fun q hq => by have := (own4.lt q hq).1; omega)) (a := ⟨B1, 1, none⟩) (by show w.heap.size ≤ B1; have := HB1.out; omega) (by have := hg6.size; omega) (.slice (some ⟨g, 0, none⟩) (L + 1) c6))
          clear own6 hg6 hat6 hlt6 hbl own4 A6 R6 B6
          go_wp2_with fail
          go_roundg (N - (k + 1))
          case measure => omega
          case rel => exact ⟨k + 1, _, by omega, by omega, by go_num, BF, AF, RF, O6⟩
        · obtain ⟨i, rfl⟩ : ∃ i : Nat, r = i := ⟨r.toNat, by omega⟩
          obtain ⟨hiL, hnx'⟩ := hHT.out i rfl
          rw [← HLL.out] at hiL
          have hnx := Lib.hid hnx'
          clear hnx'
          obtain ⟨g, cg, hv, hgb, hgl⟩ := PO4.out.form (by omega)
          injection hv with hv1 hv2 hv3
          subst hv1
          have y0 := PO4.out.frozenAt (i * 2)
          have y1 := PO4.out.frozenAt (i * 2 + 1)
          obtain ⟨p0, hp0⟩ : ∃ u, (pcs ps)[i * 2]? = some u := ⟨_, List.getElem?_eq_getElem (by have := PO4.out.1; omega)⟩
          obtain ⟨p1, hp1⟩ : ∃ u, (pcs ps)[i * 2 + 1]? = some u := ⟨_, List.getElem?_eq_getElem (by have := PO4.out.1; omega)⟩
          have y2 := (PO4.out.cellAt (i * 2) (by omega)).trans hp0
          have y3 := (PO4.out.cellAt (i * 2 + 1) (by omega)).trans hp1
          have ea : (⟨g, 0, none⟩ : Addr).add (i * 2) = ⟨g, i * 2, none⟩ := adr g (i * 2)
          clear hp0 hp1
          have O6 := Lib.hid (OU4.out.setP (k := i) (s := s) (bv := .slice Ac nc cc) (q := (s, y)) HLL.out ⟨rfl, QS.out, CV4.out.keep (Kp.refl _ _) (fun k _ hk => FR.out k hk) (Nat.le_refl _)⟩)
          rw [← hnx.out] at O6
          have AF := Lib.hid (bk_set (bk_set HA4.out (a := ⟨g, i * 2, none⟩) (by show w.heap.size + 1 ≠ g; omega) (.string s)) (a := ⟨g, i * 2 + 1, none⟩) (by show w.heap.size + 1 ≠ g; omega) (.slice Ac nc cc))
          have RF := Lib.hid (bk_set (bk_set HR4.out (a := ⟨g, i * 2, none⟩) (by show w.heap.size + 1 + 1 ≠ g; omega) (.string s)) (a := ⟨g, i * 2 + 1, none⟩) (by show w.heap.size + 1 + 1 ≠ g; omega) (.slice Ac nc cc))
          have BF := Lib.hid (bw_set (bw_set BW4.out (a := ⟨g, i * 2, none⟩) (by show w.heap.size ≤ g; omega) BW4.out.size (.string s)) (a := ⟨g, i * 2 + 1, none⟩) (by show w.heap.size ≤ g; omega) (by have := BW4.out.size; simp; omega) (.slice Ac nc cc))
          go_wp2_with fail
          go_roundg (N - (k + 1))
          case measure => omega
          case rel => exact ⟨k + 1, _, by omega, by omega, by go_num, BF, AF, RF, O6⟩
      · obtain rfl : k = N := by omega
        obtain ⟨ps0, own0, _⟩ := OU.out.ps
        obtain ⟨Ap, cp, rfl⟩ := own_shape own0
        obtain ⟨np, hnp⟩ : ∃ np, np = (mprops a b k).length := ⟨_, rfl⟩
        have HNP := Lib.hid hnp
        have hnpM : np ≤ M := by have := mprops_len a b k; rw [HLA.out] at this; omega
        rw [← hnp] at OU
        clear hnp own0
        have a2 : wr.cell? ⟨w.heap.size + 1, 2, none⟩ = some (.slice Bk' KN cbk) := by simpa using HA.out.cell 2
        go_wp2_with fail
        clear a2 HA
        obtain ⟨gk1, rfl⟩ : ∃ g, g = gk := ⟨_, rfl⟩
        obtain ⟨wo, rfl⟩ : ∃ wo : World, wo = wr := ⟨_, rfl⟩
        have BW1 := BW
        have HR1 := HR
        have OU1 := OU
        go_loopg [46] KN (fun gg s46 wr => ∃ (j : Nat) (vk : Value), j ≤ KN ∧ KN - j ≤ gg ∧ s46 = .int .i64 j ∧ Hid (Below w.heap.size w wr) ∧
          Hid (Bk wr (w.heap.size + 1 + 1) 25 #[.string ⟨#[]⟩, .slice none 0 0, .slice none 0 0]) ∧ Hid (Out (fun k => φ k ∧ k ≠ w.heap.size + 1 + 1) w.heap.size (w.heap.size + 1 + 1 + 1) M d wr B1 nm (.slice Ap np cp) vk (mprops a b k) (mkids d a b j)))
        case atStart => exact ⟨0, _, Nat.zero_le _, by omega, rfl, BW1, HR1, OU1⟩
        case round =>
          clear BW HR OU BW1 HR1 OU1 hg hlt
          obtain ⟨j, vk, hj, hg, rfl, BW, HR, OU⟩ := hrel
          by_cases hlt : j < KN
          · have hq : b.kids[j]? = some (b.kids[j]'(by rw [HKN.out]; exact hlt)) := List.getElem?_eq_getElem _
            generalize b.kids[j]'(by rw [HKN.out]; exact hlt) = q at hq
            obtain ⟨ad, qp, qk, rfl, _, c0, c1, c2, qs, qn⟩ := (HK.out.keep (Kp.below φ BW.out) (fun _ _ h => h) (Nat.le_refl _) (Nat.le_refl _)).at_ hq
            obtain ⟨Ab, nb, cb, Ac, nc, cc, rfl, rfl⟩ := qn.form
            have HQ := Lib.hid hq
            have QS := Lib.hid qs
            have QB : Hid (NdAt (fun k => φ k ∧ k < w.heap.size) wr M d (.slice Ab nb cb) (.slice Ac nc cc) q) := by
              obtain ⟨ad', qp', qk', e, _, _, d1, d2, _, qn'⟩ := (HK.out.keep (ψ := fun k => φ k ∧ k < w.heap.size) (Kp.refl _ w) (fun k hk h => ⟨h, hk⟩) (Nat.le_refl _) (Nat.le_refl _)).at_ hq
              injection e with e
              subst e
              have f1 := (BW.out.cell (World.block_lt_of_cell? _ _ d1)).trans d1
              have f2 := (BW.out.cell (World.block_lt_of_cell? _ _ d2)).trans d2
              rw [c1] at f1
              rw [c2] at f2
              injection f1 with f1
              injection f2 with f2
              subst f1 f2
              exact qn'.keep (Kp.below _ BW.out) (fun _ _ h => h) (Nat.le_refl _) (Nat.le_refl _)
            clear hq qs qn
            obtain ⟨s, hs⟩ : ∃ s, s = q.name := ⟨_, rfl⟩
            have HSN := Lib.hid hs
            rw [← hs] at c0
            have hL := mkids_len d a b j
            rw [HKA.out] at hL
            have hL' : (mkids d a b j).length ≤ M := by omega
            obtain ⟨ks, kOwn, kRel⟩ := OU.out.ks
            have K2 := Lib.hid (tkid_any nm s (.slice Ap np cp) vk _ _ M (by omega) (mkids d a b j) (wr.alloc (.cells #[.string s, .slice Ab nb cb, .slice Ac nc cc] 25)) ((OU.out.below (bw_alloc (Below.refl _ _) _)).ki (fun k h => ⟨HF.out k (by omega), by omega⟩) hL'))
            have hMS := Lib.hid (fun h => kids_miss (d := d) (a := a) (b := b) HQ.out h)
            have hHT := Lib.hid (fun i h => kids_hit (d := d) (a := a) (b := b) (i := i) HQ.out h)
            rw [← hs] at hMS hHT
            have hbd := at_bounds Nd.name s (mkids d a b j)
            clear hs
            generalize at_ Nd.name s (mkids d a b j) = r at K2 hMS hHT hbd
            obtain ⟨L, hLL⟩ : ∃ L, L = (mkids d a b j).length := ⟨_, rfl⟩
            rw [← hLL] at hL hL' hbd kOwn
            have HLL := Lib.hid hLL
            clear hLL
            obtain ⟨A3, c3, rfl⟩ := own_shape kOwn
            have KO := Lib.hid kOwn
            have KR := Lib.hid kRel
            clear kOwn kRel
            have HT := Lib.hid (Bk.new wr 25 #[.string s, .slice Ab nb cb, .slice Ac nc cc])
            have z0 : ∀ o, (wr.alloc o).cell? ⟨B1, 0, none⟩ = some (.string nm) := fun o => by simpa using (OU.out.box.alloc o).cell 0
            have z1 : ∀ o, (wr.alloc o).cell? ⟨B1, 1, none⟩ = some (.slice Ap np cp) := fun o => by simpa using (OU.out.box.alloc o).cell 1
            have z2 : ∀ o, (wr.alloc o).cell? ⟨B1, 2, none⟩ = some (.slice A3 L c3) := fun o => by simpa using (OU.out.box.alloc o).cell 2
            go_wp2_with fail
            refine K2.out.mono ?_
            rintro e w4 ⟨rfl, g4⟩
            have BEL4 : Hid (Below wr.heap.size wr w4) := bw_trans (bw_alloc (Below.refl _ _) _) g4.below
            have T4 := Lib.hid (HT.out.below g4.below)
            have OU4 := Lib.hid (OU.out.below BEL4.out)
            have KO4 := Lib.hid (own_below KO.out BEL4.out)
            have KR4 := Lib.hid (KR.out.mono fun _ _ _ hr => hr.keep (Kp.below _ BEL4.out) (fun _ _ h => h))
            have HR4 := Lib.hid (HR.out.below BEL4.out)
            have BW4 := Lib.hid (bw_trans BW.out BEL4.out)
            have QB4 := Lib.hid (QB.out.keep (Kp.below _ BEL4.out) (fun _ _ h => h) (Nat.le_refl _) (Nat.le_refl _))
            have HWR : Hid (w.heap.size + 1 + 1 + 1 ≤ wr.heap.size) := OU.out.hS
            have HTW : Hid (wr.heap.size < w4.heap.size) := T4.out.lt
            obtain ⟨T, hT⟩ : ∃ T, T = wr.heap.size := ⟨_, rfl⟩
            have FR : Hid (∀ k', w4.heap.size ≤ k' → Cold (fun k => φ k ∧ k ≠ w.heap.size + 1 + 1) B1 (.slice Ap np cp) (.slice A3 L c3) k') := Lib.hid fun k' hk' =>
              OU4.out.fresh (fun k h => ⟨HF.out k (by omega), by omega⟩) hk'
            simp only [← hT]
            simp only [← hT] at T4 HTW
            clear hT g4 z0 z1 z2 BEL4 HT OU KO KR HR BW K2 QB
            have q1 : w4.cell? ⟨B1, 2, none⟩ = some (.slice A3 L c3) := by simpa using OU4.out.box.cell 2
            have q2 : w4.cell? ⟨T, 0, none⟩ = some (.string s) := by simpa using T4.out.cell 0
            have q3 : w4.cell? ⟨T, 1, none⟩ = some (.slice Ab nb cb) := by simpa using T4.out.cell 1
            have q4 : w4.cell? ⟨T, 2, none⟩ = some (.slice Ac nc cc) := by simpa using T4.out.cell 2
            by_cases hr : r < 0
            · obtain rfl : r = -1 := by omega
              have hnx := Lib.hid (hMS.out hr)
              clear hr hbd hMS hHT
              have K := Lib.hid (cnode_any d s (.slice Ab nb cb) (.slice Ac nc cc) q _ M w4.drew hM (QB4.out.keep (Kp.below _ (Below.drew (Below.refl _ _))) (fun _ _ h => h) (Nat.le_refl _) (Nat.le_refl _)))
              unfold NodeOut at K
              have FIN : Hid (∀ (w2 : World) (xp xk : Value), Below w4.heap.size w4 w2 → NdAt (fun k => w4.heap.size ≤ k) w2 M d xp xk q → ∀ (g c6 : Nat) (w6 : World), w6.ownsRow (w.heap.size + 1 + 1 + 1) 25 3 (.slice (some ⟨g, 0, none⟩) (L + 1) c6) (L + 1) (kcs ks ++ [.string s, xp, xk]) →
                  (w2.alloc (.cells #[.string s, xp, xk] 25)).grownBy w6 (Value.slice A3 L c3).ownBlock → ((Value.slice A3 L c3).ownBlock = some g ∨ g = w2.heap.size + 1) →
                  Hid (Below w.heap.size w (w6.setCell ⟨B1, 2, none⟩ (.slice (some ⟨g, 0, none⟩) (L + 1) c6))) ∧
                  Hid (Bk (w6.setCell ⟨B1, 2, none⟩ (.slice (some ⟨g, 0, none⟩) (L + 1) c6)) (w.heap.size + 1 + 1) 25 #[.string ⟨#[]⟩, .slice none 0 0, .slice none 0 0]) ∧
                  Hid (Out (fun k => φ k ∧ k ≠ w.heap.size + 1 + 1) w.heap.size (w.heap.size + 1 + 1 + 1) M d (w6.setCell ⟨B1, 2, none⟩ (.slice (some ⟨g, 0, none⟩) (L + 1) c6)) B1 nm (.slice Ap np cp) (.slice (some ⟨g, 0, none⟩) (L + 1) c6) (mprops a b k) (mkids d a b (j + 1)))) := by
                intro w2 xp xk bel2 hcv g c6 w6 own6 hg6 hat6
                have bel3 : Below w4.heap.size w4 (w2.alloc (.cells #[.string s, xp, xk] 25)) := bw_trans bel2 (bw_alloc (Below.refl _ _) _)
                have OU3 := OU4.out.below bel3
                have own3 := own_below KO4.out bel3
                have hlt3 : w.heap.size + 1 + 1 + 1 ≤ (w2.alloc (.cells #[.string s, xp, xk] 25)).heap.size := OU3.hS
                have hO := OU3.snocK (KR4.out.mono fun _ _ _ hr => hr.keep (Kp.below _ bel3) (fun _ _ h => h)) (s := s) (bp := xp) (bk := xk) (q := q) (by rw [← HLL.out]; exact own6) hg6 (by rcases hat6 with h | h; exact .inl h; right; rw [h]; simp)
                  ⟨HSN.out, QS.out, hcv.keep (Kp.below _ (bw_alloc (Below.refl _ _) _)) (fun k _ hk => FR.out k hk) (Nat.le_refl _) (Nat.le_refl _)⟩
                rw [← hnx.out] at hO
                have R3 := bk_grown (HR4.out.below bel3) own3 (by omega) hg6
                exact ⟨bw_set (((bw_trans BW4.out bel3)).grown hg6 (by omega) (fun q hq => by have := (own3.lt q hq).1; omega)) (by show w.heap.size ≤ B1; have := HB1.out; omega) (by have := hg6.size; omega) _, bk_set R3 (by show w.heap.size + 1 + 1 ≠ B1; have := HB1.out; omega) _, hO⟩
              go_wp2_with fail
              go_region_law
                (first
                  | (go_simp; go_at_call 15; refine K.out.mono ?_; rintro e w2 ⟨xp, xk, rfl, b2, bel2, _⟩; obtain ⟨Xb', mb', eb', Xc', mc', ec', rfl, rfl⟩ := b2.form
                     have BEL2 : Hid (Below w4.heap.size w4 w2) := (⟨bel2.os, bel2.tape, bel2.output, bel2.size, bel2.block⟩ : Below w4.heap.size w4 w2)
                     have B2 := Lib.hid (OU4.out.box.below BEL2.out); have CV : Hid (NdAt (fun k => w4.heap.size ≤ k) w2 M d (.slice Xb' mb' eb') (.slice Xc' mc' ec') q) := b2; clear b2 bel2
                     have r1 : w2.cell? ⟨B1, 2, none⟩ = some (.slice A3 L c3) := by simpa using B2.out.cell 2
                     have r1' : ∀ o, (w2.alloc o).cell? ⟨B1, 2, none⟩ = some (.slice A3 L c3) := fun o => by simpa using (B2.out.alloc o).cell 2)
                  | (refine step_append_lies _ rfl (.tmp 57) (.tmp 60) 23 rfl (w.heap.size + 1 + 1 + 1) 25 i25 (.agg #[.string ByteArray.empty, .slice none 0 0, .slice none 0 0]) 3 64 Try.underlying23 I25.out.1 I25.out.2.1 I25.out.2.2.1 I25.out.2.2.2 rfl (by decide) (.slice A3 L c3) L (kcs ks) rfl ((own_below KO4.out BEL2.out).alloc _) ⟨w2.heap.size, 0, none⟩ 1 1 [.string s, .slice Xb' mb' eb', .slice Xc' mc' ec'] rfl rfl (World.news_of_block (heap_alloc_new w2 _)) (one_node s Xb' mb' eb' Xc' mc' ec') (by decide) (by simp only [maxLen]; omega) (by omega) (by have := BEL2.out.size; have hSS := OU4.out.hS; simp; omega) (w2.heap.size + 1) (by simp) ?_
                     intro g c6 w6 own6 hg6 hat6 hlt6
                     have hbl := bw_trans BEL2.out (bw_alloc (Below.refl w2.heap.size w2) (.cells #[.string s, .slice Xb' mb' eb', .slice Xc' mc' ec'] 25))
                     have B6 : Hid (Bk w6 B1 25 #[.string nm, .slice Ap np cp, .slice A3 L c3]) := (hg6.block B1 (OU4.out.below hbl).box.lt (OU4.out.below hbl).nk).trans (OU4.out.below hbl).box
                     have s2 : w6.cell? ⟨B1, 2, none⟩ = some (.slice A3 L c3) := by simpa using B6.out.cell 2
                     have s1 : w6.frozen? ⟨B1, 2, none⟩ = false := B6.out.free 2
                     have O6 := Lib.hid own6; have G6 := Lib.hid hg6; have A6 := Lib.hid hat6
                     clear own6 hg6 hat6 hlt6 hbl))
              all_goals
                obtain ⟨z1, z2, z3⟩ := FIN.out _ _ _ BEL2.out CV.out _ _ _ O6.out G6.out A6.out
                go_wp2_with fail
                go_roundg (KN - (j + 1))
                case measure => omega
                case rel => exact ⟨j + 1, _, by omega, by omega, by go_num, z1, z2, z3⟩
            · obtain ⟨i, rfl⟩ : ∃ i : Nat, r = i := ⟨r.toNat, by omega⟩
              obtain ⟨y, hy, hyn, hnx'⟩ := hHT.out i rfl
              have hnx := Lib.hid hnx'
              have HYN := Lib.hid hyn
              have hsz := Lib.hid (Nat.le_trans (sz_below HQ.out (List.mem_of_getElem? hy)) HS.out)
              have hiL : i < L := by have := (List.getElem?_eq_some_iff.1 hy).1; have := HLL.out; omega
              obtain ⟨kk, hkk, r1, r2, r3⟩ := KR4.out.get hy
              obtain ⟨yn, yp, yk⟩ := kk
              simp only at r1 r3
              obtain ⟨Yb, mb', eb', Yc, mc', ec', rfl, rfl⟩ := r3.form
              obtain ⟨e0, e1, e2⟩ := kcs_at ks i _ hkk
              obtain ⟨g, cg, hv, hgb, hgl⟩ := KO4.out.form (by omega)
              injection hv with hv1 hv2 hv3
              subst hv1
              have y0 := KO4.out.frozenAt (i * 3)
              have y0' := KO4.out.frozenAt (i * 3 + 1)
              have y0'' := KO4.out.frozenAt (i * 3 + 2)
              have y2 := (KO4.out.cellAt (i * 3) (by omega)).trans e0
              have y3 := (KO4.out.cellAt (i * 3 + 1) (by omega)).trans e1
              have y4 := (KO4.out.cellAt (i * 3 + 2) (by omega)).trans e2
              simp only at y2 y3 y4
              have ea : (⟨g, 0, none⟩ : Addr).add (i * 3) = ⟨g, i * 3, none⟩ := adr g (i * 3)
              have R1 := Lib.hid r1
              have R2 := Lib.hid r2
              have K := Lib.hid (IH.out yn s (.slice Yb mb' eb') (.slice Yc mc' ec') (.slice Ab nb cb) (.slice Ac nc cc) y q (Cold (fun k => φ k ∧ k ≠ w.heap.size + 1 + 1) B1 (.slice Ap np cp) (.slice (some ⟨g, 0, none⟩) L c3)) M w4.drew hM hsz.out (fun k hk => FR.out k hk)
                (r3.keep (Kp.below _ (Below.drew (Below.refl _ _))) (fun _ _ h => h) (Nat.le_refl _) (Nat.le_refl _)) (QB4.out.keep (Kp.below _ (Below.drew (Below.refl _ _))) (fun k _ h => OU4.out.old h.2 ⟨h.1, by have := h.2; omega⟩) (Nat.le_refl _) (Nat.le_refl _)))
              unfold MergeOut at K
              clear hnx' hyn hy hkk r1 r2 r3 e0 e1 e2 hr hbd hMS hHT
              have FIN : Hid (∀ (w6 : World) (xp xk : Value), Below w4.heap.size w4 w6 → NdAt (Cold (fun k => φ k ∧ k ≠ w.heap.size + 1 + 1) B1 (.slice Ap np cp) (.slice (some ⟨g, 0, none⟩) L c3)) w6 M d xp xk (mergeN d y q) →
                  Hid (Below w.heap.size w (((w6.setCell ⟨g, i * 3, none⟩ (.string yn)).setCell ⟨g, i * 3 + 1, none⟩ xp).setCell ⟨g, i * 3 + 2, none⟩ xk)) ∧
                  Hid (Bk (((w6.setCell ⟨g, i * 3, none⟩ (.string yn)).setCell ⟨g, i * 3 + 1, none⟩ xp).setCell ⟨g, i * 3 + 2, none⟩ xk) (w.heap.size + 1 + 1) 25 #[.string ⟨#[]⟩, .slice none 0 0, .slice none 0 0]) ∧
                  Hid (Out (fun k => φ k ∧ k ≠ w.heap.size + 1 + 1) w.heap.size (w.heap.size + 1 + 1 + 1) M d (((w6.setCell ⟨g, i * 3, none⟩ (.string yn)).setCell ⟨g, i * 3 + 1, none⟩ xp).setCell ⟨g, i * 3 + 2, none⟩ xk) B1 nm (.slice Ap np cp) (.slice (some ⟨g, 0, none⟩) L c3) (mprops a b k) (mkids d a b (j + 1)))) := by
                intro w6 xp xk bel6 hcv
                have BW6 := bw_trans BW4.out bel6
                have hO := (OU4.out.below bel6).setK (k := i) (s := yn) (bp := xp) (bk := xk) (q := mergeN d y q) HLL.out ⟨by rw [mergeN_name]; exact R1.out, by rw [mergeN_name]; exact R2.out, hcv⟩
                rw [← hnx.out] at hO
                exact ⟨bw_set (bw_set (bw_set BW6 (a := ⟨g, i * 3, none⟩) (by show w.heap.size ≤ g; omega) BW6.size (.string yn)) (a := ⟨g, i * 3 + 1, none⟩) (by show w.heap.size ≤ g; omega) (by have := BW6.size; simp; omega) xp) (a := ⟨g, i * 3 + 2, none⟩) (by show w.heap.size ≤ g; omega) (by have := BW6.size; simp; omega) xk,
                  bk_set (bk_set (bk_set (HR4.out.below bel6) (a := ⟨g, i * 3, none⟩) (by show w.heap.size + 1 + 1 ≠ g; omega) (.string yn)) (a := ⟨g, i * 3 + 1, none⟩) (by show w.heap.size + 1 + 1 ≠ g; omega) xp) (a := ⟨g, i * 3 + 2, none⟩) (by show w.heap.size + 1 + 1 ≠ g; omega) xk, hO⟩
              go_wp2_with fail
              go_region_law
                (go_simp; go_at_call 9; refine K.out.mono ?_; rintro e w6 ⟨xp, xk, rfl, b2, bel2⟩; obtain ⟨Xb', mb'', eb'', Xc', mc'', ec'', rfl, rfl⟩ := b2.form
                 have BEL2 : Hid (Below w4.heap.size w4 w6) := (⟨bel2.os, bel2.tape, bel2.output, bel2.size, bel2.block⟩ : Below w4.heap.size w4 w6)
                 have B2 := Lib.hid (OU4.out.box.below BEL2.out); have CV := Lib.hid b2; clear b2 bel2
                 have r1 : w6.cell? ⟨B1, 2, none⟩ = some (.slice (some ⟨g, 0, none⟩) L c3) := by simpa using B2.out.cell 2
                 have own6 := own_below KO4.out BEL2.out
                 have s0 := own6.frozenAt (i * 3)
                 have s1 := own6.frozenAt (i * 3 + 1)
                 have s2 := own6.frozenAt (i * 3 + 2)
                 have v0 := cell_stays BEL2.out y2
                 have v1 := cell_stays BEL2.out y3
                 have v2 := cell_stays BEL2.out y4
                 clear own6)
              all_goals
                obtain ⟨z1, z2, z3⟩ := FIN.out _ _ _ BEL2.out CV.out
                go_wp2_with fail
                go_roundg (KN - (j + 1))
                case measure => omega
                case rel => exact ⟨j + 1, _, by omega, by omega, by go_num, z1, z2, z3⟩
          · obtain rfl : j = KN := by omega
            obtain ⟨ks0, own0, _⟩ := OU.out.ks
            obtain ⟨Aq, cq, rfl⟩ := own_shape own0
            obtain ⟨nq, hnq⟩ : ∃ nq, nq = (mkids d a b j).length := ⟨_, rfl⟩
            have hnqM : nq ≤ M := by have := mkids_len d a b j; rw [HKA.out] at this; omega
            have HNQ := Lib.hid hnq
            rw [← hnq] at OU
            clear hnq own0
            have b0 : wr.cell? ⟨B1, 0, none⟩ = some (.string nm) := by simpa using OU.out.box.cell 0
            have b1 : wr.cell? ⟨B1, 1, none⟩ = some (.slice Ap np cp) := by simpa using OU.out.box.cell 1
            have b2 : wr.cell? ⟨B1, 2, none⟩ = some (.slice Aq nq cq) := by simpa using OU.out.box.cell 2
            have r0 : wr.cell? ⟨w.heap.size + 1 + 1, 0, none⟩ = some (.string ⟨#[]⟩) := by simpa using HR.out.cell 0
            have r1 : wr.cell? ⟨w.heap.size + 1 + 1, 1, none⟩ = some (.slice none 0 0) := by simpa using HR.out.cell 1
            have r2 : wr.cell? ⟨w.heap.size + 1 + 1, 2, none⟩ = some (.slice none 0 0) := by simpa using HR.out.cell 2
            have f0 := HR.out.free 0
            have f1 := HR.out.free 1
            have f2 := HR.out.free 2
            have RB : Hid (Bk (((wr.setCell ⟨w.heap.size + 1 + 1, 0, none⟩ (.string nm)).setCell ⟨w.heap.size + 1 + 1, 1, none⟩ (.slice Ap np cp)).setCell ⟨w.heap.size + 1 + 1, 2, none⟩ (.slice Aq nq cq)) (w.heap.size + 1 + 1) 25 #[.string nm, .slice Ap np cp, .slice Aq nq cq]) := by
              have := ((HR.out.set 0 (.string nm)).set 1 (.slice Ap np cp)).set 2 (.slice Aq nq cq)
              exact Lib.hid (by simpa using this)
            have hsz := HR.out.lt
            have BF : Hid (Below w.heap.size w (((wr.setCell ⟨w.heap.size + 1 + 1, 0, none⟩ (.string nm)).setCell ⟨w.heap.size + 1 + 1, 1, none⟩ (.slice Ap np cp)).setCell ⟨w.heap.size + 1 + 1, 2, none⟩ (.slice Aq nq cq))) :=
              bw_set (bw_set (bw_set BW.out (by show w.heap.size ≤ w.heap.size + 1 + 1; omega) BW.out.size _) (by show w.heap.size ≤ w.heap.size + 1 + 1; omega) (by simp; omega) _) (by show w.heap.size ≤ w.heap.size + 1 + 1; omega) (by simp; omega) _
            have NF : Hid (NdAt φ (((wr.setCell ⟨w.heap.size + 1 + 1, 0, none⟩ (.string nm)).setCell ⟨w.heap.size + 1 + 1, 1, none⟩ (.slice Ap np cp)).setCell ⟨w.heap.size + 1 + 1, 2, none⟩ (.slice Aq nq cq)) M (d + 1) (.slice Ap np cp) (.slice Aq nq cq) (mergeN (d + 1) a b)) := by
              have hnd := OU.out.nd (fun k h => ⟨HF.out k (by omega), by omega⟩) (by have := HNP.out; omega) (by have := HNQ.out; omega)
              have h2 := hnd.keep (ψ := φ) (((Kp.set wr ⟨w.heap.size + 1 + 1, 0, none⟩ (.string nm) (fun k h => h.2)).trans (Kp.set _ ⟨w.heap.size + 1 + 1, 1, none⟩ (.slice Ap np cp) (fun k h => h.2))).trans (Kp.set _ ⟨w.heap.size + 1 + 1, 2, none⟩ (.slice Aq nq cq) (fun k h => h.2))) (fun k _ h => h.1) (Nat.le_refl _) (Nat.le_refl _)
              show NdAt φ _ M (d + 1) _ _ _
              rw [merge_is, HN.out, HKN.out]
              exact h2
            go_wp2_with fail
            generalize (((wr.setCell ⟨w.heap.size + 1 + 1, 0, none⟩ (.string nm)).setCell ⟨w.heap.size + 1 + 1, 1, none⟩ (.slice Ap np cp)).setCell ⟨w.heap.size + 1 + 1, 2, none⟩ (.slice Aq nq cq)) = W at *
            have y0 : W.cell? ⟨w.heap.size + 1 + 1, 0, none⟩ = some (.string nm) := by simpa using RB.out.cell 0
            have y1 : W.cell? ⟨w.heap.size + 1 + 1, 1, none⟩ = some (.slice Ap np cp) := by simpa using RB.out.cell 1
            have y2 : W.cell? ⟨w.heap.size + 1 + 1, 2, none⟩ = some (.slice Aq nq cq) := by simpa using RB.out.cell 2
            refine bodyPost_ret (v := .agg #[.string nm, .slice Ap np cp, .slice Aq nq cq]) (by simp [results, Try.results9, go_sem, y0, y1, y2]) rfl ⟨_, _, rfl, NF.out, BF.out⟩
end Go.Proofs.Ytkkpdeiooopifaa
