/- The contract of theirs: buses as the program has them (layer 21). Conditions: not more than 600 buses, and entries on each. -/
import Derived.Test.YtlamkhmbjkjbdaaFab
import Derived.Deep.AppendLies
namespace Go.Proofs.Ytlamkhmbjkjbdaa
open Go.RowKit Go.Sort
set_option linter.unusedVariables false
def En.cs (e : En) : List Value := [.int .u64 e.a, .int .u64 e.s, .bool e.y, .int .i64 e.d, .int .u64 e.b]
def rowc (es : List En) : List Value := es.flatMap En.cs
theorem rowc_len (es : List En) : (rowc es).length = es.length * 5 := by
  induction es with
  | nil => rfl
  | cons e es ih => simp only [rowc, List.flatMap_cons, List.length_append, List.length_cons] at ih ⊢; rw [ih]; simp [En.cs]; omega
theorem rowc_at (es : List En) (i : Nat) (h : i < es.length) (j : Nat) (hj : j < 5) : (rowc es)[i * 5 + j]? = es[i].cs[j]? := by
  induction es generalizing i with
  | nil => simp at h
  | cons e es ih =>
    have hl : e.cs.length = 5 := rfl
    cases i with
    | zero =>
      simp only [rowc, List.flatMap_cons]
      rw [List.getElem?_append_left (by omega)]
      simp
    | succ i =>
      simp only [rowc, List.flatMap_cons]
      rw [List.getElem?_append_right (by omega), hl, show (i + 1) * 5 + j - 5 = i * 5 + j from by omega]
      exact ih i (by simpa using h)
theorem rowc_snoc (es : List En) (k : Nat) (h : k < es.length) : rowc (es.take (k + 1)) = rowc (es.take k) ++ es[k].cs := by
  unfold rowc
  rw [List.take_succ_eq_append_getElem h, List.flatMap_append]
  simp
theorem adr (g j : Nat) : (⟨g, 0, none⟩ : Addr).add j = ⟨g, j, none⟩ := by unfold Addr.add; split <;> simp_all
/-- A row of the call's own that holds entries. -/
theorem ents_own {w : World} {base : Nat} {A : Option Addr} {n c : Nat} {es : List En} (h : w.ownsRow base 48 5 (.slice A n c) n (rowc es)) (hn : es.length = n) (hok : ∀ e ∈ es, e.Ok) :
    Ents w A es ∧ n ≤ c ∧ c ≤ maxLen ∧ ∀ ad, A = some ad → base ≤ ad.block ∧ ad.block < w.heap.size := by
  refine ⟨fun i hi => ?_, ?_, ?_, ?_⟩
  · obtain ⟨g, cap, hv, hb, hlt⟩ := h.form (by omega)
    injection hv with hA
    subst hA
    refine ⟨_, rfl, ?_, hok _ (List.getElem_mem hi)⟩
    have hc : ∀ j, j < 5 → w.cell? ⟨g, i * 5 + j, none⟩ = es[i].cs[j]? := fun j hj => by
      rw [← rowc_at es i hi j hj, ← h.cellAt (i * 5 + j) (by omega)]
    rw [adr]
    exact ⟨hc 0 (by omega), hc 1 (by omega), hc 2 (by omega), hc 3 (by omega), hc 4 (by omega)⟩
  · rcases h.2 with ⟨hv, h0⟩ | ⟨g, cap, cur, hv, _, _, h1, h2, _⟩
    · injection hv; omega
    · injection hv; omega
  · rcases h.2 with ⟨hv, h0⟩ | ⟨g, cap, cur, hv, _, _, h1, h2, _⟩
    · injection hv; simp only [maxLen]; omega
    · injection hv; omega
  · rintro ad rfl
    exact h.lt ad.block rfl
theorem ents_grown {w w' : World} {A : Option Addr} {es : List En} {row : Option Nat} (h : Ents w A es) (hg : w.grownBy w' row) (hne : ∀ ad, A = some ad → some ad.block ≠ row) : Ents w' A es := fun i hi => by
  obtain ⟨ad, rfl, k, o⟩ := h i hi
  have hb : (ad.add (i * 5)).block = ad.block := by unfold Addr.add; split <;> rfl
  have hl := World.block_lt_of_cell? _ _ k.c0
  have hn : some (ad.add (i * 5)).block ≠ row := by rw [hb]; exact hne ad rfl
  refine ⟨ad, rfl, ⟨?_, ?_, ?_, ?_, ?_⟩, o⟩
  · rw [hg.cell_far _ hl hn]; exact k.c0
  · exact (hg.cell_far ⟨(ad.add (i * 5)).block, (ad.add (i * 5)).off + 1, none⟩ hl hn).trans k.c1
  · exact (hg.cell_far ⟨(ad.add (i * 5)).block, (ad.add (i * 5)).off + 2, none⟩ hl hn).trans k.c2
  · exact (hg.cell_far ⟨(ad.add (i * 5)).block, (ad.add (i * 5)).off + 3, none⟩ hl hn).trans k.c3
  · exact (hg.cell_far ⟨(ad.add (i * 5)).block, (ad.add (i * 5)).off + 4, none⟩ hl hn).trans k.c4
/-- What came of the first buses. -/
def Outer (base : Nat) (F : Fb) (k : Nat) (A : Option Addr) (c : Nat) (w : World) : Prop :=
  ∃ xs, w.ownsRow base 46 1 (.slice A k c) k xs ∧ ∀ i (h : i < F.length), i < k → ∃ B d, xs[i]? = some (.slice B F[i].length d) ∧ F[i].length ≤ d ∧ d ≤ maxLen ∧ Ents w B F[i] ∧ (∀ ad, B = some ad → some ad.block ≠ (Value.slice A k c).ownBlock ∧ ad.block < w.heap.size)
theorem outer_fab {base : Nat} {F : Fb} {A : Option Addr} {c : Nat} {w : World} (h : Outer base F F.length A c w) : Fab w A F := by
  obtain ⟨xs, hown, hx⟩ := h
  intro i hi
  obtain ⟨B, d, hxi, h1, h2, hE, _⟩ := hx i hi hi
  obtain ⟨g, cap, hv, hb, hlt⟩ := hown.form (by omega)
  injection hv with hA
  subst hA
  refine ⟨_, B, d, rfl, ?_, h1, h2, hE⟩
  exact hown.cells (g := g) rfl i _ hxi
theorem Outer.below {base : Nat} {F : Fb} {k : Nat} {A : Option Addr} {c : Nat} {w w1 : World} (h : Outer base F k A c w) (hb : Below w.heap.size w w1) : Outer base F k A c w1 := by
  obtain ⟨xs, hown, hx⟩ := h
  have hg : w.grownBy w1 none := ⟨hb.os, hb.tape, hb.output, hb.size, fun i hi _ => hb.block i hi⟩
  refine ⟨xs, hown.kept hg ?_, fun i hi hk => ?_⟩
  · cases A <;> simp [Value.ownBlock]
  · obtain ⟨B, d, a1, a2, a3, a4, a5⟩ := hx i hi hk
    exact ⟨B, d, a1, a2, a3, a4.stays hb, fun ad e => ⟨(a5 ad e).1, Nat.lt_of_lt_of_le (a5 ad e).2 hb.size⟩⟩
theorem info46 : (Try.prog.info? 46).map (fun i => (i.zero, i.size, i.bytes)) = some (some (.slice none 0 0), 1, 24) := by kernel_rfl
theorem info48 : (Try.prog.info? 48).map (fun i => (i.zero, i.size, i.bytes)) = some (some (.agg #[.int .u64 0, .int .u64 0, .bool false, .int .i64 0, .int .u64 0]), 5, 40) := by kernel_rfl
def TheirsPost (F : Fb) (w : World) (e : Ending) (w' : World) : Prop := ∃ A c, e = .returned (.slice A F.length c) ∧ Fab w' A F ∧ Below w.heap.size w w'
def TheirsFull (F : Fb) (w : World) (e : Ending) (w' : World) : Prop := ∃ A c, e = .returned (.slice A F.length c) ∧ Fab w' A F ∧ Below w.heap.size w w' ∧ F.length ≤ c ∧ c ≤ maxLen
set_option maxHeartbeats 3200000 in
theorem theirs_full (A : Option Addr) (c : Nat) (F : Fb) (hL : F.length ≤ 600) (hR : ∀ es ∈ F, es.length ≤ 600) (w : World) (hF : Fab w A F) :
    Calls Try.prog 9 #[.slice A F.length c] w (TheirsFull F w) := by
  obtain ⟨i46, hi46, hz46, hs46, hb46⟩ := info_parts info46
  obtain ⟨i48, hi48, hz48, hs48, hb48⟩ := info_parts info48
  have HI := Lib.hid (And.intro hi46 (And.intro hz46 (And.intro hs46 hb46)))
  have HI8 := Lib.hid (And.intro hi48 (And.intro hz48 (And.intro hs48 hb48)))
  have HF := Lib.hid hF
  have HR := Lib.hid hR
  clear hF hR hi46 hz46 hs46 hb46 hi48 hz48 hs48 hb48
  obtain ⟨L, hLL⟩ : ∃ L, L = F.length := ⟨_, rfl⟩
  have HL := Lib.hid hLL
  rw [← hLL] at hL ⊢
  clear hLL
  go_enter Try.func9, Try.ntmps9
  go_wp2_with fail
  go_loopg [3, 4, 5, 6, 9] L (fun gg s3 _ _ _ s9 wr => ∃ (k c3 : Nat) (A3 : Option Addr), k ≤ L ∧ L - k ≤ gg ∧ s9 = .int .i64 k ∧ s3 = .slice A3 k c3 ∧ Hid (Below w.heap.size w wr) ∧ Hid (Outer w.heap.size F k A3 c3 wr))
  case atStart => exact ⟨0, 0, none, Nat.zero_le _, by omega, rfl, rfl, Below.refl _ _, ⟨[], World.ownsRow_nil _ _ _ _, fun i _ hi => absurd hi (Nat.not_lt_zero _)⟩⟩
  case round =>
    obtain ⟨k, c3, A3, hk, hg, rfl, rfl, BW, OU⟩ := hrel
    by_cases hlt : k < L
    · obtain ⟨ad, B, c1, rfl, hc, hl1, hl2, hE⟩ := (HF.out.stays BW.out) k (by rw [← HL.out]; exact hlt)
      have hes : F[k]'(by rw [← HL.out]; exact hlt) ∈ F := List.getElem_mem _
      have h600 := HR.out _ hes
      have HN : Hid (∀ h : k < F.length, F[k] = F[k]'(by rw [← HL.out]; exact hlt)) := fun _ => rfl
      generalize F[k]'(by rw [← HL.out]; exact hlt) = es at hc hl1 hl2 hE h600 HN
      clear hes
      have hcb := World.block_lt_of_cell? _ _ hc
      unfold maxLen at hl2
      obtain ⟨N, hNN⟩ : ∃ N, N = es.length := ⟨_, rfl⟩
      have HNN := Lib.hid hNN
      rw [← hNN] at hc hl1 h600
      have HC := Lib.hid hc
      have HE := Lib.hid hE
      clear hNN hE
      go_wp2_with fail
      obtain ⟨wo, rfl⟩ : ∃ wo : World, wo = wr := ⟨_, rfl⟩
      obtain ⟨gk1, rfl⟩ : ∃ g, g = gk := ⟨_, rfl⟩
      go_loopg [5, 6, 17] N (fun gg s5 _ s17 wr => ∃ (j c5 : Nat) (A5 : Option Addr), j ≤ N ∧ N - j ≤ gg ∧ s17 = .int .i64 j ∧ s5 = .slice A5 j c5 ∧ Hid (Below wo.heap.size wo wr) ∧ Hid (wr.ownsRow wo.heap.size 48 5 (.slice A5 j c5) j (rowc (es.take j))))
      case atStart => exact ⟨0, 0, none, Nat.zero_le _, by omega, rfl, rfl, Below.refl _ _, World.ownsRow_nil _ _ _ _⟩
      case round =>
        obtain ⟨j, c5, A5, hj, hg2, rfl, rfl, BI, OI⟩ := hrel
        by_cases hjl : j < N
        · obtain ⟨bd, rfl, hat, hok⟩ := (HE.out.stays BI.out) j (by rw [← HNN.out]; exact hjl)
          have HSN := Lib.hid (rowc_snoc es j (by rw [← HNN.out]; exact hjl))
          generalize es[j]'(by rw [← HNN.out]; exact hjl) = e at hat hok HSN
          obtain ⟨ea, es', ey, ed, eb⟩ := e
          obtain ⟨f0, f1, f2, f3, f4⟩ := hat
          simp only at f0 f1 f2 f3 f4
          have hc2 := (BI.out.cell hcb).trans HC.out
          clear hok
          obtain ⟨hi, hz, hs, hb⟩ := HI8.out
          have O0 := Lib.hid (OI.out.alloc (.cells #[.int .u64 ea, .int .u64 es', .bool ey, .int .i64 ed, .int .u64 eb] 48))
          have hbs : wo.heap.size ≤ (wr.alloc (.cells #[.int .u64 ea, .int .u64 es', .bool ey, .int .i64 ed, .int .u64 eb] 48)).heap.size := by have := BI.out.size; simp; omega
          go_wp2_with (at_builtin; refine wpList_append_lies _ rfl (.tmp 20) (.tmp 28) 46 (by rfl) wo.heap.size 48 i48 (.agg #[.int .u64 0, .int .u64 0, .bool false, .int .i64 0, .int .u64 0]) 5 40 Try.underlying46 hi hz hs hb rfl (by decide) (.slice A5 j c5) j (rowc (es.take j)) (by rfl) O0.out ⟨wr.heap.size, 0, none⟩ 1 1 (En.cs ⟨ea, es', ey, ed, eb⟩) (by rfl) rfl ?c1 ?c2 (by decide) ?c3 ?c4 hbs (wr.heap.size + 1) (by simp) ?_)
          case c1 => exact World.news_of_block (heap_alloc_new wr _)
          case c2 => intro u hu; simp only [En.cs, List.mem_cons, List.not_mem_nil, or_false] at hu; rcases hu with rfl | rfl | rfl | rfl | rfl <;> rfl
          case c3 => simp only [maxLen]; omega
          case c4 => omega
          intro g c6 w6 own6 hg6 hat6 hlt6
          rw [← HSN.out] at own6
          have O6 := Lib.hid own6
          have B6 := Lib.hid ((bw_alloc BI.out (.cells #[.int .u64 ea, .int .u64 es', .bool ey, .int .i64 ed, .int .u64 eb] 48)).grown hg6 hbs (fun q hq => (O0.out.lt q hq).1))
          clear own6 hg6 hat6 hlt6 hbs hi hz hs hb O0 f0 f1 f2 f3 f4 hc2
          go_wp2_with fail
          go_roundg (N - (j + 1))
          case measure => omega
          case rel => exact ⟨j + 1, c6, _, by omega, by omega, by go_num, rfl, B6, O6⟩
        · obtain rfl : j = N := by omega
          have OE : Hid (wr.ownsRow wo.heap.size 48 5 (.slice A5 j c5) j (rowc es)) := by
            have := OI.out
            rwa [List.take_of_length_le (by have := HNN.out; omega)] at this
          clear hc
          have hokE : Hid (∀ e ∈ es, e.Ok) := by
            intro e he
            obtain ⟨q, hq, rfl⟩ := List.getElem_of_mem he
            obtain ⟨_, _, _, ok⟩ := HE.out q hq
            exact ok
          obtain ⟨hi, hz, hs, hb⟩ := HI.out
          have OO := OU.out.below BI.out
          obtain ⟨xs, own3, hx⟩ := OO
          have O3 := Lib.hid (own3.alloc (.cells #[.slice A5 j c5] 46))
          have HX := Lib.hid hx
          have hbs : w.heap.size ≤ (wr.alloc (.cells #[.slice A5 j c5] 46)).heap.size := by have := BI.out.size; have := BW.out.size; simp; omega
          clear own3 hx
          go_wp2_with (at_builtin; refine wpList_append_lies _ rfl (.tmp 31) (.tmp 33) 32 (by rfl) w.heap.size 46 i46 (.slice none 0 0) 1 24 Try.underlying32 hi hz hs hb rfl (by decide) (.slice A3 k c3) k xs (by rfl) O3.out ⟨wr.heap.size, 0, none⟩ 1 1 [.slice A5 j c5] (by rfl) rfl ?c1 ?c2 (by decide) ?c3 ?c4 hbs (wr.heap.size + 1) (by simp) ?_)
          case c1 => exact World.news_of_block (heap_alloc_new wr _)
          case c2 => intro u hu; simp only [List.mem_cons, List.not_mem_nil, or_false] at hu; subst hu; rfl
          case c3 => simp only [maxLen]; omega
          case c4 => omega
          intro g c6 w6 own6 hg6 hat6 hlt6
          have hjn := HNN.out
          obtain ⟨e1, e2, e3, e4⟩ := ents_own OE.out (by omega) hokE.out
          obtain ⟨_, own0, _⟩ := OU.out
          have hBel : Below wr.heap.size wr (wr.alloc (.cells #[.slice A5 j c5] 46)) := bw_alloc (Below.refl _ _) _
          have O6 : Hid (Outer w.heap.size F (k + 1) (some ⟨g, 0, none⟩) c6 w6) := by
            refine ⟨xs ++ [.slice A5 j c5], own6, fun i hi hik => ?_⟩
            have hxl : xs.length = k := by have := O3.out.1; omega
            have hs6 : wr.heap.size < w6.heap.size := by have := hg6.size; simp at this; omega
            by_cases hk2 : i < k
            · obtain ⟨B, d, a1, a2, a3, a4, a5⟩ := HX.out i hi hk2
              refine ⟨B, d, ?_, a2, a3, ents_grown (a4.stays hBel) hg6 (fun ad e => (a5 ad e).1), fun ad e => ⟨?_, ?_⟩⟩
              · rw [List.getElem?_append_left (by omega)]; exact a1
              · obtain ⟨b1, b2⟩ := a5 ad e
                rcases hat6 with h | h
                · rw [h] at b1; exact b1
                · show some ad.block ≠ some g
                  intro hh; injection hh with hh; omega
              · have := (a5 ad e).2; omega
            · obtain rfl : i = k := by omega
              rw [HN.out hi]
              refine ⟨A5, c5, ?_, by omega, e3, ents_grown (e1.stays hBel) hg6 (fun ad e => ?_), fun ad e => ⟨?_, ?_⟩⟩
              · rw [List.getElem?_append_right (by omega), hxl, hjn]; simp
              · intro hh
                have := (own0.lt ad.block hh.symm).2
                have := (e4 ad e).1
                omega
              · rcases hat6 with h | h
                · show some ad.block ≠ some g
                  rw [← h]
                  intro hh
                  have := (own0.lt ad.block hh.symm).2
                  have := (e4 ad e).1
                  omega
                · have := (e4 ad e).2
                  show some ad.block ≠ some g
                  intro hh; injection hh with hh; omega
              · have := (e4 ad e).2; omega
          have B6 := Lib.hid ((bw_alloc (bw_trans BW.out BI.out) (.cells #[.slice A5 j c5] 46)).grown hg6 hbs (fun q hq => (O3.out.lt q hq).1))
          clear own6 hg6 hat6 hlt6 hbs hi hz hs hb O3 HX e1 e2 e3 e4 own0 hBel hjn
          go_wp2_with fail
          go_roundg (L - (k + 1))
          case measure => omega
          case rel => exact ⟨k + 1, c6, _, by omega, by omega, by go_num, rfl, B6, O6⟩
    · obtain rfl : k = L := by omega
      go_wp2_with fail
      go_ret
      have := OU.out
      rw [HL.out] at this
      have hcap : F.length ≤ c3 ∧ c3 ≤ maxLen := by
        obtain ⟨xs, hown, _⟩ := this
        rcases hown.2 with ⟨hv, h0⟩ | ⟨g, cap, cur, hv, _, _, h1, h2, _⟩
        · injection hv; exact ⟨by omega, by simp only [maxLen]; omega⟩
        · injection hv; exact ⟨by omega, by omega⟩
      exact ⟨A3, c3, by rw [HL.out]; rfl, outer_fab this, BW.out, hcap.1, hcap.2⟩
theorem theirs_any (A : Option Addr) (c : Nat) (F : Fb) (hL : F.length ≤ 600) (hR : ∀ es ∈ F, es.length ≤ 600) (w : World) (hF : Fab w A F) :
    Calls Try.prog 9 #[.slice A F.length c] w (TheirsPost F w) :=
  (theirs_full A c F hL hR w hF).mono fun _ _ ⟨A', c', h1, h2, h3, _⟩ => ⟨A', c', h1, h2, h3⟩
end Go.Proofs.Ytlamkhmbjkjbdaa
