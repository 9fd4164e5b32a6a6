/- The contract of bus.Spans (layer 21). Conditions: right buses of entries of 64-bit numbers; not too many ways. -/
import Derived.Test.YtlamkhmbjkjbdaaSortS
import Derived.Test.YtlamkhmbjkjbdaaConc
import Derived.Deep.RegionHeld3
import Derived.Deep.Slices
import Derived.Laws.AppendOwnNone
namespace Go.Proofs.Ytlamkhmbjkjbdaa
open Go.RowKit Go.Sort
set_option linter.unusedVariables false
/-- Buses that do not lie in block g. -/
def FabB (g : Nat) (w : World) (A : Option Addr) (F : Fb) : Prop :=
  ∀ i (h : i < F.length), ∃ ad Br c, A = some ad ∧ (ad.add i).block ≠ g ∧ (∀ bd, Br = some bd → 0 < F[i].length → bd.block ≠ g) ∧ w.cell? (ad.add i) = some (.slice Br F[i].length c) ∧ F[i].length ≤ c ∧ c ≤ maxLen ∧ Ents w Br F[i]
theorem FabB.stays {g : Nat} {w w1 : World} {A : Option Addr} {F : Fb} (h : FabB g w A F) (hb : Below w.heap.size w w1) : FabB g w1 A F := fun i hi => by
  obtain ⟨ad, Br, c, h1, h2, h3, h4, h5, h6, h7⟩ := h i hi
  exact ⟨ad, Br, c, h1, h2, h3, cell_stays hb h4, h5, h6, h7.stays hb⟩
theorem FabB.fab {g : Nat} {w : World} {A : Option Addr} {F : Fb} (h : FabB g w A F) : Fab w A F := fun i hi => by
  obtain ⟨ad, Br, c, h1, h2, h3, h4, h5, h6, h7⟩ := h i hi
  exact ⟨ad, Br, c, h1, h4, h5, h6, h7⟩
theorem cell_but {B g : Nat} {w w' : World} (h : But B g w w') {a : Addr} {v : Value} (hc : w.cell? a = some v) (hB : a.block < B) (hg : a.block ≠ g) : w'.cell? a = some v := by
  rw [World.cell?_of_block (h.block a.block hB hg)]; exact hc
theorem FabB.fabS {g : Nat} {w : World} {A : Option Addr} {F : Fb} (h : FabB g w A F) : FabS w.heap.size g w A F := fun i hi => by
  obtain ⟨ad, Br, c, h1, h2, h3, h4, h5, h6, h7⟩ := h i hi
  refine ⟨ad, Br, c, h1, h5, h6, fun w' hb => ⟨cell_but hb h4 (World.block_lt_of_cell? _ _ h4) h2, fun j hj => ?_⟩⟩
  obtain ⟨bd, hbd, ha, ho⟩ := h7 j hj
  have hg : bd.block ≠ g := h3 bd hbd (by omega)
  have hb2 : (bd.add (j * 5)).block = bd.block := by unfold Addr.add; split <;> rfl
  have hl := World.block_lt_of_cell? _ _ ha.c0
  have hg2 : (bd.add (j * 5)).block ≠ g := by rw [hb2]; exact hg
  exact ⟨bd, hbd, ⟨cell_but hb ha.c0 hl hg2, cell_but hb ha.c1 hl hg2, cell_but hb ha.c2 hl hg2, cell_but hb ha.c3 hl hg2, cell_but hb ha.c4 hl hg2⟩, ho⟩
theorem add_1 (ad : Addr) (j : Nat) : (ad.add 1).add j = ad.add (j + 1) := by rw [Go.Deep.add_add, Nat.add_comm]
instance : Inhabited (Option Addr × Nat) := ⟨(none, 0)⟩
def ConcOne (g : Nat) (F : Fb) (e : En) (w : World) (x : Ending) (w' : World) : Prop := ∃ A c, x = .returned (.slice A F.length c) ∧ FabB g w' A (one F e) ∧ Below w.heap.size w w'
theorem conc_one (g b1 b2 bz L c l1 c1 : Nat) (ad a1 : Addr) (F : Fb) (e : En) (hl : F.length = L) (h0 : 0 < L) (h1 : L ≤ 256) (hok : e.Ok) (w : World) (hF : FabB g w (some ad) F) (hg : g < w.heap.size) (hb1 : b1 ≠ g) (hL1 : l1 = L - 1) (ha1 : 1 < L → a1 = ad.add 1)
    (z0 : w.cell? ⟨bz, 0, none⟩ = some (.slice (some ⟨b2, 0, none⟩) 1 1)) (z1 : w.cell? ⟨bz, 1, none⟩ = some (.slice (some a1) l1 c1)) (z2 : w.cell? ⟨b2, 0, none⟩ = some (.slice (some ⟨b1, 0, none⟩) 1 1)) (z3 : EnAt w ⟨b1, 0, none⟩ e) :
    Calls Try.prog 24 #[.slice (some ⟨bz, 0, none⟩) 2 2] w (ConcOne g F e w) := by
  subst hl
  obtain ⟨Hd, hHd⟩ := Go.Deep.choose_lt (α := Option Addr × Nat) (n := F.length) (p := fun i x => ∀ (h : i < F.length), (∀ bd, x.1 = some bd → 0 < F[i].length → bd.block ≠ g) ∧ w.cell? (ad.add i) = some (.slice x.1 F[i].length x.2) ∧ F[i].length ≤ x.2 ∧ x.2 ≤ maxLen ∧ Ents w x.1 F[i]) (fun i hi => by
    obtain ⟨ad', Br, c, h1, h2, h3, h4, h5, h6, h7⟩ := hF i hi
    injection h1 with h1
    subst h1
    exact ⟨(Br, c), fun _ => ⟨h3, h4, h5, h6, h7⟩⟩)
  have hlen : ∀ i (h : i < F.length), (F[i]?.getD []) = F[i] := fun i h => by rw [List.getElem?_eq_getElem h]; rfl
  have hx : ∀ j u, ((List.range l1).map fun j => Value.slice (Hd (j + 1)).1 (F[j + 1]?.getD []).length (Hd (j + 1)).2)[j]? = some u → w.cell? (a1.add j) = some u := by
    intro j u hu
    rw [List.getElem?_map] at hu
    by_cases hj : j < l1
    · rw [List.getElem?_range hj] at hu
      simp only [Option.map_some, Option.some.injEq] at hu
      subst hu
      have hj' : j + 1 < F.length := by omega
      rw [ha1 (by omega), add_1, hlen _ hj']
      exact (hHd (j + 1) hj' hj').2.1
    · rw [List.getElem?_eq_none (by simpa using hj)] at hu
      cases hu
  have key := conc_any bz ⟨b2, 0, none⟩ a1 1 l1 1 c1 [.slice (some ⟨b1, 0, none⟩) 1 1] ((List.range l1).map fun j => Value.slice (Hd (j + 1)).1 (F[j + 1]?.getD []).length (Hd (j + 1)).2) (by decide) (by omega) w z0 z1 rfl (by simp)
    (fun j u hu => by
      rcases Nat.eq_zero_or_pos j with rfl | hp
      · simp only [List.getElem?_cons_zero, Option.some.injEq] at hu
        subst hu
        exact z2
      · rw [List.getElem?_eq_none (by simp; omega)] at hu; cases hu) hx (fun u hu => by simp at hu; subst hu; rfl) (fun u hu => by simp at hu; obtain ⟨_, _, rfl⟩ := hu; rfl)
  refine key.mono fun x w' ⟨A', c', hx', hown, hb⟩ => ?_
  rw [show 1 + l1 = F.length from by omega] at hx' hown
  refine ⟨A', c', hx', fun i hi => ?_, hb⟩
  rw [one_len h0] at hi
  obtain ⟨go, cap, hv, hbo, hlt⟩ := hown.form (by omega)
  injection hv with hA _ hcap
  subst hA
  refine ⟨⟨go, 0, none⟩, ?_⟩
  rw [adr]
  have hne : go ≠ g := by omega
  rcases Nat.eq_zero_or_pos i with rfl | hp
  · refine ⟨some ⟨b1, 0, none⟩, 1, rfl, hne, fun bd hbd _ => by injection hbd with hbd; subst hbd; exact hb1, ?_, Nat.le_refl _, by simp [maxLen], fun j hj => ?_⟩
    · have := hown.cellAt 0 (by omega)
      rw [this]; rfl
    · have hj1 : j < 1 := hj
      obtain rfl : j = 0 := by omega
      exact ⟨_, rfl, z3.stays hb, hok⟩
  · have he1 : (one F e)[i]'(by rw [one_len h0]; exact hi) = F[i] := by
      have := one_at h0 e i hp
      rw [List.getElem?_eq_getElem (by rw [one_len h0]; exact hi), List.getElem?_eq_getElem hi] at this
      injection this
    rw [he1]
    obtain ⟨g1, g2, g3, g4, g5⟩ := hHd i hi hi
    refine ⟨(Hd i).1, (Hd i).2, rfl, hne, g1, ?_, g3, g4, g5.stays hb⟩
    have := hown.cellAt i (by omega)
    rw [this]
    obtain ⟨j, rfl⟩ : ∃ j, i = j + 1 := ⟨i - 1, by omega⟩
    rw [List.singleton_append, List.getElem?_cons_succ, List.getElem?_map, List.getElem?_range (by omega)]
    simp only [Option.map_some]
    rw [hlen _ hi]
theorem window_exact (a s d b : Int) (y : Bool) (w : World) :
    Calls Try.prog 18 #[.agg #[.int .u64 a, .int .u64 s, .bool y, .int .i64 d, .int .u64 b]] w fun e w' => e = .returned (.agg #[.int .u64 a, .int .u64 s]) ∧ w' = (w.alloc (.cells #[.int .u64 a, .int .u64 s, .bool y, .int .i64 d, .int .u64 b] 48)).alloc (.cells #[.int .u64 a, .int .u64 s] 51) := by
  go_enter Try.func18, Try.ntmps18
  go_wp2_with fail
  exact bodyPost_ret (v := .agg #[.int .u64 a, .int .u64 s]) (by simp [results, Try.results18, go_sem]) rfl ⟨rfl, rfl⟩
theorem fab_fabB {g : Nat} {w : World} {A : Option Addr} {F : Fb} (h : Fab w A F) (hg : w.heap.size ≤ g) : FabB g w A F := fun i hi => by
  obtain ⟨ad, Br, c, h1, h4, h5, h6, h7⟩ := h i hi
  have hl := World.block_lt_of_cell? _ _ h4
  refine ⟨ad, Br, c, h1, by omega, fun bd hbd hp => ?_, h4, h5, h6, h7⟩
  obtain ⟨bd', hbd', ha, _⟩ := h7 0 hp
  rw [hbd] at hbd'
  injection hbd' with hbd'
  subst hbd'
  have hl2 := World.block_lt_of_cell? _ _ ha.c0
  have hb2 : (bd.add (0 * 5)).block = bd.block := by unfold Addr.add; split <;> rfl
  omega
theorem But.mono {B B' g : Nat} {w w' : World} (h : But B g w w') (hB : B' ≤ B) : But B' g w w' := ⟨h.os, h.tape, h.output, h.size, fun i hi hg => h.block i (by omega) hg⟩
theorem ents_but {g : Nat} {w w' : World} {A : Option Addr} {es : List En} (h : Ents w A es) (hb : But w.heap.size g w w') (hg : w.heap.size ≤ g) : Ents w' A es := fun j hj => by
  obtain ⟨bd, hbd, ha, ho⟩ := h j hj
  have hl := World.block_lt_of_cell? _ _ ha.c0
  exact ⟨bd, hbd, ⟨cell_but hb ha.c0 hl (by omega), cell_but hb ha.c1 hl (by show (bd.add (j * 5)).block ≠ g; omega), cell_but hb ha.c2 hl (by show (bd.add (j * 5)).block ≠ g; omega), cell_but hb ha.c3 hl (by show (bd.add (j * 5)).block ≠ g; omega), cell_but hb ha.c4 hl (by show (bd.add (j * 5)).block ≠ g; omega)⟩, ho⟩
theorem fab_but {g : Nat} {w w' : World} {A : Option Addr} {F : Fb} (h : Fab w A F) (hb : But w.heap.size g w w') (hg : w.heap.size ≤ g) : FabB g w' A F := fun i hi => by
  obtain ⟨ad, Br, c, h1, h2, h3, h4, h5, h6, h7⟩ := fab_fabB h hg i hi
  exact ⟨ad, Br, c, h1, h2, h3, cell_but hb h4 (World.block_lt_of_cell? _ _ h4) h2, h5, h6, ents_but h7 hb hg⟩
theorem own_fr {g : Nat} {w w' : World} {B n : Nat} {v : Value} {xs : List Value} {cs : Array Value} (h : w.ownsRow B 43 4 v n xs) (hf : Fr g none w w') (hg : Bk w g 3 cs) : w'.ownsRow B 43 4 v n xs := by
  have hgb : w.grownBy w' (some g) := ⟨hf.os, hf.tape, hf.output, hf.size, fun i hi hne => hf.block i hi (fun e => hne (by rw [e])) (by simp)⟩
  exact h.kept hgb (.inr (fun e => own_bk_ne h hg (by decide) e.symm))
theorem spc_one (l : List Sp) : ∀ u ∈ spc l, u.oneCell' = true := by
  intro u hu
  obtain ⟨s, _, hs⟩ := List.mem_flatMap.1 hu
  simp only [Sp.cs, List.mem_cons, List.not_mem_nil, or_false] at hs
  rcases hs with rfl | rfl | rfl | rfl <;> rfl
/-- append onto a row of spans of the call's own out of another one, nil or not. -/
theorem wpList_append_spans {w : World} {ops : Array Oper} {rest : List Oper} {o : Oper} {a : Act} {Q : Exit → Act → World → Prop} (hgd : o.guard = none) (s x : Operand)
    (ho : o.op = .call { callee := .builtin .append, args := #[s, x], argTypes := #[40, 40] })
    (base : Nat) (v : Value) (n : Nat) (xs : List Value) (hs : a.eval s = v) (hown : w.ownsRow base 43 4 v n xs)
    (A : Option Addr) (m c B : Nat) (ys : List Value) (hx : a.eval x = .slice A m c) (hsrc : w.ownsRow B 43 4 (.slice A m c) m ys) (h1 : ∀ u ∈ ys, u.oneCell' = true)
    (h63 : n + m ≤ 100000) (hbase : base ≤ w.heap.size)
    (h : ∀ v' w', w'.ownsRow base 43 4 v' (n + m) (xs ++ ys) → w.grownBy w' v.ownBlock → wpList Try.prog ops Q rest (a.put o.dst v') w') :
    wpList Try.prog ops Q (o :: rest) a w := by
  obtain ⟨i43, hi43, hz43, hs43, hb43⟩ := info_parts info43
  have hsrc' := hsrc
  obtain ⟨hlen, hcase⟩ := hsrc
  rcases hcase with ⟨hv, h0⟩ | ⟨g', cap, cur, hv, hb, hh, hn, hc, hsz, ht⟩
  · subst h0
    injection hv with e1 e2 e3
    subst e1 e3
    have hy : ys = [] := List.eq_nil_of_length_eq_zero (by omega)
    subst hy
    exact wpList_append_own_none hgd s x 40 ho base 43 i43 4 Try.underlying40 hi43 v n xs hs hown hx (h v w (by simpa using hown) (World.grownBy.refl w _))
  · injection hv with e1 e2 e3
    subst e1 e3
    exact wpList_append_own_at w hgd s x 40 ho base 43 i43 _ 4 32 Try.underlying40 hi43 hz43 hs43 hb43 rfl (by decide) v n xs hs hown ⟨g', 0, none⟩ m c ys hx hlen (hsrc'.cells (g := g') rfl) h1 (by simp only [maxLen]; omega) (by omega) hbase (fun v' w' h2 h3 _ _ => h v' w' h2 h3)
def SpansPost (F : Fb) (w : World) (e : Ending) (w' : World) : Prop :=
  ∃ A n c l, e = .returned (.slice A n c) ∧ l.length = n ∧ l.Perm (spansS F) ∧ Rising l ∧ w'.ownsRow w.heap.size 43 4 (.slice A n c) n (spc l) ∧ Below w.heap.size w w' ∧ n ≤ 1000
theorem bk_cells {W : World} {q : Nat} {ea es' : Int} {ey : Bool} {ed eb : Int} (h : Bk W q 48 #[.int .u64 ea, .int .u64 es', .bool ey, .int .i64 ed, .int .u64 eb]) :
    W.cell? ⟨q, 0, none⟩ = some (.int .u64 ea) ∧ W.cell? ⟨q, 1, none⟩ = some (.int .u64 es') ∧ W.cell? ⟨q, 2, none⟩ = some (.bool ey) ∧ W.cell? ⟨q, 3, none⟩ = some (.int .i64 ed) ∧ W.cell? ⟨q, 4, none⟩ = some (.int .u64 eb) :=
  ⟨by simpa using h.cell 0, by simpa using h.cell 1, by simpa using h.cell 2, by simpa using h.cell 3, by simpa using h.cell 4⟩
set_option maxHeartbeats 6400000 in
set_option maxRecDepth 100000 in
theorem spans_any (A : Option Addr) (c : Nat) (F : Fb) (hr : rightB F = true) (ho : FbOk' F) (hc : cntW F F.length 0 ≤ 1000) (hLc : F.length ≤ c) (hcm : c ≤ maxLen) (w : World) (hF : Fab w A F) :
    Calls Try.prog 14 #[.slice A F.length c] w (SpansPost F w) := by
  obtain ⟨hl1, hl2, _⟩ := (rightB_iff F).1 hr
  have KR := Lib.hid (fun (W : World) h => right_any A c F (by unfold maxLen; omega) W h)
  rw [hr] at KR
  have HF := Lib.hid hF
  have HR := Lib.hid hr
  have HO := Lib.hid ho
  obtain ⟨f, hf⟩ : ∃ f, F.length = f + 1 := ⟨F.length - 1, by omega⟩
  have h0F : 0 < F.length := by omega
  have HS0 : Hid (spansS F = F[0].flatMap (gatE (gat F f) 0 18446744073709551616 0)) := by
    show _ = _
    unfold spansS
    rw [hf, gat_succ F f 0 h0F]
  have hcw := cntW_succ F f 0 h0F
  rw [← hf] at hcw
  rw [hcw] at hc
  obtain ⟨ad, Br, c0, rfl, hhd, hb1, hb2, hE⟩ := hF 0 h0F
  have HE := Lib.hid hE
  have HHD := Lib.hid hhd
  have HM : Hid (∀ e ∈ F[0], e ∈ F[0]) := fun e h => h
  have HS1 := Lib.hid (fun (e : En) (he : e ∈ F[0]) => one_spans HR.out HO.out h0F he f)
  have HC1 := Lib.hid (fun (e : En) (he : e ∈ F[0]) => one_cntW HR.out HO.out h0F he f)
  have HR1 := Lib.hid (fun (e : En) (he : e ∈ F[0]) => And.intro (one_right HR.out h0F he) (one_ok HO.out h0F he))
  have HW1 := Lib.hid (fun (e : En) (he : e ∈ F[0]) => ent_of HR.out HO.out h0F he)
  have hl := Lib.hid hf
  obtain ⟨L, hL⟩ : ∃ L, L = F.length := ⟨_, rfl⟩
  have HL := Lib.hid hL
  rw [← hL] at hl1 hl2 h0F KR hLc ⊢
  unfold maxLen at hcm
  have HCW := Lib.hid hc
  generalize F[0] = es at HS0 hc hhd hb1 HE HHD HM HS1 HC1 HR1 HW1 HCW
  obtain ⟨N, hN⟩ : ∃ N, N = es.length := ⟨_, rfl⟩
  have HN := Lib.hid hN
  rw [← hN] at hhd hb1
  clear hF hr ho hE hf hL hN hcw
  unfold maxLen at hb2
  have hhb := World.block_lt_of_cell? _ _ hhd
  go_enter Try.func14, Try.ntmps14
  go_wp2_with fail
  refine (KR.out _ HF.out).mono ?_
  rintro e w1 ⟨rfl, g1⟩
  have hd1 := (g1.cell hhb).trans hhd
  have hL0 : (0 : Int) < L := by omega
  have B1 := Lib.hid g1
  have hsz1 := g1.size
  have hd2 := ((bw_alloc (Below.refl w1.heap.size w1) (.cells #[.int .i64 0] 3)).cell (World.block_lt_of_cell? _ _ hd1)).trans hd1
  rw [show ad.add 0 = ad from by simp [Addr.add]] at hd2
  clear g1 hhd KR hd1
  go_wp2_with fail
  generalize hg : w1.heap.size = g
  have HG := Lib.hid hg
  have FB := Lib.hid ((fab_fabB (g := g) HF.out (by omega)).stays (bw_alloc B1.out (.cells #[.int .i64 0] 3)))
  have G0 : Hid (Bk (w1.alloc (.cells #[.int .i64 0] 3)) g 3 #[.int .i64 ((0 : Nat) : Int)]) := by rw [← hg]; exact Bk.new _ _ _
  clear hg
  go_loopg [2, 3, 6, 7, 8, 16] N (fun gg _ s3 _ _ _ s16 wr => ∃ (k m c3 cn : Nat) (A3 : Option Addr), k ≤ N ∧ N - k ≤ gg ∧ s16 = .int .i64 k ∧ s3 = .slice A3 m c3 ∧ m ≤ cn ∧ cn + cntL F f (es.drop k) ≤ 1000 ∧
    Hid (But w.heap.size g w wr) ∧ Hid (Bk wr g 3 #[.int .i64 cn]) ∧ Hid (wr.ownsRow w.heap.size 43 4 (.slice A3 m c3) m (spc ((es.take k).flatMap (gatE (gat F f) 0 18446744073709551616 0)))))
  case atStart => exact ⟨0, 0, 0, 0, none, Nat.zero_le _, by omega, rfl, rfl, by omega, by rw [List.drop_zero]; omega, (((But.refl w.heap.size g w).below B1.out (Nat.le_refl _)).alloc _ (Nat.le_refl _)), G0, World.ownsRow_nil _ _ _ _⟩
  case round =>
    obtain ⟨k, m, c3, cn, A3, hk, hgg, rfl, rfl, hmc, hcn, BW, GW, OW⟩ := hrel
    have hwg : w.heap.size ≤ g := by have := HG.out; omega
    have FW : Hid (FabB g wr (some ad) F) := fab_but HF.out BW.out hwg
    have EW : Hid (Ents wr Br es) := ents_but HE.out BW.out hwg
    by_cases hlt : k < N
    · have hkE : k < es.length := by rw [← HN.out]; exact hlt
      obtain ⟨bd, rfl, hat, hok⟩ := EW.out k hkE
      have hmem := List.getElem_mem hkE
      have htake : (es.take (k + 1)).flatMap (gatE (gat F f) 0 18446744073709551616 0) = (es.take k).flatMap (gatE (gat F f) 0 18446744073709551616 0) ++ gatE (gat F f) 0 18446744073709551616 0 es[k] := by
        rw [List.take_succ_eq_append_getElem hkE, List.flatMap_append]; simp
      rw [cntL_drop F f es k hkE] at hcn
      have S1 := HS1.out _ hmem
      have C1 := HC1.out _ hmem
      have R1 := HR1.out _ hmem
      obtain ⟨win, _⟩ := HW1.out _ hmem
      rw [← S1] at htake
      rw [← C1] at hcn
      have HTK := Lib.hid htake
      have HR2 := Lib.hid R1
      have HWN := Lib.hid win
      have HOK := Lib.hid hok
      clear S1 C1 R1 htake hmem
      generalize es[k] = e at *
      obtain ⟨ea, es', ey, ed, eb⟩ := e
      obtain ⟨x0, x1, x2, x3, x4⟩ := hat
      simp only at x0 x1 x2 x3 x4 win
      go_wp2_with fail
      generalize hwv : wr.alloc (.cells #[.int .u64 ea, .int .u64 es', .bool ey, .int .i64 ed, .int .u64 eb] 48) = V
      have EB : Bk V wr.heap.size 48 #[.int .u64 ea, .int .u64 es', .bool ey, .int .i64 ed, .int .u64 eb] := by rw [← hwv]; exact Bk.new _ _ _
      have hbl : Hid (Below wr.heap.size wr V) := by rw [← hwv]; exact bw_alloc (Below.refl _ _) _
      generalize hq8 : wr.heap.size = q at EB hbl
      have HQ := Lib.hid hq8
      have y0 := EB.cell 0
      have y1 := EB.cell 1
      have y2 := EB.cell 2
      have y3 := EB.cell 3
      have y4 := EB.cell 4
      have hqV := EB.lt
      simp at y0 y1 y2 y3 y4
      have HEB := Lib.hid EB
      clear EB hwv hq8 x0 x1 x2 x3 x4
      have KW := Lib.hid (fun W => window_exact ea es' ed eb ey W)
      have q1L : (1 : Int) ≤ L := by omega
      have q2L : (L : Int) ≤ c := by omega
      have FV : Hid (FabB g V (some ad) F) := FW.out.stays (by have := HQ.out; rw [this]; exact hbl.out)
      have HGV : Hid (Bk V g 3 #[.int .i64 cn]) := GW.out.below (by have := HQ.out; rw [this]; exact hbl.out)
      have HQG : q ≠ g := by have := GW.out.lt; have := HQ.out; omega
      have KG : Hid (∀ (A2 : Option Addr) (cc : Nat) (W : World), FabB g W A2 (one F ⟨ea, es', ey, ed, eb⟩) → Bk W g 3 #[.int .i64 cn] →
          Calls Try.prog 23 #[.slice A2 L cc, .int .i64 0, .agg #[.int .u64 ea, .int .u64 es'], .int .u64 ea, .slice none 0 0, .pointer (some ⟨g, 0, none⟩)] W
            (GathPost W.heap.size g none 0 cn (cntW (one F ⟨ea, es', ey, ed, eb⟩) (f + 1) 0) [] (gat (one F ⟨ea, es', ey, ed, eb⟩) (f + 1) 0 ea es' ea) W)) := by
        intro A2 cc W hFB hG
        have hlen : (one F ⟨ea, es', ey, ed, eb⟩).length = L := by rw [one_len (by have := HL.out; omega), HL.out]
        have := gather_any A2 cc (one F ⟨ea, es', ey, ed, eb⟩) HR2.out.1 HR2.out.2 W.heap.size g hG.lt (f + 1) 0 ea es' ea none 0 0 cn [] W (by omega) (by have := hl.out; have := HL.out; omega) HWN.out HOK.out.us HWN.out (Nat.le_refl _) hFB.fabS hG (World.ownsRow_nil _ _ _ _) (Nat.zero_le _) (by omega)
        rw [hlen] at this
        exact this
      by_cases hc1 : c = 1
      · have hL1 : L = 1 := by omega
        subst hc1
        subst hL1
        have KC : Hid (Calls Try.prog 24 #[.slice (some ⟨V.heap.size + 1 + 1, 0, none⟩) 2 2] (((V.alloc (.cells #[.int .u64 ea, .int .u64 es', .bool ey, .int .i64 ed, .int .u64 eb] 48)).alloc (.cells #[.slice (some ⟨V.heap.size, 0, none⟩) 1 1] 46)).alloc
            (.cells #[.slice (some ⟨V.heap.size + 1, 0, none⟩) 1 1, .slice (some ad) 0 0] 32)).drew
            (fun x w' => ∃ A cq, x = .returned (.slice A 1 cq) ∧ FabB g w' A (one F ⟨ea, es', ey, ed, eb⟩) ∧ Below (((V.alloc (.cells #[.int .u64 ea, .int .u64 es', .bool ey, .int .i64 ed, .int .u64 eb] 48)).alloc (.cells #[.slice (some ⟨V.heap.size, 0, none⟩) 1 1] 46)).alloc
            (.cells #[.slice (some ⟨V.heap.size + 1, 0, none⟩) 1 1, .slice (some ad) 0 0] 32)).heap.size (((V.alloc (.cells #[.int .u64 ea, .int .u64 es', .bool ey, .int .i64 ed, .int .u64 eb] 48)).alloc (.cells #[.slice (some ⟨V.heap.size, 0, none⟩) 1 1] 46)).alloc
            (.cells #[.slice (some ⟨V.heap.size + 1, 0, none⟩) 1 1, .slice (some ad) 0 0] 32)) w')) := by
          have k1 := Bk.new V 48 #[.int .u64 ea, .int .u64 es', .bool ey, .int .i64 ed, .int .u64 eb]
          have k2 := Bk.new (V.alloc (.cells #[.int .u64 ea, .int .u64 es', .bool ey, .int .i64 ed, .int .u64 eb] 48)) 46 #[.slice (some ⟨V.heap.size, 0, none⟩) 1 1]
          have k3 := Bk.new ((V.alloc (.cells #[.int .u64 ea, .int .u64 es', .bool ey, .int .i64 ed, .int .u64 eb] 48)).alloc (.cells #[.slice (some ⟨V.heap.size, 0, none⟩) 1 1] 46)) 32 #[.slice (some ⟨V.heap.size + 1, 0, none⟩) 1 1, .slice (some ad) 0 0]
          simp only [World.size_alloc] at k2 k3
          have j1 := ((k1.alloc (.cells #[.slice (some ⟨V.heap.size, 0, none⟩) 1 1] 46)).alloc (.cells #[.slice (some ⟨V.heap.size + 1, 0, none⟩) 1 1, .slice (some ad) 0 0] 32)).drew
          have j2 := (k2.alloc (.cells #[.slice (some ⟨V.heap.size + 1, 0, none⟩) 1 1, .slice (some ad) 0 0] 32)).drew
          have j3 := k3.drew
          have hcc := conc_one g V.heap.size (V.heap.size + 1) (V.heap.size + 1 + 1) 1 1 (1 - 1) 0 ad ad F ⟨ea, es', ey, ed, eb⟩ HL.out.symm h0F hl2 HOK.out _
            (FV.out.stays (Below.drew (bw_alloc (bw_alloc (bw_alloc (Below.refl V.heap.size V) (.cells #[.int .u64 ea, .int .u64 es', .bool ey, .int .i64 ed, .int .u64 eb] 48)) (.cells #[.slice (some ⟨V.heap.size, 0, none⟩) 1 1] 46)) (.cells #[.slice (some ⟨V.heap.size + 1, 0, none⟩) 1 1, .slice (some ad) 0 0] 32))))
            (by have := HGV.out.lt; show g < _; simp; omega) (by have := HGV.out.lt; omega) rfl (fun h => absurd h (by omega)) (j3.cell 0) (j3.cell 1) (j2.cell 0) ⟨j1.cell 0, j1.cell 1, j1.cell 2, j1.cell 3, j1.cell 4⟩
          unfold ConcOne at hcc
          rw [← HL.out] at hcc
          exact hcc.mono fun x w' ⟨A', c', h1, h2, h3⟩ => ⟨A', c', h1, h2, ⟨h3.os, h3.tape, h3.output, h3.size, h3.block⟩⟩
        go_region_held3 (fun w' => w'.cell? ⟨q, 0, none⟩ = some (.int .u64 ea) ∧ w'.cell? ⟨q, 1, none⟩ = some (.int .u64 es') ∧ w'.cell? ⟨q, 2, none⟩ = some (.bool ey) ∧ w'.cell? ⟨q, 3, none⟩ = some (.int .i64 ed) ∧ w'.cell? ⟨q, 4, none⟩ = some (.int .u64 eb))
          (first | exact bk_cells (by repeat (first | exact HEB3.out | exact HEB2.out | exact HEB.out | apply Bk.drew | apply Bk.alloc)))
          (first
            | (go_at_call 18; refine (KW.out _).mono ?_; rintro e w' ⟨rfl, rfl⟩)
            | (go_at_call 24; refine KC.out.mono ?_; rintro e w2 ⟨A2, cc2, rfl, f2, g2⟩; have FB2 := Lib.hid f2; have GB2 := Lib.hid g2; clear f2 g2; have HEB2 : Hid (Bk w2 q 48 #[.int .u64 ea, .int .u64 es', .bool ey, .int .i64 ed, .int .u64 eb]) := (((HEB.out.alloc _).alloc _).alloc _).below GB2.out)
            | (go_at_call 23; refine (KG.out A2 cc2 ((w2.alloc (.cells #[.int .u64 ea, .int .u64 es', .bool ey, .int .i64 ed, .int .u64 eb] 48)).alloc (.cells #[.int .u64 ea, .int .u64 es'] 51)) (FB2.out.stays (bw_alloc (bw_alloc (Below.refl _ _) _) _)) ((((((HGV.out.alloc _).alloc _).alloc _).below GB2.out).alloc _).alloc _)).mono ?_; rintro e w6 ⟨A6, n6, c6, k6, rfl, o6, g6, f6, nr6, h1, h2, h3⟩; have GP6 := Lib.hid (And.intro o6 (And.intro g6 (And.intro f6 nr6))); clear o6 g6 f6 nr6; have HEB3 : Hid (Bk w6 q 48 #[.int .u64 ea, .int .u64 es', .bool ey, .int .i64 ed, .int .u64 eb]) := (GP6.out.2.2.1.block q ((HEB2.out.alloc _).alloc _).lt HQG (by simp)).trans ((HEB2.out.alloc _).alloc _)))
        have W5o := own_gr (own_gr (own_gr (own_gr OW.out (by have := HQ.out; rw [this]; exact hbl.out)) (bw_alloc (bw_alloc (bw_alloc (Below.refl _ _) _) _) _)) GB2.out) (bw_alloc (bw_alloc (Below.refl w2.heap.size w2) (.cells #[.int .u64 ea, .int .u64 es', .bool ey, .int .i64 ed, .int .u64 eb] 48)) (.cells #[.int .u64 ea, .int .u64 es'] 51))
        have W5b := ((((BW.out.below (by have := HQ.out; rw [this]; exact hbl.out) (Nat.le_refl _)).below (bw_alloc (bw_alloc (bw_alloc (Below.refl _ _) _) _) _) (Nat.le_refl _)).below GB2.out (Nat.le_refl _)).below (bw_alloc (bw_alloc (Below.refl w2.heap.size w2) (.cells #[.int .u64 ea, .int .u64 es', .bool ey, .int .i64 ed, .int .u64 eb] 48)) (.cells #[.int .u64 ea, .int .u64 es'] 51)) (Nat.le_refl _))
        have W5g := (((((HGV.out.alloc _).alloc _).alloc _).below GB2.out).alloc (.cells #[.int .u64 ea, .int .u64 es', .bool ey, .int .i64 ed, .int .u64 eb] 48)).alloc (.cells #[.int .u64 ea, .int .u64 es'] 51)
        obtain ⟨o6, g6, f6, nr6⟩ := GP6.out
        have O6 := Lib.hid (own_fr W5o f6 W5g)
        have B6 : Hid (But w.heap.size g w w6) := W5b.trans ((f6.but (fun x hx => by cases hx) (Nat.le_refl _)).mono W5b.size)
        have S6 := Lib.hid o6
        have G6 := Lib.hid g6
        have hB6 : w.heap.size ≤ w6.heap.size := B6.out.size
        clear W5o W5b W5g o6 g6 f6 nr6 GP6
        go_wp2_with (at_builtin; refine wpList_append_spans rfl (.tmp 37) (.tmp 38) (by rfl) w.heap.size (.slice A3 m c3) m _ (by rfl) O6.out A6 n6 c6 _ _ (by rfl) S6.out (spc_one _) (by omega) hB6 ?_)
        intro v7 w7 own7 hg7
        obtain ⟨A7, c7, rfl⟩ := shape own7
        have O7 : Hid (w7.ownsRow w.heap.size 43 4 (.slice A7 (m + n6) c7) (m + n6) (spc ((es.take (k + 1)).flatMap (gatE (gat F f) 0 18446744073709551616 0)))) := by
          show World.ownsRow _ _ _ _ _ _ _
          rw [HTK.out, spc_app]
          exact own7
        have B7 : Hid (But w.heap.size g w w7) := B6.out.grown hg7 (Nat.le_refl _) (fun x hx => (O6.out.lt x hx).1)
        have G7 : Hid (Bk w7 g 3 #[.int .i64 k6]) := (hg7.block g G6.out.lt (own_bk_ne O6.out G6.out (by decide))).trans G6.out
        clear own7 hg7
        go_wp2_with fail
        go_roundg (N - (k + 1))
        case measure => omega
        case rel => exact ⟨k + 1, m + n6, c7, k6, A7, by omega, by omega, by go_num, rfl, by omega, by omega, B7, G7, O7⟩
      · have hc2 : 1 < c := by omega
        have KC : Hid (Calls Try.prog 24 #[.slice (some ⟨V.heap.size + 1 + 1, 0, none⟩) 2 2] (((V.alloc (.cells #[.int .u64 ea, .int .u64 es', .bool ey, .int .i64 ed, .int .u64 eb] 48)).alloc (.cells #[.slice (some ⟨V.heap.size, 0, none⟩) 1 1] 46)).alloc
            (.cells #[.slice (some ⟨V.heap.size + 1, 0, none⟩) 1 1, .slice (some (⟨ad.block, ad.off + 1, none⟩ : Addr)) (L - 1) (c - 1)] 32)).drew
            (fun x w' => ∃ A cq, x = .returned (.slice A L cq) ∧ FabB g w' A (one F ⟨ea, es', ey, ed, eb⟩) ∧ Below (((V.alloc (.cells #[.int .u64 ea, .int .u64 es', .bool ey, .int .i64 ed, .int .u64 eb] 48)).alloc (.cells #[.slice (some ⟨V.heap.size, 0, none⟩) 1 1] 46)).alloc
            (.cells #[.slice (some ⟨V.heap.size + 1, 0, none⟩) 1 1, .slice (some (⟨ad.block, ad.off + 1, none⟩ : Addr)) (L - 1) (c - 1)] 32)).heap.size (((V.alloc (.cells #[.int .u64 ea, .int .u64 es', .bool ey, .int .i64 ed, .int .u64 eb] 48)).alloc (.cells #[.slice (some ⟨V.heap.size, 0, none⟩) 1 1] 46)).alloc
            (.cells #[.slice (some ⟨V.heap.size + 1, 0, none⟩) 1 1, .slice (some (⟨ad.block, ad.off + 1, none⟩ : Addr)) (L - 1) (c - 1)] 32)) w')) := by
          have k1 := Bk.new V 48 #[.int .u64 ea, .int .u64 es', .bool ey, .int .i64 ed, .int .u64 eb]
          have k2 := Bk.new (V.alloc (.cells #[.int .u64 ea, .int .u64 es', .bool ey, .int .i64 ed, .int .u64 eb] 48)) 46 #[.slice (some ⟨V.heap.size, 0, none⟩) 1 1]
          have k3 := Bk.new ((V.alloc (.cells #[.int .u64 ea, .int .u64 es', .bool ey, .int .i64 ed, .int .u64 eb] 48)).alloc (.cells #[.slice (some ⟨V.heap.size, 0, none⟩) 1 1] 46)) 32 #[.slice (some ⟨V.heap.size + 1, 0, none⟩) 1 1, .slice (some (⟨ad.block, ad.off + 1, none⟩ : Addr)) (L - 1) (c - 1)]
          simp only [World.size_alloc] at k2 k3
          have j1 := ((k1.alloc (.cells #[.slice (some ⟨V.heap.size, 0, none⟩) 1 1] 46)).alloc (.cells #[.slice (some ⟨V.heap.size + 1, 0, none⟩) 1 1, .slice (some (⟨ad.block, ad.off + 1, none⟩ : Addr)) (L - 1) (c - 1)] 32)).drew
          have j2 := (k2.alloc (.cells #[.slice (some ⟨V.heap.size + 1, 0, none⟩) 1 1, .slice (some (⟨ad.block, ad.off + 1, none⟩ : Addr)) (L - 1) (c - 1)] 32)).drew
          have j3 := k3.drew
          have hcc := conc_one g V.heap.size (V.heap.size + 1) (V.heap.size + 1 + 1) L c (L - 1) (c - 1) ad (⟨ad.block, ad.off + 1, none⟩ : Addr) F ⟨ea, es', ey, ed, eb⟩ HL.out.symm h0F hl2 HOK.out _
            (FV.out.stays (Below.drew (bw_alloc (bw_alloc (bw_alloc (Below.refl V.heap.size V) (.cells #[.int .u64 ea, .int .u64 es', .bool ey, .int .i64 ed, .int .u64 eb] 48)) (.cells #[.slice (some ⟨V.heap.size, 0, none⟩) 1 1] 46)) (.cells #[.slice (some ⟨V.heap.size + 1, 0, none⟩) 1 1, .slice (some (⟨ad.block, ad.off + 1, none⟩ : Addr)) (L - 1) (c - 1)] 32))))
            (by have := HGV.out.lt; show g < _; simp; omega) (by have := HGV.out.lt; omega) rfl (fun _ => (add_pos ad 1 (by omega)).symm) (j3.cell 0) (j3.cell 1) (j2.cell 0) ⟨j1.cell 0, j1.cell 1, j1.cell 2, j1.cell 3, j1.cell 4⟩
          unfold ConcOne at hcc
          rw [← HL.out] at hcc
          exact hcc.mono fun x w' ⟨A', c', h1, h2, h3⟩ => ⟨A', c', h1, h2, ⟨h3.os, h3.tape, h3.output, h3.size, h3.block⟩⟩
        go_region_held3 (fun w' => w'.cell? ⟨q, 0, none⟩ = some (.int .u64 ea) ∧ w'.cell? ⟨q, 1, none⟩ = some (.int .u64 es') ∧ w'.cell? ⟨q, 2, none⟩ = some (.bool ey) ∧ w'.cell? ⟨q, 3, none⟩ = some (.int .i64 ed) ∧ w'.cell? ⟨q, 4, none⟩ = some (.int .u64 eb))
          (first | exact bk_cells (by repeat (first | exact HEB3.out | exact HEB2.out | exact HEB.out | apply Bk.drew | apply Bk.alloc)))
          (first
            | (go_at_call 18; refine (KW.out _).mono ?_; rintro e w' ⟨rfl, rfl⟩)
            | (go_at_call 24; refine KC.out.mono ?_; rintro e w2 ⟨A2, cc2, rfl, f2, g2⟩; have FB2 := Lib.hid f2; have GB2 := Lib.hid g2; clear f2 g2; have HEB2 : Hid (Bk w2 q 48 #[.int .u64 ea, .int .u64 es', .bool ey, .int .i64 ed, .int .u64 eb]) := (((HEB.out.alloc _).alloc _).alloc _).below GB2.out)
            | (go_at_call 23; refine (KG.out A2 cc2 ((w2.alloc (.cells #[.int .u64 ea, .int .u64 es', .bool ey, .int .i64 ed, .int .u64 eb] 48)).alloc (.cells #[.int .u64 ea, .int .u64 es'] 51)) (FB2.out.stays (bw_alloc (bw_alloc (Below.refl _ _) _) _)) ((((((HGV.out.alloc _).alloc _).alloc _).below GB2.out).alloc _).alloc _)).mono ?_; rintro e w6 ⟨A6, n6, c6, k6, rfl, o6, g6, f6, nr6, h1, h2, h3⟩; have GP6 := Lib.hid (And.intro o6 (And.intro g6 (And.intro f6 nr6))); clear o6 g6 f6 nr6; have HEB3 : Hid (Bk w6 q 48 #[.int .u64 ea, .int .u64 es', .bool ey, .int .i64 ed, .int .u64 eb]) := (GP6.out.2.2.1.block q ((HEB2.out.alloc _).alloc _).lt HQG (by simp)).trans ((HEB2.out.alloc _).alloc _)))
        have W5o := own_gr (own_gr (own_gr (own_gr OW.out (by have := HQ.out; rw [this]; exact hbl.out)) (bw_alloc (bw_alloc (bw_alloc (Below.refl _ _) _) _) _)) GB2.out) (bw_alloc (bw_alloc (Below.refl w2.heap.size w2) (.cells #[.int .u64 ea, .int .u64 es', .bool ey, .int .i64 ed, .int .u64 eb] 48)) (.cells #[.int .u64 ea, .int .u64 es'] 51))
        have W5b := ((((BW.out.below (by have := HQ.out; rw [this]; exact hbl.out) (Nat.le_refl _)).below (bw_alloc (bw_alloc (bw_alloc (Below.refl _ _) _) _) _) (Nat.le_refl _)).below GB2.out (Nat.le_refl _)).below (bw_alloc (bw_alloc (Below.refl w2.heap.size w2) (.cells #[.int .u64 ea, .int .u64 es', .bool ey, .int .i64 ed, .int .u64 eb] 48)) (.cells #[.int .u64 ea, .int .u64 es'] 51)) (Nat.le_refl _))
        have W5g := (((((HGV.out.alloc _).alloc _).alloc _).below GB2.out).alloc (.cells #[.int .u64 ea, .int .u64 es', .bool ey, .int .i64 ed, .int .u64 eb] 48)).alloc (.cells #[.int .u64 ea, .int .u64 es'] 51)
        obtain ⟨o6, g6, f6, nr6⟩ := GP6.out
        have O6 := Lib.hid (own_fr W5o f6 W5g)
        have B6 : Hid (But w.heap.size g w w6) := W5b.trans ((f6.but (fun x hx => by cases hx) (Nat.le_refl _)).mono W5b.size)
        have S6 := Lib.hid o6
        have G6 := Lib.hid g6
        have hB6 : w.heap.size ≤ w6.heap.size := B6.out.size
        clear W5o W5b W5g o6 g6 f6 nr6 GP6
        go_wp2_with (at_builtin; refine wpList_append_spans rfl (.tmp 37) (.tmp 38) (by rfl) w.heap.size (.slice A3 m c3) m _ (by rfl) O6.out A6 n6 c6 _ _ (by rfl) S6.out (spc_one _) (by omega) hB6 ?_)
        intro v7 w7 own7 hg7
        obtain ⟨A7, c7, rfl⟩ := shape own7
        have O7 : Hid (w7.ownsRow w.heap.size 43 4 (.slice A7 (m + n6) c7) (m + n6) (spc ((es.take (k + 1)).flatMap (gatE (gat F f) 0 18446744073709551616 0)))) := by
          show World.ownsRow _ _ _ _ _ _ _
          rw [HTK.out, spc_app]
          exact own7
        have B7 : Hid (But w.heap.size g w w7) := B6.out.grown hg7 (Nat.le_refl _) (fun x hx => (O6.out.lt x hx).1)
        have G7 : Hid (Bk w7 g 3 #[.int .i64 k6]) := (hg7.block g G6.out.lt (own_bk_ne O6.out G6.out (by decide))).trans G6.out
        clear own7 hg7
        go_wp2_with fail
        go_roundg (N - (k + 1))
        case measure => omega
        case rel => exact ⟨k + 1, m + n6, c7, k6, A7, by omega, by omega, by go_num, rfl, by omega, by omega, B7, G7, O7⟩
    · obtain rfl : k = N := by omega
      have hl0 : Hid ((spansS F).length = m) := by
        have h1 := OW.out.1
        rw [List.take_of_length_le (by have := HN.out; omega), ← HS0.out, spc_len] at h1
        show _ = _
        omega
      have OS : Hid (wr.ownsRow w.heap.size 43 4 (.slice A3 m c3) m (spc (spansS F))) := by
        have h1 := OW.out
        rw [List.take_of_length_le (by have := HN.out; omega), ← HS0.out] at h1
        exact h1
      have hm : m ≤ 1000 := by omega
      have KS := Lib.hid (sort_any w.heap.size A3 m c3 (spansS F) hl0.out (by omega) wr OS.out)
      go_wp2_with fail
      refine KS.out.mono ?_
      rintro e w8 ⟨rfl, l', hp, hris, own8, hg8⟩
      have HP := Lib.hid hp
      have HI := Lib.hid hris
      have O8 := Lib.hid own8
      have B8 : Hid (Below w.heap.size w w8) := by
        have hb : Below w.heap.size w wr := ⟨BW.out.os, BW.out.tape, BW.out.output, BW.out.size, fun i hi => BW.out.block i hi (by omega)⟩
        exact hb.grown hg8 BW.out.size (fun x hx => (OS.out.lt x hx).1)
      clear hp hris own8 hg8
      go_wp2_with fail
      go_ret
      exact ⟨A3, m, c3, l', rfl, by rw [HP.out.length_eq]; exact hl0.out, HP.out, HI.out, O8.out, B8.out, hm⟩
end Go.Proofs.Ytlamkhmbjkjbdaa
