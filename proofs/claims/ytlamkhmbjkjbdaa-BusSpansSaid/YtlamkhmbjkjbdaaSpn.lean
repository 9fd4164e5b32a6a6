/- The plain law under BusSpans: spans of right buses, and to which device an access of them comes (layer 21). Conditions: right buses of entries of 64-bit numbers. -/
import Derived.Test.YtlamkhmbjkjbdaaRDec
namespace Go.Proofs.Ytlamkhmbjkjbdaa
set_option linter.unusedVariables false
/-- Addresses that come to a device. -/
structure Sp where
  a : Int
  s : Int
  d : Int
  o : Int
/-- The spans of one entry of a bus: of its addresses those in a window, at other ones above. -/
def gatE (rec : Nat → Int → Int → Int → List Sp) (ba bs ab : Int) (e : En) : List Sp :=
  if meetV e.a e.s ba bs then
    (if e.y then rec e.d.toNat (e.b + (max e.a ba - e.a)) (min (e.a + (e.s - 1)) (ba + (bs - 1)) - max e.a ba + 1) (ab + (max e.a ba - ba))
    else [⟨ab + (max e.a ba - ba), min (e.a + (e.s - 1)) (ba + (bs - 1)) - max e.a ba + 1, e.d, max e.a ba - e.a⟩])
  else []
def gat (F : Fb) : Nat → Nat → Int → Int → Int → List Sp
  | 0, _, _, _, _ => []
  | f + 1, n, ba, bs, ab => ((F[n]?).getD []).flatMap (gatE (gat F f) ba bs ab)
theorem gat_succ (F : Fb) (f n : Nat) (h : n < F.length) (ba bs ab : Int) : gat F (f + 1) n ba bs ab = F[n].flatMap (gatE (gat F f) ba bs ab) := by
  rw [gat, List.getElem?_eq_getElem h]; rfl
/-- Buses whose entries may be. -/
def FbOk' (F : Fb) : Prop := ∀ es ∈ F, ∀ e ∈ es, e.Ok
theorem meetV_true {x s y t : Int} (h : meetV x s y t = true) : x ≤ y + (t - 1) ∧ y ≤ x + (s - 1) := by
  unfold meetV at h
  rw [Bool.and_eq_true] at h
  simpa using h
section
variable {F : Fb} (hr : rightB F = true) (ho : FbOk' F)
include hr ho
theorem ent_of {n : Nat} (hn : n < F.length) {e : En} (he : e ∈ F[n]) : Win e.a e.s ∧ 0 ≤ e.d ∧ e.Ok ∧ (e.y = true → Win e.b e.s ∧ (n : Int) < e.d ∧ e.d < F.length) := by
  obtain ⟨i, hi, rfl⟩ := List.getElem_of_mem he
  have hok := ho _ (List.getElem_mem hn) _ (List.getElem_mem hi)
  obtain ⟨h1, h2, h3⟩ := entB_facts hok (rightB_ent hr hn hi)
  exact ⟨h1, h2, hok, h3⟩
/-- Of what addresses the spans are. -/
def SpIn (lo hi : Int) (s : Sp) : Prop := lo ≤ s.a ∧ 1 ≤ s.s ∧ s.a + s.s ≤ hi ∧ 0 ≤ s.o ∧ s.o + s.s ≤ 18446744073709551616 ∧ -9223372036854775808 ≤ s.d ∧ s.d ≤ 9223372036854775807
theorem gatE_in (f : Nat) (ih : ∀ n ba bs ab, n < F.length → Win ba bs → Win ab bs → ∀ s ∈ gat F f n ba bs ab, SpIn ab (ab + bs) s)
    {n : Nat} (hn : n < F.length) {ba bs ab : Int} (hb : Win ba bs) (ha : Win ab bs) {e : En} (he : e ∈ F[n]) :
    ∀ s ∈ gatE (gat F f) ba bs ab e, SpIn (ab + (max e.a ba - ba)) (ab + (min (e.a + (e.s - 1)) (ba + (bs - 1)) - ba) + 1) s := by
  intro s hs
  obtain ⟨win, hd0, hok, hbr⟩ := ent_of hr ho hn he
  have := win.x0; have := win.s0; have := win.end_
  have := hb.x0; have := hb.s0; have := hb.end_
  have := ha.x0; have := ha.end_
  unfold gatE at hs
  split at hs
  · rename_i hm
    obtain ⟨m1, m2⟩ := meetV_true hm
    split at hs
    · rename_i hy
      obtain ⟨wb, h1, h2⟩ := hbr hy
      have := wb.x0; have := wb.end_
      have hin := ih _ _ _ _ (by omega) ⟨by omega, by omega, by omega⟩ ⟨by omega, by omega, by omega⟩ s hs
      unfold SpIn at hin ⊢
      omega
    · simp only [List.mem_singleton] at hs
      subst hs
      have := hok.ud
      unfold SpIn
      simp only
      omega
  · cases hs
theorem gat_in (f : Nat) : ∀ n ba bs ab, n < F.length → Win ba bs → Win ab bs → ∀ s ∈ gat F f n ba bs ab, SpIn ab (ab + bs) s := by
  induction f with
  | zero => intro n ba bs ab hn hb ha s hs; cases hs
  | succ f ih =>
    intro n ba bs ab hn hb ha s hs
    rw [gat_succ F f n hn] at hs
    obtain ⟨e, he, hs⟩ := List.mem_flatMap.1 hs
    have hin := gatE_in hr ho f ih hn hb ha he s hs
    have hm : meetV e.a e.s ba bs = true := by
      cases hq : meetV e.a e.s ba bs
      · unfold gatE at hs; rw [hq] at hs; cases hs
      · rfl
    obtain ⟨m1, m2⟩ := meetV_true hm
    obtain ⟨win, hd0, hok, hbr⟩ := ent_of hr ho hn he
    have := win.x0; have := win.s0; have := hb.x0; have := hb.s0
    unfold SpIn at hin ⊢
    omega
/-- Two spans do not meet. -/
def Apart (s t : Sp) : Prop := s.a + s.s ≤ t.a ∨ t.a + t.s ≤ s.a
omit hr ho in
theorem pairwise_flatMap {α β : Type} {R : β → β → Prop} {g : α → List β} {l : List α} (h1 : ∀ x ∈ l, (g x).Pairwise R) (h2 : l.Pairwise fun x y => ∀ a ∈ g x, ∀ b ∈ g y, R a b) : (l.flatMap g).Pairwise R := by
  induction l with
  | nil => exact .nil
  | cons x xs ih =>
    rw [List.flatMap_cons, List.pairwise_append]
    rw [List.pairwise_cons] at h2
    refine ⟨h1 x (by simp), ih (fun y hy => h1 y (by simp [hy])) h2.2, fun a ha b hb => ?_⟩
    obtain ⟨y, hy, hb⟩ := List.mem_flatMap.1 hb
    exact h2.1 y hy a ha b hb
theorem gat_apart (f : Nat) : ∀ n ba bs ab, n < F.length → Win ba bs → Win ab bs → (gat F f n ba bs ab).Pairwise Apart := by
  induction f with
  | zero => intro n ba bs ab hn hb ha; exact .nil
  | succ f ih =>
    intro n ba bs ab hn hb ha
    rw [gat_succ F f n hn]
    refine pairwise_flatMap (fun e he => ?_) ?_
    · obtain ⟨win, hd0, hok, hbr⟩ := ent_of hr ho hn he
      have := win.x0; have := win.s0; have := win.end_
      have := hb.x0; have := hb.s0; have := hb.end_
      have := ha.x0; have := ha.end_
      unfold gatE
      split
      · rename_i hm
        obtain ⟨m1, m2⟩ := meetV_true hm
        split
        · rename_i hy
          obtain ⟨wb, h1, h2⟩ := hbr hy
          have := wb.x0; have := wb.end_
          exact ih _ _ _ _ (by omega) ⟨by omega, by omega, by omega⟩ ⟨by omega, by omega, by omega⟩
        · exact List.pairwise_singleton _ _
      · exact .nil
    · rw [List.pairwise_iff_getElem]
      intro i j hi hj hij s hs t ht
      have hap := rightB_apart' hr hn hj hij
      have h1 := gatE_in hr ho f (gat_in hr ho f) hn hb ha (List.getElem_mem hi) s hs
      have h2 := gatE_in hr ho f (gat_in hr ho f) hn hb ha (List.getElem_mem hj) t ht
      generalize F[n][i] = x at *
      generalize F[n][j] = y at *
      unfold meetV at hap
      rw [Bool.and_eq_false_iff] at hap
      simp only [decide_eq_false_iff_not] at hap
      unfold SpIn at h1 h2
      unfold Apart
      omega
omit ho in
theorem hit_of {n : Nat} (hn : n < F.length) {e : En} (he : e ∈ F[n]) {w x : Int} (hw : 0 < w) (h : insideV e.a e.s x w = true) : hitE w x F[n] = some e := by
  obtain ⟨j, hj, rfl⟩ := List.getElem_of_mem he
  have hidx : idx (fun e => insideV e.a e.s x w) F[n] = j := idx_hit _ _ j hj h fun i hi => by
    cases hq : insideV (F[n][i]'(by omega)).a (F[n][i]'(by omega)).s x w
    · rfl
    · have := one_holds hr hn hw hj hi hq
      rw [h] at this
      cases this
  unfold hitE
  rw [hidx, if_neg (by omega), Int.toNat_natCast, List.getElem?_eq_getElem hj]
omit hr ho in
theorem hit_mem {n : Nat} (hn : n < F.length) {e : En} {w x : Int} (h : hitE w x F[n] = some e) : e ∈ F[n] ∧ insideV e.a e.s x w = true := by
  unfold hitE at h
  split at h
  · cases h
  rename_i hneg
  obtain ⟨k, hk⟩ : ∃ k : Nat, idx (fun e => insideV e.a e.s x w) F[n] = k := ⟨(idx (fun e => insideV e.a e.s x w) F[n]).toNat, by have := idx_bounds (fun e => insideV e.a e.s x w) F[n]; omega⟩
  obtain ⟨hkl, hp⟩ := idx_spec _ _ k hk
  rw [hk, Int.toNat_natCast, List.getElem?_eq_getElem hkl] at h
  injection h with h
  exact ⟨h ▸ List.getElem_mem hkl, h ▸ hp⟩
/-- What comes to a device is in a span of it. -/
theorem dec_span {w : Int} (hw : 0 < w) (f : Nat) : ∀ n ba bs ab x (h d o h' : Int), n < F.length → Win ba bs → Win ab bs → ba ≤ x → x + w ≤ ba + bs → dec F w f n x h = some (d, o, h') →
    ∃ s ∈ gat F f n ba bs ab, s.a ≤ ab + (x - ba) ∧ ab + (x - ba) + w ≤ s.a + s.s ∧ s.d = d ∧ o = s.o + (ab + (x - ba) - s.a) := by
  induction f with
  | zero => intro n ba bs ab x h d o h' hn hb ha hx1 hx2 hd; simp [dec] at hd
  | succ f ih =>
    intro n ba bs ab x h d o h' hn hb ha hx1 hx2 hd
    rw [dec, List.getElem?_eq_getElem hn, Option.bind_some] at hd
    cases hh : hitE w x F[n] with
    | none => rw [hh] at hd; cases hd
    | some e =>
      rw [hh] at hd
      obtain ⟨he, hins⟩ := hit_mem hn hh
      obtain ⟨win, hd0, hok, hbr⟩ := ent_of hr ho hn he
      obtain ⟨a1, a2, a3⟩ := insideV_facts hw hins
      have := win.x0; have := win.s0; have := win.end_
      have := hb.x0; have := hb.s0; have := hb.end_
      have := ha.x0; have := ha.end_
      have hm : meetV e.a e.s ba bs = true := by unfold meetV; rw [Bool.and_eq_true]; simp; omega
      simp only at hd
      cases hy : e.y
      · rw [hy] at hd
        simp only [Bool.false_eq_true, if_false, Option.some.injEq, Prod.mk.injEq] at hd
        obtain ⟨rfl, rfl, rfl⟩ := hd
        refine ⟨⟨ab + (max e.a ba - ba), min (e.a + (e.s - 1)) (ba + (bs - 1)) - max e.a ba + 1, e.d, max e.a ba - e.a⟩, ?_, ?_⟩
        · rw [gat_succ F f n hn]
          refine List.mem_flatMap.2 ⟨e, he, ?_⟩
          unfold gatE
          rw [hm, hy]
          simp
        · refine ⟨?_, ?_, rfl, ?_⟩
          all_goals
            dsimp only
            omega
      · rw [hy] at hd
        simp only [if_true] at hd
        obtain ⟨wb, h1, h2⟩ := hbr hy
        have := wb.x0; have := wb.end_
        obtain ⟨s, hs, g1, g2, g3, g4⟩ := ih e.d.toNat (e.b + (max e.a ba - e.a)) (min (e.a + (e.s - 1)) (ba + (bs - 1)) - max e.a ba + 1) (ab + (max e.a ba - ba)) _ _ _ _ _ (by omega) ⟨by omega, by omega, by omega⟩ ⟨by omega, by omega, by omega⟩ (by omega) (by omega) hd
        refine ⟨s, ?_, by omega, by omega, g3, by omega⟩
        rw [gat_succ F f n hn]
        refine List.mem_flatMap.2 ⟨e, he, ?_⟩
        unfold gatE
        rw [hm, hy]
        exact hs
/-- What is in a span comes to its device. -/
theorem span_dec {w : Int} (hw : 0 < w) (f : Nat) : ∀ n ba bs ab X (h : Int) (s : Sp), n < F.length → Win ba bs → Win ab bs → s ∈ gat F f n ba bs ab → s.a ≤ X → X + w ≤ s.a + s.s →
    ∃ h', dec F w f n (ba + (X - ab)) h = some (s.d, s.o + (X - s.a), h') := by
  induction f with
  | zero => intro n ba bs ab X h s hn hb ha hs; cases hs
  | succ f ih =>
    intro n ba bs ab X h s hn hb ha hs hX1 hX2
    rw [gat_succ F f n hn] at hs
    obtain ⟨e, he, hs⟩ := List.mem_flatMap.1 hs
    obtain ⟨win, hd0, hok, hbr⟩ := ent_of hr ho hn he
    have := win.x0; have := win.s0; have := win.end_
    have := hb.x0; have := hb.s0; have := hb.end_
    have := ha.x0; have := ha.end_
    have hin := gatE_in hr ho f (gat_in hr ho f) hn hb ha he s hs
    unfold SpIn at hin
    have hm : meetV e.a e.s ba bs = true := by
      cases hq : meetV e.a e.s ba bs
      · unfold gatE at hs; rw [hq] at hs; cases hs
      · rfl
    obtain ⟨m1, m2⟩ := meetV_true hm
    have hins : insideV e.a e.s (ba + (X - ab)) w = true := by
      rw [inside_win win hw]
      unfold wholeV
      simp
      omega
    rw [dec, List.getElem?_eq_getElem hn, Option.bind_some, hit_of hr hn he hw hins]
    unfold gatE at hs
    rw [hm] at hs
    simp only [if_true] at hs ⊢
    cases hy : e.y
    · rw [hy] at hs
      simp only [Bool.false_eq_true, if_false, List.mem_singleton] at hs
      subst hs
      simp only [Bool.false_eq_true, if_false]
      exact ⟨h, by congr 2; congr 1; omega⟩
    · rw [hy] at hs
      simp only [if_true] at hs ⊢
      obtain ⟨wb, h1, h2⟩ := hbr hy
      have := wb.x0; have := wb.end_
      obtain ⟨h', hd⟩ := ih e.d.toNat (e.b + (max e.a ba - e.a)) (min (e.a + (e.s - 1)) (ba + (bs - 1)) - max e.a ba + 1) (ab + (max e.a ba - ba)) X (h + 1) s (by omega) ⟨by omega, by omega, by omega⟩ ⟨by omega, by omega, by omega⟩ hs hX1 hX2
      refine ⟨h', ?_⟩
      rw [← hd]
      congr 1
      omega
end
/-- How many entries are met from a bus on, on all ways, at most. -/
def cntW (F : Fb) : Nat → Nat → Nat
  | 0, _ => 0
  | f + 1, n => (((F[n]?).getD []).map fun e => 1 + if e.y then cntW F f e.d.toNat else 0).sum
def cntL (F : Fb) (f : Nat) (es : List En) : Nat := (es.map fun e => 1 + if e.y then cntW F f e.d.toNat else 0).sum
theorem cntW_succ (F : Fb) (f n : Nat) (h : n < F.length) : cntW F (f + 1) n = cntL F f F[n] := by
  rw [cntW, List.getElem?_eq_getElem h]; rfl
theorem cntL_drop (F : Fb) (f : Nat) (es : List En) (k : Nat) (h : k < es.length) : cntL F f (es.drop k) = (1 + if es[k].y then cntW F f es[k].d.toNat else 0) + cntL F f (es.drop (k + 1)) := by
  unfold cntL
  rw [List.drop_eq_getElem_cons h, List.map_cons, List.sum_cons]
/-- The law's own count: in so many steps it is too many. -/
def wysL (rec : Nat → Nat) (es : List En) (k : Nat) : Nat := es.foldl (fun k e => if e.y ∧ k < 2000 then k + rec e.d.toNat else k) k
def wys (F : Fb) : Nat → Nat → Nat
  | 0, _ => 1048576
  | d + 1, n => wysL (wys F d) ((F[n]?).getD []) ((F[n]?).getD []).length
theorem wysL_ge (rec : Nat → Nat) (es : List En) (k : Nat) : k ≤ wysL rec es k := by
  unfold wysL
  induction es generalizing k with
  | nil => exact Nat.le_refl _
  | cons e es ih =>
    rw [List.foldl_cons]
    refine Nat.le_trans ?_ (ih _)
    split <;> omega
theorem wysL_le (rec : Nat → Nat) (M : Nat) (hM : ∀ n, rec n ≤ M) (es : List En) (k : Nat) (hk : k ≤ 2000 + M) : wysL rec es k ≤ 2000 + M := by
  unfold wysL
  induction es generalizing k with
  | nil => exact hk
  | cons e es ih =>
    rw [List.foldl_cons]
    refine ih _ ?_
    have := hM e.d.toNat
    split <;> omega
theorem wys_le (F : Fb) (hF : ∀ es ∈ F, es.length ≤ 2000) (d : Nat) : ∀ n, wys F d n ≤ 1048576 + 2000 * d := by
  induction d with
  | zero => intro n; exact Nat.le_refl _
  | succ d ih =>
    intro n
    have h : ((F[n]?).getD []).length ≤ 2000 := by
      cases hq : F[n]? with
      | none => simp
      | some es => exact hF es (List.mem_of_getElem? hq)
    have := wysL_le (wys F d) _ ih ((F[n]?).getD []) ((F[n]?).getD []).length (by omega)
    show wysL _ _ _ ≤ _
    omega
theorem wysL_sum (F : Fb) (rec : Nat → Nat) (f : Nat) (es : List En) (k : Nat) (h : wysL rec es k ≤ 1000) (hrec : ∀ e ∈ es, e.y = true → rec e.d.toNat ≤ 1000 → cntW F f e.d.toNat ≤ rec e.d.toNat) :
    k + cntL F f es ≤ wysL rec es k + es.length := by
  induction es generalizing k with
  | nil => simp [wysL, cntL]
  | cons e es ih =>
    have hge := wysL_ge rec es (if e.y ∧ k < 2000 then k + rec e.d.toNat else k)
    have hstep : wysL rec (e :: es) k = wysL rec es (if e.y ∧ k < 2000 then k + rec e.d.toNat else k) := rfl
    rw [hstep] at h ⊢
    have hk : k ≤ 1000 := by
      have : k ≤ if e.y ∧ k < 2000 then k + rec e.d.toNat else k := by split <;> omega
      omega
    have hi := ih _ h (fun x hx => hrec x (by simp [hx]))
    have hc : cntL F f (e :: es) = (1 + if e.y then cntW F f e.d.toNat else 0) + cntL F f es := by simp [cntL]
    rw [hc, List.length_cons]
    by_cases hy : e.y = true
    · have hif : (if e.y = true ∧ k < 2000 then k + rec e.d.toNat else k) = k + rec e.d.toNat := if_pos ⟨hy, by omega⟩
      rw [hif] at hge hi h ⊢
      rw [if_pos hy]
      have := hrec e (by simp) hy (by omega)
      omega
    · have hif : (if e.y = true ∧ k < 2000 then k + rec e.d.toNat else k) = k := if_neg fun hq => hy hq.1
      rw [hif] at hge hi h ⊢
      rw [if_neg hy]
      omega
theorem wys_cnt (F : Fb) (d : Nat) : ∀ f n, wys F d n ≤ 1000 → cntW F f n ≤ wys F d n := by
  induction d with
  | zero => intro f n h; simp [wys] at h
  | succ d ih =>
    intro f n h
    cases f with
    | zero => exact Nat.zero_le _
    | succ f =>
      have h1 : wysL (wys F d) ((F[n]?).getD []) ((F[n]?).getD []).length ≤ 1000 := h
      have := wysL_sum F (wys F d) f _ _ h1 fun e he hy hle => ih f _ hle
      show cntL F f ((F[n]?).getD []) ≤ wysL _ _ _
      omega
/-- The spans of all addresses. -/
def spansS (F : Fb) : List Sp := gat F F.length 0 0 18446744073709551616 0
/-- The buses with one entry alone on the first one. -/
def one (F : Fb) (e : En) : Fb := [e] :: F.tail
theorem one_len {F : Fb} (h : 0 < F.length) (e : En) : (one F e).length = F.length := by
  unfold one
  cases F with
  | nil => simp at h
  | cons a t => rfl
theorem one_at {F : Fb} (h : 0 < F.length) (e : En) (n : Nat) (hn : 0 < n) : (one F e)[n]? = F[n]? := by
  unfold one
  cases F with
  | nil => simp at h
  | cons a t =>
    obtain ⟨m, rfl⟩ : ∃ m, n = m + 1 := ⟨n - 1, by omega⟩
    rfl
theorem one_right {F : Fb} (hr : rightB F = true) (h : 0 < F.length) {e : En} (he : e ∈ F[0]) : rightB (one F e) = true := by
  obtain ⟨h1, h2, h3⟩ := (rightB_iff F).1 hr
  refine (rightB_iff _).2 ⟨by rw [one_len h]; exact h1, by rw [one_len h]; exact h2, fun n hn => ?_⟩
  have hl : ((one F e).length : Int) = (F.length : Int) := by rw [one_len h]
  rw [hl]
  rcases Nat.eq_zero_or_pos n with rfl | hp
  · show rbV F.length 0 [e] = true
    obtain ⟨i, hi, rfl⟩ := List.getElem_of_mem he
    have hent := rightB_ent hr h hi
    unfold rbV
    rw [Bool.and_eq_true]
    refine ⟨(busB_iff _ _ _).2 fun j hj => ?_, by simp⟩
    have hj0 : j < 1 := hj
    obtain rfl : j = 0 := by omega
    exact ⟨hent, rfl⟩
  · have hn' : n < F.length := by rw [one_len h] at hn; exact hn
    have e1 : (one F e)[n] = F[n] := by
      have := one_at h e n hp
      rw [List.getElem?_eq_getElem hn, List.getElem?_eq_getElem hn'] at this
      injection this
    rw [e1]
    exact h3 n hn'
theorem one_ok {F : Fb} (ho : FbOk' F) (h : 0 < F.length) {e : En} (he : e ∈ F[0]) : FbOk' (one F e) := by
  intro es hes x hx
  unfold one at hes
  rcases List.mem_cons.1 hes with rfl | hes
  · obtain rfl : x = e := by simpa using hx
    exact ho _ (List.getElem_mem h) _ he
  · exact ho es (List.mem_of_mem_tail hes) x hx
theorem one_gat {F : Fb} (hr : rightB F = true) (ho : FbOk' F) (h : 0 < F.length) (e : En) (f : Nat) : ∀ n ba bs ab, 0 < n → n < F.length → gat (one F e) f n ba bs ab = gat F f n ba bs ab := by
  induction f with
  | zero => intros; rfl
  | succ f ih =>
    intro n ba bs ab hn hl
    rw [gat_succ F f n hl, gat, one_at h e n hn, List.getElem?_eq_getElem hl, Option.getD_some]
    have hall : ∀ x ∈ F[n], gatE (gat (one F e) f) ba bs ab x = gatE (gat F f) ba bs ab x := by
      intro x hx
      obtain ⟨win, hd0, hok, hbr⟩ := ent_of hr ho hl hx
      unfold gatE
      split
      · split
        · rename_i hy
          obtain ⟨wb, h1, h2⟩ := hbr hy
          exact ih _ _ _ _ (by omega) (by omega)
        · rfl
      · rfl
    generalize F[n] = l at hall
    induction l with
    | nil => rfl
    | cons x xs ihl =>
      rw [List.flatMap_cons, List.flatMap_cons, hall x (by simp), ihl fun y hy => hall y (by simp [hy])]
theorem one_cnt {F : Fb} (hr : rightB F = true) (ho : FbOk' F) (h : 0 < F.length) (e : En) (f : Nat) : ∀ n, 0 < n → n < F.length → cntW (one F e) f n = cntW F f n := by
  induction f with
  | zero => intros; rfl
  | succ f ih =>
    intro n hn hl
    rw [cntW_succ F f n hl, cntW, one_at h e n hn, List.getElem?_eq_getElem hl, Option.getD_some]
    unfold cntL
    congr 1
    refine List.map_congr_left fun x hx => ?_
    obtain ⟨win, hd0, hok, hbr⟩ := ent_of hr ho hl hx
    split
    · rename_i hy
      obtain ⟨wb, h1, h2⟩ := hbr hy
      rw [ih _ (by omega) (by omega)]
    · rfl
/-- The spans from one entry of the first bus on, seen by its own addresses. -/
theorem one_spans {F : Fb} (hr : rightB F = true) (ho : FbOk' F) (h : 0 < F.length) {e : En} (he : e ∈ F[0]) (f : Nat) : gat (one F e) (f + 1) 0 e.a e.s e.a = gatE (gat F f) 0 18446744073709551616 0 e := by
  obtain ⟨win, hd0, hok, hbr⟩ := ent_of hr ho h he
  have := win.x0; have := win.s0; have := win.end_
  have h1 : gat (one F e) (f + 1) 0 e.a e.s e.a = gatE (gat (one F e) f) e.a e.s e.a e := by
    show ([e] : List En).flatMap _ = _
    simp
  rw [h1]
  unfold gatE
  have m1 : meetV e.a e.s e.a e.s = true := by unfold meetV; simp; omega
  have m2 : meetV e.a e.s 0 18446744073709551616 = true := by unfold meetV; simp; omega
  rw [m1, m2, if_pos rfl, if_pos rfl]
  have a1 : max e.a e.a - e.a = max e.a 0 - e.a := by omega
  have a2 : min (e.a + (e.s - 1)) (e.a + (e.s - 1)) - max e.a e.a + 1 = min (e.a + (e.s - 1)) (0 + (18446744073709551616 - 1)) - max e.a 0 + 1 := by omega
  have a3 : e.a + (max e.a e.a - e.a) = 0 + (max e.a 0 - 0) := by omega
  split
  · rename_i hy
    obtain ⟨wb, h1, h2⟩ := hbr hy
    rw [a3, a2, a1]
    exact one_gat hr ho h e f _ _ _ _ (by omega) (by omega)
  · rw [a3, a2, a1]
theorem one_cntW {F : Fb} (hr : rightB F = true) (ho : FbOk' F) (h : 0 < F.length) {e : En} (he : e ∈ F[0]) (f : Nat) : cntW (one F e) (f + 1) 0 = 1 + if e.y then cntW F f e.d.toNat else 0 := by
  obtain ⟨win, hd0, hok, hbr⟩ := ent_of hr ho h he
  show (([e] : List En).map _).sum = _
  simp only [List.map_cons, List.map_nil, List.sum_cons, List.sum_nil, Nat.add_zero]
  split
  · rename_i hy
    obtain ⟨wb, h1, h2⟩ := hbr hy
    rw [one_cnt hr ho h e f _ (by omega) (by omega)]
  · rfl
end Go.Proofs.Ytlamkhmbjkjbdaa
