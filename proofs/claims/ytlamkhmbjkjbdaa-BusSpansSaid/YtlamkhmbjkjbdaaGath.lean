/- The contract of bus.gather (layer 21). Conditions: right buses of entries of 64-bit numbers; not too many ways. -/
import Derived.Test.YtlamkhmbjkjbdaaSpn
import Derived.Test.YtlamkhmbjkjbdaaTheirs
namespace Go.Proofs.Ytlamkhmbjkjbdaa
open Go.RowKit Go.Sort
set_option linter.unusedVariables false
/-- Of the blocks below B only g may be another. -/
structure But (B g : Nat) (w w' : World) : Prop where
  os : w'.os = w.os
  tape : w'.tape = w.tape
  output : w'.output = w.output
  size : w.heap.size ≤ w'.heap.size
  block : ∀ i, i < B → i ≠ g → w'.heap[i]? = w.heap[i]?
section
variable {B g : Nat} {u v w : World}
theorem But.refl (B g : Nat) (w : World) : But B g w w := ⟨rfl, rfl, rfl, Nat.le_refl _, fun _ _ _ => rfl⟩
theorem But.trans (h : But B g u v) (k : But B g v w) : But B g u w := ⟨k.os.trans h.os, k.tape.trans h.tape, k.output.trans h.output, Nat.le_trans h.size k.size, fun i hi hg => (k.block i hi hg).trans (h.block i hi hg)⟩
theorem But.below (h : But B g u v) (k : Below v.heap.size v w) (hB : B ≤ u.heap.size) : But B g u w :=
  ⟨k.os.trans h.os, k.tape.trans h.tape, k.output.trans h.output, Nat.le_trans h.size k.size, fun i hi hg => (k.block i (Nat.lt_of_lt_of_le hi (Nat.le_trans hB h.size))).trans (h.block i hi hg)⟩
theorem But.gr (h : But B g u v) (k : Gr v w) (hB : B ≤ u.heap.size) : But B g u w := h.below k.below hB
theorem But.alloc (h : But B g u v) (o : Obj) (hB : B ≤ u.heap.size) : But B g u (v.alloc o) := h.below (bw_alloc (Below.refl _ _) o) hB
theorem But.set (h : But B g u v) {p : Addr} (hp : p.block = g ∨ B ≤ p.block) (x : Value) : But B g u (v.setCell p x) :=
  ⟨h.os, h.tape, h.output, by simpa [World.setCell] using h.size, fun i hi hg => (Below.heap_setCell v p x i (by
    rcases hp with hp | hp
    · omega
    · omega)).trans (h.block i hi hg)⟩
theorem But.grown (h : But B g u v) {row : Option Nat} (k : v.grownBy w row) (hB : B ≤ u.heap.size) (hr : ∀ q, row = some q → B ≤ q) : But B g u w :=
  ⟨k.os.trans h.os, k.tape.trans h.tape, k.output.trans h.output, Nat.le_trans h.size k.size, fun i hi hg => (k.block i (Nat.lt_of_lt_of_le hi (Nat.le_trans hB h.size)) (fun e => by have := hr i e.symm; omega)).trans (h.block i hi hg)⟩
end
/-- Of what was there only block g, and the row ob, may be another. -/
structure Fr (g : Nat) (ob : Option Nat) (w w' : World) : Prop where
  os : w'.os = w.os
  tape : w'.tape = w.tape
  output : w'.output = w.output
  size : w.heap.size ≤ w'.heap.size
  block : ∀ i, i < w.heap.size → i ≠ g → some i ≠ ob → w'.heap[i]? = w.heap[i]?
/-- A row is the one of old, or a new one. -/
def NewRow (w : World) (ob : Option Nat) (v : Value) : Prop := ∀ x, v.ownBlock = some x → some x = ob ∨ w.heap.size ≤ x
section
variable {B g : Nat} {ob : Option Nat} {u v w : World}
theorem Fr.refl (g : Nat) (ob : Option Nat) (w : World) : Fr g ob w w := ⟨rfl, rfl, rfl, Nat.le_refl _, fun _ _ _ _ => rfl⟩
theorem Fr.below (h : Fr g ob u v) (k : Below v.heap.size v w) : Fr g ob u w :=
  ⟨k.os.trans h.os, k.tape.trans h.tape, k.output.trans h.output, Nat.le_trans h.size k.size, fun i hi hg ho => (k.block i (Nat.lt_of_lt_of_le hi h.size)).trans (h.block i hi hg ho)⟩
theorem Fr.alloc (h : Fr g ob u v) (o : Obj) : Fr g ob u (v.alloc o) := h.below (bw_alloc (Below.refl _ _) o)
theorem Fr.set (h : Fr g ob u v) (j : Nat) (x : Value) : Fr g ob u (v.setCell ⟨g, j, none⟩ x) :=
  ⟨h.os, h.tape, h.output, by simpa [World.setCell] using h.size, fun i hi hg ho => (Below.heap_setCell v _ x i hg).trans (h.block i hi hg ho)⟩
theorem Fr.grown (h : Fr g ob u v) {r : Value} (hr : NewRow u ob r) (k : v.grownBy w r.ownBlock) : Fr g ob u w :=
  ⟨k.os.trans h.os, k.tape.trans h.tape, k.output.trans h.output, Nat.le_trans h.size k.size, fun i hi hg ho => (k.block i (Nat.lt_of_lt_of_le hi h.size) (fun e => by
    rcases hr i e.symm with hh | hh
    · exact ho hh
    · omega)).trans (h.block i hi hg ho)⟩
theorem Fr.fr (h : Fr g ob u v) {r : Value} (hr : NewRow u ob r) (k : Fr g r.ownBlock v w) : Fr g ob u w :=
  ⟨k.os.trans h.os, k.tape.trans h.tape, k.output.trans h.output, Nat.le_trans h.size k.size, fun i hi hg ho => (k.block i (Nat.lt_of_lt_of_le hi h.size) hg (fun e => by
    rcases hr i e.symm with hh | hh
    · exact ho hh
    · omega)).trans (h.block i hi hg ho)⟩
theorem Fr.but (h : Fr g ob u v) (ho : ∀ x, ob = some x → B ≤ x) (hB : B ≤ u.heap.size) : But B g u v :=
  ⟨h.os, h.tape, h.output, h.size, fun i hi hg => h.block i (by omega) hg (fun e => by have := ho i e.symm; omega)⟩
theorem NewRow.mono {r : Value} {v' : Value} (h : NewRow u ob r) (hs : u.heap.size ≤ v.heap.size) (k : NewRow v r.ownBlock v') : NewRow u ob v' := fun x hx => by
  rcases k x hx with e | e
  · exact h x e.symm
  · exact .inr (by omega)
theorem own_bk_ne {base : Nat} {e : TypeId} {size n : Nat} {r : Value} {xs : List Value} {q : Nat} {t : TypeId} {cs : Array Value} (h : w.ownsRow base e size r n xs) (hg : Bk w q t cs) (hne : e ≠ t) : some q ≠ r.ownBlock := by
  rcases h.2 with ⟨rfl, _⟩ | ⟨g', cap, cur, rfl, _, hh, _⟩
  · simp [Value.ownBlock]
  · intro he
    have : q = g' := by simpa [Value.ownBlock] using he
    subst this
    unfold Bk at hg
    rw [hh] at hg
    injection hg with hg
    injection hg with _ ht
    exact hne ht
end
/-- Buses that stand whatever becomes of block g, and from B on. -/
def FabS (B g : Nat) (w : World) (A : Option Addr) (F : Fb) : Prop :=
  ∀ i (h : i < F.length), ∃ ad Br c, A = some ad ∧ F[i].length ≤ c ∧ c ≤ maxLen ∧ ∀ w', But B g w w' → w'.cell? (ad.add i) = some (.slice Br F[i].length c) ∧ Ents w' Br F[i]
theorem FabS.at_ {B g : Nat} {w : World} {A : Option Addr} {F : Fb} (h : FabS B g w A F) : Fab w A F := fun i hi => by
  obtain ⟨ad, Br, c, h1, h2, h3, h4⟩ := h i hi
  obtain ⟨h5, h6⟩ := h4 w (But.refl _ _ _)
  exact ⟨ad, Br, c, h1, h5, h2, h3, h6⟩
theorem FabS.but {B g : Nat} {w w' : World} {A : Option Addr} {F : Fb} (h : FabS B g w A F) (k : But B g w w') : FabS B g w' A F := fun i hi => by
  obtain ⟨ad, Br, c, h1, h2, h3, h4⟩ := h i hi
  exact ⟨ad, Br, c, h1, h2, h3, fun w'' k' => h4 w'' (k.trans k')⟩
def Sp.cs (s : Sp) : List Value := [.int .u64 s.a, .int .u64 s.s, .int .i64 s.d, .int .u64 s.o]
def spc (l : List Sp) : List Value := l.flatMap Sp.cs
theorem spc_len (l : List Sp) : (spc l).length = l.length * 4 := by
  induction l with
  | nil => rfl
  | cons e es ih => simp only [spc, List.flatMap_cons, List.length_append, List.length_cons] at ih ⊢; rw [ih]; simp [Sp.cs]; omega
theorem spc_app (l m : List Sp) : spc (l ++ m) = spc l ++ spc m := List.flatMap_append
/-- What gather hands back. -/
def GathPost (B g : Nat) (ob : Option Nat) (nl cnt most : Nat) (xs new : List Sp) (w : World) (e : Ending) (w' : World) : Prop :=
  ∃ (A : Option Addr) (n c k : Nat), e = .returned (.tuple #[.slice A n c, .bool true]) ∧ w'.ownsRow B 43 4 (.slice A n c) n (spc (xs ++ new)) ∧ Bk w' g 3 #[.int .i64 k] ∧ Fr g ob w w' ∧ NewRow w ob (.slice A n c) ∧ k ≤ cnt + most ∧ n + cnt ≤ nl + k ∧ cnt ≤ k
theorem own_gr {w w' : World} {B : Nat} {t : TypeId} {sz n : Nat} {v : Value} {xs : List Value} (h : w.ownsRow B t sz v n xs) (hb : Below w.heap.size w w') : w'.ownsRow B t sz v n xs := by
  have hg : w.grownBy w' none := ⟨hb.os, hb.tape, hb.output, hb.size, fun i hi _ => hb.block i hi⟩
  exact h.kept hg (by cases h : v.ownBlock <;> simp)
theorem info43 : (Try.prog.info? 43).map (fun i => (i.zero, i.size, i.bytes)) = some (some (.agg #[.int .u64 0, .int .u64 0, .int .i64 0, .int .u64 0]), 4, 32) := by kernel_rfl
/-- How things stand within a round of gather. -/
structure St (B g : Nat) (ob : Option Nat) (w V : World) (p q cn : Nat) (ba bs ea es : Int) (ey : Bool) (ed eb : Int) (A : Option Addr) (m c : Nat) (xs : List Sp) : Prop where
  eb : Bk V q 48 #[.int .u64 ea, .int .u64 es, .bool ey, .int .i64 ed, .int .u64 eb]
  bb : Bk V p 51 #[.int .u64 ba, .int .u64 bs]
  gb : Bk V g 3 #[.int .i64 cn]
  ow : V.ownsRow B 43 4 (.slice A m c) m (spc xs)
  fr : Fr g ob w V
  nr : NewRow w ob (.slice A m c)
section
variable {B g : Nat} {ob : Option Nat} {w V V' : World} {p q cn : Nat} {ba bs ea es : Int} {ey : Bool} {ed eb : Int} {A : Option Addr} {m c : Nat} {xs : List Sp}
theorem St.below (h : St B g ob w V p q cn ba bs ea es ey ed eb A m c xs) (hb : Below V.heap.size V V') : St B g ob w V' p q cn ba bs ea es ey ed eb A m c xs :=
  ⟨h.eb.below hb, h.bb.below hb, h.gb.below hb, own_gr h.ow hb, h.fr.below hb, h.nr⟩
theorem St.facts (h : St B g ob w V p q cn ba bs ea es ey ed eb A m c xs) :
    V.cell? ⟨q, 0, none⟩ = some (.int .u64 ea) ∧ V.cell? ⟨q, 1, none⟩ = some (.int .u64 es) ∧ V.cell? ⟨q, 2, none⟩ = some (.bool ey) ∧ V.cell? ⟨q, 3, none⟩ = some (.int .i64 ed) ∧ V.cell? ⟨q, 4, none⟩ = some (.int .u64 eb) ∧
    V.cell? ⟨p, 0, none⟩ = some (.int .u64 ba) ∧ V.cell? ⟨p, 1, none⟩ = some (.int .u64 bs) ∧ V.cell? ⟨g, 0, none⟩ = some (.int .i64 cn) ∧ V.frozen? ⟨g, 0, none⟩ = false ∧ q < V.heap.size ∧ p < V.heap.size ∧ g < V.heap.size :=
  ⟨by simpa using h.eb.cell 0, by simpa using h.eb.cell 1, by simpa using h.eb.cell 2, by simpa using h.eb.cell 3, by simpa using h.eb.cell 4, by simpa using h.bb.cell 0, by simpa using h.bb.cell 1, by simpa using h.gb.cell 0, h.gb.free 0, h.eb.lt, h.bb.lt, h.gb.lt⟩
end
set_option maxHeartbeats 6400000 in
set_option maxRecDepth 100000 in
theorem gather_any (A : Option Addr) (c : Nat) (F : Fb) (hr : rightB F = true) (ho : FbOk' F) (B g : Nat) (hgB : g < B) (f : Nat) :
    ∀ (n : Nat) (ba bs ab : Int) (Al : Option Addr) (nl cl cnt : Nat) (xs : List Sp) (w : World), n < F.length → F.length ≤ n + f → Win ba bs → U bs → Win ab bs → B ≤ w.heap.size → FabS B g w A F → Bk w g 3 #[.int .i64 cnt] →
      w.ownsRow B 43 4 (.slice Al nl cl) nl (spc xs) → nl ≤ cnt → cnt + cntW F f n ≤ 4096 →
      Calls Try.prog 23 #[.slice A F.length c, .int .i64 n, .agg #[.int .u64 ba, .int .u64 bs], .int .u64 ab, .slice Al nl cl, .pointer (some ⟨g, 0, none⟩)] w (GathPost B g (Value.slice Al nl cl).ownBlock nl cnt (cntW F f n) xs (gat F f n ba bs ab) w) := by
  obtain ⟨i43, hi43, hz43, hs43, hb43⟩ := info_parts info43
  have HI := Lib.hid (And.intro hi43 (And.intro hz43 (And.intro hs43 hb43)))
  have HR := Lib.hid hr
  have HO := Lib.hid ho
  have hq := (rightB_iff F).1 hr
  clear hi43 hz43 hs43 hb43 hr ho
  induction f with
  | zero => intro n ba bs ab Al nl cl cnt xs w hn hf; omega
  | succ f ih =>
    intro n ba bs ab Al nl cl cnt xs w hn hf hwb hub hwa hBw hF hk hown hnl hcnt
    have HG := Lib.hid (gat_succ F f n hn ba bs ab)
    have hCW := cntW_succ F f n hn
    rw [hCW] at hcnt ⊢
    have HENT := Lib.hid (fun (e : En) (he : e ∈ F[n]) => ent_of HR.out HO.out hn he)
    have HIH := Lib.hid ih
    have HF := Lib.hid hF
    have HK := Lib.hid hk
    have HOW := Lib.hid hown
    have HWB := Lib.hid hwb
    have HWA := Lib.hid hwa
    have L256 := hq.2.1
    obtain ⟨ad, Br, c1, rfl, hl1, hl2, hst⟩ := hF n hn
    obtain ⟨L, hL⟩ : ∃ L, L = F.length := ⟨_, rfl⟩
    have HL := Lib.hid hL
    have hc := (hst (w.alloc (.cells #[.int .u64 ba, .int .u64 bs] 51)) ((But.refl _ _ _).alloc _ hBw)).1
    have HST := Lib.hid hst
    have hok : ∀ e ∈ F[n], e.Ok := HO.out _ (List.getElem_mem hn)
    have HOK := Lib.hid hok
    rw [← hL] at hn hf L256 ⊢
    generalize F[n] = es at HG HENT hCW hcnt hl1 hc HST HOK ⊢
    clear hst hok hL hF hk hown hwb hwa ih hq HR HO hCW
    rw [HG.out]
    obtain ⟨N, hNN⟩ : ∃ N, N = es.length := ⟨_, rfl⟩
    have HNN := Lib.hid hNN
    rw [← hNN] at hc hl1
    unfold maxLen at hl2
    obtain ⟨bs0, bs1⟩ := hub
    have HCN := Lib.hid hcnt
    obtain ⟨M, hM⟩ : ∃ M, M = cntL F f es := ⟨_, rfl⟩
    have HM := Lib.hid hM
    rw [← hM] at hcnt ⊢
    clear hNN hM
    have ba0 := HWB.out.x0
    have ba1 := HWB.out.s0
    have ba2 := HWB.out.end_
    have ab0 := HWA.out.x0
    have ab2 := HWA.out.end_
    have n0 : (0 : Int) ≤ n := by omega
    have n1 : (n : Int) < L := by omega
    generalize hob : (Value.slice Al nl cl).ownBlock = ob
    have HOB : Hid (∀ x, ob = some x → B ≤ x) := fun x hx => (HOW.out.lt x (hob.trans hx)).1
    have HNR : Hid (NewRow w ob (.slice Al nl cl)) := fun x hx => .inl (by rw [← hob, hx])
    clear hob
    go_enter Try.func23, Try.ntmps23
    go_wp2_with fail
    go_loopg [4, 12, 13, 15, 16, 17, 18, 19, 20, 26] N (fun gg s4 _ _ _ _ _ _ _ _ s26 wr => ∃ (k m c4 cn : Nat) (A4 : Option Addr), k ≤ N ∧ N - k ≤ gg ∧ s26 = .int .i64 k ∧ s4 = .slice A4 m c4 ∧ m + cnt ≤ nl + cn ∧ cnt ≤ cn ∧ cn + cntL F f (es.drop k) ≤ cnt + M ∧ cn ≤ 4096 ∧
      Hid (Fr g ob w wr) ∧ Hid (NewRow w ob (.slice A4 m c4)) ∧ Hid (w.heap.size < wr.heap.size) ∧ Hid (Bk wr w.heap.size 51 #[.int .u64 ba, .int .u64 bs]) ∧ Hid (Bk wr g 3 #[.int .i64 cn]) ∧
      Hid (wr.ownsRow B 43 4 (.slice A4 m c4) m (spc (xs ++ (es.take k).flatMap (gatE (gat F f) ba bs ab)))))
    case atStart => exact ⟨0, nl, cl, cnt, Al, Nat.zero_le _, by omega, rfl, rfl, by omega, by omega, (by rw [List.drop_zero, ← HM.out]; omega), by omega, (Fr.refl g ob w).alloc _, HNR, (by show w.heap.size < _; simp), Bk.new _ _ _, HK.out.alloc _, (by show World.ownsRow _ _ _ _ _ _ _; have := own_gr HOW.out (bw_alloc (Below.refl _ _) (.cells #[.int .u64 ba, .int .u64 bs] 51)); simpa using this)⟩
    case round =>
      obtain ⟨k, m, c4, cn, A4, hk, hg, rfl, rfl, hmc, hcc, hcm, hc4, FW, NW, ZW, BK, GK, OW⟩ := hrel
      have BWw : Hid (But B g w wr) := FW.out.but HOB.out hBw
      have hBr : B ≤ wr.heap.size := Nat.le_trans hBw BWw.out.size
      by_cases hlt : k < N
      · have hkE : k < es.length := by rw [← HNN.out]; exact hlt
        obtain ⟨hhd, hents⟩ := HST.out wr BWw.out
        obtain ⟨bd, rfl, hat, hok⟩ := hents k hkE
        have hdrop := cntL_drop F f es k hkE
        have htake : (es.take (k + 1)).flatMap (gatE (gat F f) ba bs ab) = (es.take k).flatMap (gatE (gat F f) ba bs ab) ++ gatE (gat F f) ba bs ab es[k] := by
          rw [List.take_succ_eq_append_getElem hkE, List.flatMap_append]; simp
        obtain ⟨win, hd0, _, hbr⟩ := HENT.out es[k] (List.getElem_mem hkE)
        rw [hdrop] at hcm
        have HTK := Lib.hid htake
        have HBR := Lib.hid hbr
        clear hdrop htake hbr hhd hents
        generalize es[k] = e at *
        obtain ⟨ea, es', ey, ed, eb⟩ := e
        obtain ⟨u1, u2, u3, u4⟩ := hok
        obtain ⟨x0, x1, x2, x3, x4⟩ := hat
        simp only at u1 u2 u3 u4 x0 x1 x2 x3 x4 win hd0 hcm
        have e0 := win.x0
        have e1 := win.s0
        have e2 := win.end_
        have KW := Lib.hid (fun W => window_any ea es' ed eb ey W)
        have KM := Lib.hid (fun W => meet_any ea es' ba bs win u2 HWB.out ⟨bs0, bs1⟩ W)
        have hmt : meetV ea es' ba bs = true → ea ≤ ba + (bs - 1) ∧ ba ≤ ea + (es' - 1) := meetV_true
        have HMT := Lib.hid hmt
        obtain ⟨u31, u32⟩ := u3
        have u21 := u2.2
        clear hmt win u1 u2 u4
        have EB := Lib.hid (Bk.new wr 48 #[.int .u64 ea, .int .u64 es', .bool ey, .int .i64 ed, .int .u64 eb])
        go_wp2_with fail
        generalize hwv : wr.alloc (.cells #[.int .u64 ea, .int .u64 es', .bool ey, .int .i64 ed, .int .u64 eb] 48) = V
        have HS : Hid (St B g ob w V w.heap.size wr.heap.size cn ba bs ea es' ey ed eb A4 m c4 (xs ++ (es.take k).flatMap (gatE (gat F f) ba bs ab))) := by
          have hbl : Below wr.heap.size wr V := by rw [← hwv]; exact bw_alloc (Below.refl _ _) _
          exact ⟨by rw [← hwv]; exact EB.out, BK.out.below hbl, GK.out.below hbl, own_gr OW.out hbl, FW.out.below hbl, NW.out⟩
        have hBV : B ≤ V.heap.size := by rw [← hwv]; simp; omega
        generalize hq8 : wr.heap.size = q at HS
        have hqV : Hid (q = wr.heap.size) := hq8.symm
        obtain ⟨c0, c1', c2, c3, c4', b0, b1, g0, gf, zq, zp, zg⟩ := HS.out.facts
        have C0 := fun m os => cg c0 m os
        have C1 := fun m os => cg c1' m os
        have C2 := fun m os => cg c2 m os
        have C3 := fun m os => cg c3 m os
        have C4 := fun m os => cg c4' m os
        have B0 := fun m os => cg b0 m os
        have B1 := fun m os => cg b1 m os
        have mixed : Try.prog.follows .mixedOrders = true := by kernel_rfl
        clear hwv EB BK GK OW x0 x1 x2 x3 x4 c0 c1' c2 c3 c4' b0 b1 g0 gf zq zp zg
        generalize hrr : meetV ea es' ba bs = r at KM HMT
        have HRR := Lib.hid hrr
        clear hrr
        cases r
        · have hgE : Hid ((es.take (k + 1)).flatMap (gatE (gat F f) ba bs ab) = (es.take k).flatMap (gatE (gat F f) ba bs ab)) := by
            show _ = _
            rw [HTK.out]
            have h0 : gatE (gat F f) ba bs ab ⟨ea, es', ey, ed, eb⟩ = [] := by
              unfold gatE
              rw [HRR.out]; rfl
            rw [h0, List.append_nil]
          go_quiet_grown (first | (go_at_call 18; exact Calls.grown_of (KW.out _)) | (go_at_call 32; exact Calls.grown_of (KM.out _)))
          have HS2 := Lib.hid (HS.out.below (Gr.below ⟨nq, osq, rfl⟩ : Below V.heap.size V (grow (V.drewN nq) osq)))
          clear C0 C1 C2 C3 C4 B0 B1
          go_wp2_with fail
          go_roundg (N - (k + 1))
          case measure => omega
          case rel =>
            refine ⟨k + 1, m, c4, cn, A4, by omega, by omega, by go_num, rfl, hmc, hcc, by omega, hc4, HS2.out.fr, HS2.out.nr, HS2.out.bb.lt, HS2.out.bb, HS2.out.gb, ?_⟩
            · show World.ownsRow _ _ _ _ _ _ _
              rw [hgE.out]
              exact HS2.out.ow
        · obtain ⟨m1, m2⟩ := HMT.out (by first | trivial | rfl)
          go_quiet_grown (first | (go_at_call 18; exact Calls.grown_of (KW.out _)) | (go_at_call 32; exact Calls.grown_of (KM.out _)))
          have HS2 := Lib.hid (HS.out.below (Gr.below ⟨nq, osq, rfl⟩ : Below V.heap.size V (grow (V.drewN nq) osq)))
          have hBV2 : B ≤ (grow (V.drewN nq) osq).heap.size := by simp; omega
          generalize grow (V.drewN nq) osq = V2 at HS2 hBV2 ⊢
          clear C0 C1 C2 C3 C4 B0 B1 KW KM
          obtain ⟨c0, c1', c2, c3, c4', b0, b1, g0, gf, zq, zp, zg⟩ := HS2.out.facts
          have hcn0 : ((cn + 1 : Nat) : Int) = (cn : Int) + 1 := by omega
          have GS : Hid (Bk (V2.setCell ⟨g, 0, none⟩ (.int .i64 ((cn : Int) + 1))) g 3 #[.int .i64 ((cn + 1 : Nat) : Int)]) := by
            rw [hcn0]; exact HS2.out.gb.set 0 _
          have OS : Hid ((V2.setCell ⟨g, 0, none⟩ (.int .i64 ((cn : Int) + 1))).ownsRow B 43 4 (.slice A4 m c4) m (spc (xs ++ (es.take k).flatMap (gatE (gat F f) ba bs ab)))) := ownsRow_setCell_below HS2.out.ow hgB _
          have BS : Hid (Fr g ob w (V2.setCell ⟨g, 0, none⟩ (.int .i64 ((cn : Int) + 1)))) := HS2.out.fr.set 0 _
          have PS : Hid (Bk (V2.setCell ⟨g, 0, none⟩ (.int .i64 ((cn : Int) + 1))) w.heap.size 51 #[.int .u64 ba, .int .u64 bs]) := bk_far HS2.out.bb (by show w.heap.size ≠ g; omega) _
          have hsz : (V2.setCell ⟨g, 0, none⟩ (.int .i64 ((cn : Int) + 1))).heap.size = V2.heap.size := by simp
          have HSZ := Lib.hid hsz
          clear hcn0 hsz
          cases ey
          · have hgE : Hid (xs ++ (es.take (k + 1)).flatMap (gatE (gat F f) ba bs ab) = (xs ++ (es.take k).flatMap (gatE (gat F f) ba bs ab)) ++ [⟨ab + (max ea ba - ba), min (ea + (es' - 1)) (ba + (bs - 1)) - max ea ba + 1, ed, max ea ba - ea⟩]) := by
              show _ = _
              rw [HTK.out]
              have h0 : gatE (gat F f) ba bs ab ⟨ea, es', false, ed, eb⟩ = [⟨ab + (max ea ba - ba), min (ea + (es' - 1)) (ba + (bs - 1)) - max ea ba + 1, ed, max ea ba - ea⟩] := by
                unfold gatE
                rw [HRR.out]; rfl
              rw [h0, List.append_assoc]
            obtain ⟨hi, hz, hs, hb⟩ := HI.out
            have O3 := Lib.hid ((OS.out.alloc (.cells #[.int .u64 (max ea ba), .int .u64 (min (ea + (es' - 1)) (ba + (bs - 1)) - max ea ba + 1)] 51)).alloc (.cells #[.int .u64 (ab + (max ea ba - ba)), .int .u64 (min (ea + (es' - 1)) (ba + (bs - 1)) - max ea ba + 1), .int .i64 ed, .int .u64 (max ea ba - ea)] 43))
            go_wp2_with (at_builtin; refine wpList_append_lies _ rfl (.tmp 77) (.tmp 88) 40 (by rfl) B 43 i43 (.agg #[.int .u64 0, .int .u64 0, .int .i64 0, .int .u64 0]) 4 32 Try.underlying40 hi hz hs hb rfl (by decide) (.slice A4 m c4) m (spc (xs ++ (es.take k).flatMap (gatE (gat F f) ba bs ab))) (by rfl) O3.out ⟨V2.heap.size + 1, 0, none⟩ 1 1 (Sp.cs ⟨ab + (max ea ba - ba), min (ea + (es' - 1)) (ba + (bs - 1)) - max ea ba + 1, ed, max ea ba - ea⟩) (by rfl) rfl ?c1 ?c2 (by decide) ?c3 ?c4 ?c5 (V2.heap.size + 2) (by simp) ?_)
            case c1 => exact fun j u hu => hu
            case c2 => intro u hu; simp only [Sp.cs, List.mem_cons, List.not_mem_nil, or_false] at hu; rcases hu with rfl | rfl | rfl | rfl <;> rfl
            case c3 => simp only [maxLen]; omega
            case c4 => omega
            case c5 => omega
            intro ga c6 w6 own6 hg6 hat6 hlt6
            have O6 : Hid (w6.ownsRow B 43 4 (.slice (some ⟨ga, 0, none⟩) (m + 1) c6) (m + 1) (spc (xs ++ (es.take (k + 1)).flatMap (gatE (gat F f) ba bs ab)))) := by
              show World.ownsRow _ _ _ _ _ _ _
              rw [hgE.out, spc_app]
              have h1 : spc [(⟨ab + (max ea ba - ba), min (ea + (es' - 1)) (ba + (bs - 1)) - max ea ba + 1, ed, max ea ba - ea⟩ : Sp)] = Sp.cs ⟨ab + (max ea ba - ba), min (ea + (es' - 1)) (ba + (bs - 1)) - max ea ba + 1, ed, max ea ba - ea⟩ := by simp [spc]
              rw [h1]
              exact own6
            have hns : w.heap.size ≤ V2.heap.size := HS2.out.fr.size
            have B6 : Hid (Fr g ob w w6) := ((BS.out.alloc _).alloc _).grown HS2.out.nr hg6
            have N6 : Hid (NewRow w ob (.slice (some ⟨ga, 0, none⟩) (m + 1) c6)) := fun x hx => by
              have hx' : x = ga := by simpa [Value.ownBlock] using hx.symm
              rcases hat6 with hh | hh
              · exact HS2.out.nr x (by rw [hx']; exact hh)
              · exact .inr (by omega)
            have hkeep : ∀ x t cs, t ≠ 43 → Bk (V2.setCell ⟨g, 0, none⟩ (.int .i64 ((cn : Int) + 1))) x t cs → Bk w6 x t cs := fun x t cs ht hbk => by
              have hbk2 := (hbk.alloc (.cells #[.int .u64 (max ea ba), .int .u64 (min (ea + (es' - 1)) (ba + (bs - 1)) - max ea ba + 1)] 51)).alloc (.cells #[.int .u64 (ab + (max ea ba - ba)), .int .u64 (min (ea + (es' - 1)) (ba + (bs - 1)) - max ea ba + 1), .int .i64 ed, .int .u64 (max ea ba - ea)] 43)
              exact (hg6.block x hbk2.lt (own_bk_ne O3.out hbk2 (Ne.symm ht))).trans hbk2
            have G6 : Hid (Bk w6 g 3 #[.int .i64 ((cn + 1 : Nat) : Int)]) := hkeep _ _ _ (by decide) GS.out
            have P6 : Hid (Bk w6 w.heap.size 51 #[.int .u64 ba, .int .u64 bs]) := hkeep _ _ _ (by decide) PS.out
            clear own6 hg6 hat6 hlt6 hkeep hi hz hs hb O3 c0 c1' c2 c3 c4' b0 b1 g0 gf zq zp zg
            go_wp2_with fail
            go_roundg (N - (k + 1))
            case measure => omega
            case rel => exact ⟨k + 1, m + 1, c6, cn + 1, _, by omega, by omega, by go_num, rfl, by omega, by omega, by simp at hcm; omega, by omega, B6, N6, P6.out.lt, P6, G6, O6⟩
          · obtain ⟨wb, hlt1, hlt2⟩ := HBR.out rfl
            obtain ⟨d, rfl⟩ : ∃ d : Nat, ed = d := ⟨ed.toNat, by omega⟩
            have wb0 := wb.x0
            have wb2 := wb.end_
            have hnF : d < F.length := by omega
            rw [← HL.out] at hlt2
            simp only [if_true, Int.toNat_natCast] at hcm
            have hgE : Hid (xs ++ (es.take (k + 1)).flatMap (gatE (gat F f) ba bs ab) = (xs ++ (es.take k).flatMap (gatE (gat F f) ba bs ab)) ++ gat F f d (eb + (max ea ba - ea)) (min (ea + (es' - 1)) (ba + (bs - 1)) - max ea ba + 1) (ab + (max ea ba - ba))) := by
              show _ = _
              rw [HTK.out]
              have h0 : gatE (gat F f) ba bs ab ⟨ea, es', true, d, eb⟩ = gat F f d (eb + (max ea ba - ea)) (min (ea + (es' - 1)) (ba + (bs - 1)) - max ea ba + 1) (ab + (max ea ba - ba)) := by
                unfold gatE
                rw [HRR.out]; rfl
              rw [h0, List.append_assoc]
            have hsz1 : Win (eb + (max ea ba - ea)) (min (ea + (es' - 1)) (ba + (bs - 1)) - max ea ba + 1) := ⟨by omega, by omega, by omega⟩
            have hsz2 : U (min (ea + (es' - 1)) (ba + (bs - 1)) - max ea ba + 1) := ⟨by omega, by omega⟩
            have hsz3 : Win (ab + (max ea ba - ba)) (min (ea + (es' - 1)) (ba + (bs - 1)) - max ea ba + 1) := ⟨by omega, by omega, by omega⟩
            have j1 : 0 ≤ eb + (max ea ba - ea) := by omega
            have j2 : eb + (max ea ba - ea) < 18446744073709551616 := by omega
            have B2 : But B g w ((V2.setCell ⟨g, 0, none⟩ (.int .i64 ((cn : Int) + 1))).alloc (.cells #[.int .u64 (max ea ba), .int .u64 (min (ea + (es' - 1)) (ba + (bs - 1)) - max ea ba + 1)] 51)) := (BS.out.alloc _).but HOB.out hBw
            have KI := HIH.out d (eb + (max ea ba - ea)) (min (ea + (es' - 1)) (ba + (bs - 1)) - max ea ba + 1) (ab + (max ea ba - ba)) A4 m c4 (cn + 1) (xs ++ (es.take k).flatMap (gatE (gat F f) ba bs ab))
              ((V2.setCell ⟨g, 0, none⟩ (.int .i64 ((cn : Int) + 1))).alloc (.cells #[.int .u64 (max ea ba), .int .u64 (min (ea + (es' - 1)) (ba + (bs - 1)) - max ea ba + 1)] 51)) hnF (by have := HL.out; omega) hsz1 hsz2 hsz3 (by rw [World.size_alloc, HSZ.out]; omega) (HF.out.but B2) (GS.out.alloc _) (OS.out.alloc _) (by omega) (by omega)
            rw [← HL.out] at KI
            have HKI := Lib.hid KI
            have HW2 := Lib.hid B2
            clear KI B2 hsz1 hsz2 hsz3 wb hnF
            go_wp2_with fail
            refine HKI.out.mono ?_
            rintro e w6 ⟨A6, n6, c6, k6, rfl, O6, G6, F6, N6, h1, h2, h3⟩
            have hns : w.heap.size ≤ V2.heap.size := HS2.out.fr.size
            have O7 : Hid (w6.ownsRow B 43 4 (.slice A6 n6 c6) n6 (spc (xs ++ (es.take (k + 1)).flatMap (gatE (gat F f) ba bs ab)))) := by
              show World.ownsRow _ _ _ _ _ _ _
              rw [hgE.out]; exact O6
            have P6 : Hid (Bk w6 w.heap.size 51 #[.int .u64 ba, .int .u64 bs]) := by
              have hbk := PS.out.alloc (.cells #[.int .u64 (max ea ba), .int .u64 (min (ea + (es' - 1)) (ba + (bs - 1)) - max ea ba + 1)] 51)
              exact (F6.block w.heap.size hbk.lt (by omega) (own_bk_ne (OS.out.alloc _) hbk (by decide))).trans hbk
            have N7 : Hid (NewRow w ob (.slice A6 n6 c6)) := HS2.out.nr.mono (by rw [World.size_alloc, HSZ.out]; omega) N6
            have F7 : Hid (Fr g ob w w6) := (BS.out.alloc _).fr HS2.out.nr F6
            have G7 := Lib.hid G6
            clear O6 G6 F6 N6 HKI c0 c1' c2 c3 c4' b0 b1 g0 gf zq zp zg
            go_wp2_with fail
            go_roundg (N - (k + 1))
            case measure => omega
            case rel => exact ⟨k + 1, n6, c6, k6, _, by omega, by omega, by go_num, rfl, by omega, by omega, by omega, by omega, F7, N7, P6.out.lt, P6, G7, O7⟩
      · obtain rfl : k = N := by omega
        go_wp2_with fail
        go_ret2
        refine ⟨A4, m, c4, cn, rfl, ?_, GK.out, FW.out, NW.out, ?_, by omega, by omega⟩
        · have := OW.out
          rw [List.take_of_length_le (by have := HNN.out; omega)] at this
          exact this
        · have := HNN.out
          rw [List.drop_eq_nil_of_le (by omega)] at hcm
          have hz : cntL F f [] = 0 := rfl
          rw [hz] at hcm
          omega
end Go.Proofs.Ytlamkhmbjkjbdaa
