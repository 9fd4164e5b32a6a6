/- Entries of a bus in memory; the closures over them; slices.IndexFunc and ContainsFunc at entries. Conditions: entries of 64-bit numbers. -/
import Derived.Test.YtlamkhmbjkjbdaaWin
import Derived.Deep.LoopGhost
import Derived.Shelf.GgClosure.Gives
namespace Go.Proofs.Ytlamkhmbjkjbdaa
open Go.RowKit Go.Sort
set_option linter.unusedVariables false
/-- An entry. -/
structure En where
  a : Int
  s : Int
  y : Bool
  d : Int
  b : Int
structure En.Ok (e : En) : Prop where
  ua : U e.a
  us : U e.s
  ud : -9223372036854775808 ≤ e.d ∧ e.d ≤ 9223372036854775807
  ub : U e.b
/-- The cells of an entry lie at an address. -/
structure EnAt (w : World) (ad : Addr) (e : En) : Prop where
  c0 : w.cell? ad = some (.int .u64 e.a)
  c1 : w.cell? ⟨ad.block, ad.off + 1, none⟩ = some (.int .u64 e.s)
  c2 : w.cell? ⟨ad.block, ad.off + 2, none⟩ = some (.bool e.y)
  c3 : w.cell? ⟨ad.block, ad.off + 3, none⟩ = some (.int .i64 e.d)
  c4 : w.cell? ⟨ad.block, ad.off + 4, none⟩ = some (.int .u64 e.b)
theorem EnAt.stays {w w1 : World} {ad : Addr} {e : En} (h : EnAt w ad e) (hb : Below w.heap.size w w1) : EnAt w1 ad e :=
  ⟨cell_stays hb h.c0, cell_stays hb h.c1, cell_stays hb h.c2, cell_stays hb h.c3, cell_stays hb h.c4⟩
/-- A slice of entries: the first n of them. -/
def Ents (w : World) (A : Option Addr) (es : List En) : Prop := ∀ i (h : i < es.length), ∃ ad, A = some ad ∧ EnAt w (ad.add (i * 5)) es[i] ∧ es[i].Ok
theorem Ents.stays {w w1 : World} {A : Option Addr} {es : List En} (h : Ents w A es) (hb : Below w.heap.size w w1) : Ents w1 A es := fun i hi => by
  obtain ⟨ad, e, k, o⟩ := h i hi
  exact ⟨ad, e, k.stays hb, o⟩
/-- Which is the first of which p holds; -1: none. -/
def idx {α : Type} (p : α → Bool) : List α → Int
  | [] => -1
  | x :: xs => if p x then 0 else if idx p xs < 0 then -1 else idx p xs + 1
theorem idx_bounds {α : Type} (p : α → Bool) (l : List α) : -1 ≤ idx p l ∧ idx p l < l.length := by
  induction l with
  | nil => simp [idx]
  | cons x xs ih =>
    unfold idx
    simp only [List.length_cons]
    split
    · omega
    · split <;> omega
theorem idx_hit {α : Type} (p : α → Bool) (l : List α) (k : Nat) (hk : k < l.length) (h1 : p l[k] = true) (h0 : ∀ j (h : j < k), p (l[j]'(by omega)) = false) : idx p l = k := by
  induction l generalizing k with
  | nil => simp at hk
  | cons x xs ih =>
    cases k with
    | zero => simp at h1; simp [idx, h1]
    | succ k =>
      have hx : p x = false := h0 0 (by omega)
      have := ih k (by simpa using hk) (by simpa using h1) (fun j hj => by simpa using h0 (j + 1) (by omega))
      unfold idx
      rw [if_neg (by simp [hx]), this, if_neg (by omega)]
      simp
theorem idx_miss {α : Type} (p : α → Bool) (l : List α) (h0 : ∀ j (h : j < l.length), p l[j] = false) : idx p l = -1 := by
  induction l with
  | nil => rfl
  | cons x xs ih =>
    have hx : p x = false := h0 0 (by simp)
    have := ih (fun j hj => h0 (j + 1) (by simpa using hj))
    unfold idx
    rw [if_neg (by simp [hx]), this, if_pos (by omega)]
theorem idx_pos {α : Type} (p : α → Bool) (l : List α) : decide (0 ≤ idx p l) = l.any p := by
  induction l with
  | nil => simp [idx]
  | cons x xs ih =>
    unfold idx
    rw [List.any_cons, ← ih]
    by_cases hx : p x
    · simp [hx]
    · by_cases h : idx p xs < 0
      · simp [hx, h]
      · simp [hx, h]; omega
def En.v (e : En) : Value := .agg #[.int .u64 e.a, .int .u64 e.s, .bool e.y, .int .i64 e.d, .int .u64 e.b]
/-- A closure over entries that reads, may draw and may lay blocks. -/
def Tells (g : Nat) (lb : Array Value) (S : En → Prop) (p : En → Bool) (w : World) : Prop :=
  ∀ (W : World) (e : En), S e → Gr w W → Calls Try.prog g (#[e.v] ++ lb) W fun x w' => x = .returned (.bool (p e)) ∧ Gr w w'
set_option maxHeartbeats 1600000 in
theorem index_any (g : Nat) (lb : Array Value) (S : En → Prop) (p : En → Bool) (w : World) (hp : Tells g lb S p w) (eg : ∀ args w, (callFunc g args).run Try.prog w = .ok (.enter g args) w)
    (A : Option Addr) (n c : Nat) (es : List En) (hn : es.length = n) (hm : n ≤ maxLen) (hes : Ents w A es) (hS : ∀ e ∈ es, S e) :
    Calls Try.prog 15 #[.slice A n c, .func (.func g) #[] lb] w fun x w' => x = .returned (.int .i64 (idx p es)) ∧ Gr w w' := by
  subst hn
  unfold maxLen at hm
  have HE := Lib.hid hes
  have HP := Lib.hid hp
  have HS := Lib.hid hS
  clear hes hp hS
  generalize hN : es.length = n at hm ⊢
  have HN := Lib.hid hN
  clear hN
  go_enter Try.func15, Try.ntmps15
  go_wp2_with fail
  go_loopg [5, 8] n (fun gg _ s8 wr => ∃ kk : Nat, kk ≤ n ∧ n - kk ≤ gg ∧ s8 = .int .i64 kk ∧ Hid (Gr w wr) ∧ Hid (∀ j (h : j < es.length), j < kk → p es[j] = false))
  case atStart => exact ⟨0, Nat.zero_le _, by omega, rfl, Gr.refl _, fun j _ hj => absurd hj (Nat.not_lt_zero _)⟩
  case round =>
    obtain ⟨kk, hkk, hg, rfl, BW, AF⟩ := hrel
    by_cases hlt : kk < n
    · obtain ⟨ad, rfl, hat, hok⟩ := (HE.out.stays BW.out.below) kk (by rw [HN.out]; exact hlt)
      have hcall := HP.out wr _ (HS.out _ (List.getElem_mem (by rw [HN.out]; exact hlt))) BW.out
      have H1 := Lib.hid hok
      clear hok
      generalize hy : es[kk]'(by rw [HN.out]; exact hlt) = y at hat hcall H1
      have HY := Lib.hid hy
      clear hy
      obtain ⟨c0, c1, c2, c3, c4⟩ := hat
      unfold En.v at hcall
      have HC := Lib.hid hcall
      clear hcall
      cases hq : p y
      · rw [hq] at HC
        have HQ := Lib.hid hq
        clear hq
        go_wp2_with (go_at_fn g; refine HC.out.mono ?_; rintro e w' ⟨rfl, hb'⟩)
        go_roundg (n - (kk + 1))
        case measure => omega
        case rel =>
          refine ⟨kk + 1, by omega, by omega, by go_num, hb', (show Hid _ from fun j hj hjk => ?_)⟩
          by_cases e : j = kk
          · subst e
            rw [HY.out]; exact HQ.out
          · exact AF.out j hj (by omega)
      · rw [hq] at HC
        have HQ := Lib.hid hq
        clear hq
        go_wp2_with (go_at_fn g; refine HC.out.mono ?_; rintro e w' ⟨rfl, hb'⟩)
        go_ret
        refine ⟨?_, hb'⟩
        rw [idx_hit p es kk (by rw [HN.out]; exact hlt) (by rw [HY.out]; exact HQ.out) (fun j hj => AF.out j _ hj)]
        rfl
    · go_wp2_with fail
      go_ret
      refine ⟨?_, BW.out⟩
      rw [idx_miss p es (fun j hj => AF.out j hj (by have := HN.out; omega))]
      rfl
theorem contains_any (g : Nat) (lb : Array Value) (S : En → Prop) (p : En → Bool) (w : World) (hp : Tells g lb S p w) (eg : ∀ args w, (callFunc g args).run Try.prog w = .ok (.enter g args) w)
    (A : Option Addr) (n c : Nat) (es : List En) (hn : es.length = n) (hm : n ≤ maxLen) (hes : Ents w A es) (hS : ∀ e ∈ es, S e) :
    Calls Try.prog 30 #[.slice A n c, .func (.func g) #[] lb] w fun x w' => x = .returned (.bool (es.any p)) ∧ Gr w w' := by
  have K := Lib.hid (index_any g lb S p w hp eg A n c es hn hm hes hS)
  rw [← idx_pos]
  have hb := idx_bounds p es
  generalize idx p es = r at *
  clear hp eg hes hn hm hS
  go_enter Try.func30, Try.ntmps30
  go_wp2_with fail
  refine K.out.mono ?_
  rintro e w1 ⟨rfl, g1⟩
  go_wp2_with fail
  go_ret
  exact ⟨rfl, g1⟩
set_option maxHeartbeats 800000 in
/-- The closure of Decode: does an entry hold these bytes? -/
theorem dec_tells (w : World) (b1 b2 : Nat) (t n : Int) (ht : U t) (hn : 0 < n ∧ n ≤ 8) (h1 : w.cell? ⟨b1, 0, none⟩ = some (.int .u64 t)) (h2 : w.cell? ⟨b2, 0, none⟩ = some (.int .i64 n)) :
    Tells 16 #[.pointer (some ⟨b1, 0, none⟩), .pointer (some ⟨b2, 0, none⟩)] En.Ok (fun e => insideV e.a e.s t n) w := by
  intro W e he hW
  have l1 := World.block_lt_of_cell? _ _ h1
  have l2 := World.block_lt_of_cell? _ _ h2
  simp only at l1 l2
  have f1 := (hW.below.cell (p := ⟨b1, 0, none⟩) l1).trans h1
  have f2 := (hW.below.cell (p := ⟨b2, 0, none⟩) l2).trans h2
  have l3 := hW.below.size
  have GW := Lib.hid hW
  obtain ⟨ea, es, ey, ed, eb⟩ := e
  obtain ⟨u1, u2, u3, u4⟩ := he
  have K1 := Lib.hid (fun W => window_any ea es ed eb ey W)
  have K2 := Lib.hid (fun W => inside_any ea es t n u1 u2 ht ⟨by omega, by omega⟩ W)
  simp only [En.v]
  generalize insideV ea es t n = r at *
  obtain ⟨n0, n1⟩ := hn
  have n2 : 0 ≤ n := by omega
  clear h1 h2 hW u1 u2 u3 u4 ht
  go_enter Try.func16, Try.ntmps16
  go_wp2_with fail
  generalize hw : W.alloc (.cells #[.int .u64 ea, .int .u64 es, .bool ey, .int .i64 ed, .int .u64 eb] 48) = V
  have z0 : W.heap.size < V.heap.size := by rw [← hw]; simp
  have e0 : ∀ n os, (grow (V.drewN n) os).cell? ⟨W.heap.size, 0, none⟩ = some (.int .u64 ea) := fun n os => cell_grown (by simpa using z0) (by rw [← hw]; simp) n os
  have e1 : ∀ n os, (grow (V.drewN n) os).cell? ⟨W.heap.size, 1, none⟩ = some (.int .u64 es) := fun n os => cell_grown (by simpa using z0) (by rw [← hw]; simp) n os
  have e2 : ∀ n os, (grow (V.drewN n) os).cell? ⟨W.heap.size, 2, none⟩ = some (.bool ey) := fun n os => cell_grown (by simpa using z0) (by rw [← hw]; simp) n os
  have e3 : ∀ n os, (grow (V.drewN n) os).cell? ⟨W.heap.size, 3, none⟩ = some (.int .i64 ed) := fun n os => cell_grown (by simpa using z0) (by rw [← hw]; simp) n os
  have e4 : ∀ n os, (grow (V.drewN n) os).cell? ⟨W.heap.size, 4, none⟩ = some (.int .u64 eb) := fun n os => cell_grown (by simpa using z0) (by rw [← hw]; simp) n os
  have e5 : ∀ n os, (grow (V.drewN n) os).cell? ⟨b1, 0, none⟩ = some (.int .u64 t) := fun n os => cell_grown (by simp; omega) (by rw [← hw, World.cell?_alloc_lt _ _ _ (by simp; omega)]; exact f1) n os
  have e6 : ∀ m os, (grow (V.drewN m) os).cell? ⟨b2, 0, none⟩ = some (.int .i64 n) := fun n os => cell_grown (by simp; omega) (by rw [← hw, World.cell?_alloc_lt _ _ _ (by simp; omega)]; exact f2) n os
  have G0 : Hid (Gr w V) := by rw [← hw]; exact GW.out.alloc _
  clear hw f1 f2 z0 l1 l2 l3
  have hwn : IntKind.u64.wrap n = n := IntWalk.u64_in n (by omega)
  clear n0 n1 n2
  have mixed : Try.prog.follows .mixedOrders = true := by kernel_rfl
  go_quiet_grown (first | (go_at_call 18; exact Calls.grown_of (K1.out _)) | (go_at_call 17; exact Calls.grown_of (K2.out _)))
  go_wp2_with fail
  go_ret
  exact ⟨rfl, G0.out.trans ⟨nq, osq, rfl⟩⟩
set_option maxHeartbeats 800000 in
/-- The closure of rightBus: do the windows of two entries meet? -/
theorem right_tells (w : World) (b1 : Nat) (o : En) (ho : Win o.a o.s) (uo : U o.s) (h0 : EnAt w ⟨b1, 0, none⟩ o) :
    Tells 31 #[.pointer (some ⟨b1, 0, none⟩)] (fun e => e.Ok ∧ Win e.a e.s) (fun e => meetV e.a e.s o.a o.s) w := by
  intro W e ⟨he, hwin⟩ hW
  have l1 := World.block_lt_of_cell? _ _ h0.c0
  obtain ⟨f0, f1, f2, f3, f4⟩ := h0.stays hW.below
  simp only at l1 f0 f1 f2 f3 f4
  have l3 := hW.below.size
  have GW := Lib.hid hW
  obtain ⟨ea, es, ey, ed, eb⟩ := e
  obtain ⟨oa, os, oy, od, ob⟩ := o
  obtain ⟨u1, u2, u3, u4⟩ := he
  have K1 := Lib.hid (fun W => window_any ea es ed eb ey W)
  have K2 := Lib.hid (fun W => window_any oa os od ob oy W)
  have K3 := Lib.hid (fun W => meet_any ea es oa os hwin u2 ho uo W)
  simp only [En.v]
  generalize meetV ea es oa os = r at *
  clear h0 hW u1 u2 u3 u4 ho uo hwin
  go_enter Try.func31, Try.ntmps31
  go_wp2_with fail
  generalize hw : W.alloc (.cells #[.int .u64 ea, .int .u64 es, .bool ey, .int .i64 ed, .int .u64 eb] 48) = V
  have z0 : W.heap.size < V.heap.size := by rw [← hw]; simp
  have e0 : ∀ n os, (grow (V.drewN n) os).cell? ⟨W.heap.size, 0, none⟩ = some (.int .u64 ea) := fun n os => cell_grown (by simpa using z0) (by rw [← hw]; simp) n os
  have e1 : ∀ n os, (grow (V.drewN n) os).cell? ⟨W.heap.size, 1, none⟩ = some (.int .u64 es) := fun n os => cell_grown (by simpa using z0) (by rw [← hw]; simp) n os
  have e2 : ∀ n os, (grow (V.drewN n) os).cell? ⟨W.heap.size, 2, none⟩ = some (.bool ey) := fun n os => cell_grown (by simpa using z0) (by rw [← hw]; simp) n os
  have e3 : ∀ n os, (grow (V.drewN n) os).cell? ⟨W.heap.size, 3, none⟩ = some (.int .i64 ed) := fun n os => cell_grown (by simpa using z0) (by rw [← hw]; simp) n os
  have e4 : ∀ n os, (grow (V.drewN n) os).cell? ⟨W.heap.size, 4, none⟩ = some (.int .u64 eb) := fun n os => cell_grown (by simpa using z0) (by rw [← hw]; simp) n os
  have g0 : ∀ n q, (grow (V.drewN n) q).cell? ⟨b1, 0, none⟩ = some (.int .u64 oa) := fun n q => cell_grown (by simp; omega) (by rw [← hw, World.cell?_alloc_lt _ _ _ (by simp; omega)]; exact f0) n q
  have g1 : ∀ n q, (grow (V.drewN n) q).cell? ⟨b1, 1, none⟩ = some (.int .u64 os) := fun n q => cell_grown (by simp; omega) (by rw [← hw, World.cell?_alloc_lt _ _ _ (by simp; omega)]; exact f1) n q
  have g2 : ∀ n q, (grow (V.drewN n) q).cell? ⟨b1, 2, none⟩ = some (.bool oy) := fun n q => cell_grown (by simp; omega) (by rw [← hw, World.cell?_alloc_lt _ _ _ (by simp; omega)]; exact f2) n q
  have g3 : ∀ n q, (grow (V.drewN n) q).cell? ⟨b1, 3, none⟩ = some (.int .i64 od) := fun n q => cell_grown (by simp; omega) (by rw [← hw, World.cell?_alloc_lt _ _ _ (by simp; omega)]; exact f3) n q
  have g4 : ∀ n q, (grow (V.drewN n) q).cell? ⟨b1, 4, none⟩ = some (.int .u64 ob) := fun n q => cell_grown (by simp; omega) (by rw [← hw, World.cell?_alloc_lt _ _ _ (by simp; omega)]; exact f4) n q
  have G0 : Hid (Gr w V) := by rw [← hw]; exact GW.out.alloc _
  clear hw f0 f1 f2 f3 f4 z0 l1 l3
  have mixed : Try.prog.follows .mixedOrders = true := by kernel_rfl
  go_quiet_grown (first | (go_at_call_of 18 ea; exact Calls.grown_of (K1.out _)) | (go_at_call_of 18 oa; exact Calls.grown_of (K2.out _)) | (go_at_call 32; exact Calls.grown_of (K3.out _)))
  go_wp2_with fail
  go_ret
  exact ⟨rfl, G0.out.trans ⟨nq, osq, rfl⟩⟩
end Go.Proofs.Ytlamkhmbjkjbdaa
