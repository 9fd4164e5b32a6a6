/- The contract of arboretlaw10.awake: true (layer 10). No conditions. -/
import Derived.Test.YtkkpdeiooopifaaMg
namespace Go.Proofs.Ytkkpdeiooopifaa
open Go.RowKit Go.Sort
set_option linter.unusedVariables false
def TrueBelow (w : World) (e : Ending) (w' : World) : Prop := e = .returned (.bool true) ∧ Below w.heap.size w w'
def nd0 : Nd := .mk ⟨#[]⟩ [] []
def nda : Nd := .mk ⟨#[]⟩ [(⟨#[97]⟩, ByteArray.empty)] []
theorem nd0_at (φ : Nat → Prop) (w : World) (M d : Nat) : NdAt φ w M (d + 1) (.slice none 0 0) (.slice none 0 0) nd0 :=
  ⟨⟨[], SlAt.nil _ _ _, Nat.zero_le _, Rel.nil _⟩, ⟨[], SlAt.nil _ _ _, Nat.zero_le _, Rel.nil _⟩⟩
theorem nda_at (w : World) (g : Nat) (h : Bk w g 32 #[.string ⟨#[97]⟩, .slice none 0 0]) : NdAt (fun _ => True) w 1024 1 (.slice (some ⟨g, 0, none⟩) 1 1) (.slice none 0 0) nda := by
  refine ⟨⟨[(⟨#[97]⟩, .slice none 0 0)], ⟨some ⟨g, 0, none⟩, 1, rfl, Nat.le_refl _, by simp [maxLen], (fun e => by cases e), rfl, fun _ => ⟨_, rfl, trivial⟩, fun ad e j u hu => ?_⟩, by simp [nda, Nd.props], ?_⟩, ⟨[], SlAt.nil _ _ _, Nat.zero_le _, Rel.nil _⟩⟩
  · injection e with e
    subst e
    rw [adr, h.cell]
    simpa [pcs] using hu
  · refine ⟨rfl, fun i a b ha hb => ?_⟩
    cases i with
    | zero =>
      simp [nda, Nd.props] at ha hb
      subst ha hb
      exact ⟨rfl, (by show (1 : Nat) ≤ 1024; omega), ⟨[], SlAt.nil _ _ _, Nat.zero_le _, rfl⟩⟩
    | succ i => simp at ha
set_option maxHeartbeats 1600000 in
theorem awake_any (w : World) : Calls Try.prog 6 #[] w (TrueBelow w) := by
  have K := Lib.hid (fun (W : World) (g : Nat) (h : Bk W g 32 #[.string ⟨#[97]⟩, .slice none 0 0]) => merge_any 1 ⟨#[]⟩ ⟨#[]⟩ (.slice none 0 0) (.slice none 0 0) (.slice (some ⟨g, 0, none⟩) 1 1) (.slice none 0 0) nd0 nda (fun _ => True) 1024 W (by omega) (by decide) (fun _ _ => trivial) (nd0_at _ _ _ _) (nda_at W g h))
  unfold MergeOut at K
  go_enter Try.func6, Try.ntmps6
  go_wp2_with fail
  refine (K.out _ _ (Bk.new _ _ _)).mono ?_
  rintro e w1 ⟨vp, vk, rfl, n1, b1⟩
  obtain ⟨A, c, rfl, h1, h2, h3⟩ := n1.1.form
  obtain ⟨A', c', rfl, _⟩ := n1.2.form
  have hl : (mergeN 1 nd0 nda).props.length = 1 := rfl
  generalize (mergeN 1 nd0 nda).props.length = L at *
  subst hl
  generalize (mergeN 1 nd0 nda).kids.length = L2 at *
  have B1 := Lib.hid (bw_trans (bw_alloc (Below.refl w.heap.size w) _) b1)
  clear n1 b1 K
  have hfd : ∀ w : World, (Instr.field 25 (.agg #[.string ⟨#[]⟩, .slice A 1 c, .slice A' L2 c']) 1).run Try.prog w = .ok (.slice A 1 c) w := fun _ => by kernel_rfl
  go_wp2_with fail
  go_ret
  exact ⟨rfl, B1.out⟩
end Go.Proofs.Ytkkpdeiooopifaa
