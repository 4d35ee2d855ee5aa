/-
  Proved: ShapeTurns returns true for every input: another direction or another first edge changes no point. No condition but that of the row itself.
-/
import Derived.Test.YtpnlegfdkkcnlaaOpt
import Derived.Test.YtpnlegfdkkcnlaaShapeTurnsW
import Derived.Test.YtpnlegfdkkcnlaaShapeTurnsP
namespace Go.Proofs.Ytpnlegfdkkcnlaa
open Go.ChangeShapes Go.WideShapes Go.ChangeAt Go.RowKit
set_option linter.unusedVariables false
set_option maxRecDepth 100000 in
theorem shapeTurns_lifted (os : Os) (started : os.Started) (H : Type) (enc : TypeId × Value → H) :
    ReturnsInHanded {} Try.checked os 7 .any (Rows.shapeTurnsSpec.pre6 enc Try.prog Try.f7 Rows.shapeTurnsRow.domain false) (Rows.shapeTurnsSpec.post enc Try.prog Try.f7 false true false false) := by
  refine returnsInHanded_of_change (C := Try.checked) own started (by kernel_rfl) Try.func7
    (ChangeSpec.witness6 (enc := enc) (C := Try.checked) false ⟨#[], #[.slice none 0 0, .slice none 0 0, .int .u8 0], []⟩ 8 (by kernel_rfl) (by kernel_rfl) (by kernel_rfl) (by kernel_rfl)) ?_
  intro W base args ds gs before hval0 hW hcnd _
  have hval : ∀ (j : Nat) t v, Try.f7.params[j]? = some t → args[j]? = some v → Value.okWide Try.prog W .any base t v := hval0
  have hW' := hW
  obtain ⟨p, q, hA0, hV, rfl, hfz, hnd⟩ := hW
  have hA : DataW.TrodAll enc Try.prog W 0 (fun _ => true) true Try.f7.params.toList args.toList ds p := hA0
  rw [Try.params7] at hA hval
  obtain ⟨v0, vs0, d0, ds0, p0, q0, hargs, rfl, rfl, h0, r0⟩ := trodAll_cons hA
  obtain ⟨v1, vs1, d1, ds1, p1, q1, rfl, rfl, rfl, h1, r1⟩ := trodAll_cons r0
  obtain ⟨v2, vs2, d2, ds2, p2, q2, rfl, rfl, rfl, h2, r2⟩ := trodAll_cons r1
  obtain ⟨rfl, rfl, rfl⟩ := trodAll_nil r2
  obtain rfl : args = #[v0, v1, v2] := by cases args; simp_all
  obtain ⟨l, kl, x0⟩ := open_one opT22 (.inl ⟨_, Try.underlying22⟩) (hval 0 22 v0 rfl rfl) h0
  obtain ⟨m, km, x1⟩ := open_one opT22 (.inl ⟨_, Try.underlying22⟩) (hval 1 22 v1 rfl rfl) h1
  obtain ⟨first, kfirst, x2⟩ := open_one (opens_int Try.underlying5) (.inr (.inl ⟨_, Try.underlying5⟩)) (hval 2 5 v2 rfl rfl) h2
  clear hA0 hval0
  refine (law_of_pure (pShapeTurns l m first (maxLen_i kl.1) (maxLen_i km.1) (bounds_u8 kfirst)) (shapeTurns_true l m first (bounds_u8 kfirst)) (.cons x0 (.cons x1 (.cons x2 .nil)))).mono fun e W' ⟨he, hb⟩ => ?_
  subst he
  exact ⟨_, rfl, law_post hW' rfl rfl laidOut (by rw [Try.params7]; exact List.forall_mem_cons.2 ⟨⟨by kernel_rfl, of_decide_eq_true (by kernel_rfl)⟩, List.forall_mem_cons.2 ⟨⟨by kernel_rfl, of_decide_eq_true (by kernel_rfl)⟩, List.forall_mem_cons.2 ⟨⟨by kernel_rfl, of_decide_eq_true (by kernel_rfl)⟩, List.forall_mem_nil _⟩⟩⟩) rfl Try.underlying4 hb⟩
theorem shapeTurns_holds : Rows.ShapeTurnsSaid :=
  OpenClaim.holds_of_wide 7 Try.f7 rfl rfl rfl rfl rfl rfl rfl ⟨rfl, rfl, rfl, rfl, rfl⟩ rfl rfl rfl rfl rfl (by kernel_rfl) Try.func7 (by kernel_rfl)
    (of_decide_eq_true (by kernel_rfl)) (by unfold Func.isWrapper; first | (rw [if_pos (by decide +kernel)]; kernel_rfl) | (rw [if_neg (by decide +kernel)]; exact ⟨rfl, rfl⟩))
    (fun os started H enc _ => shapeTurns_lifted os started H enc)
#print axioms shapeTurns_holds
end Go.Proofs.Ytpnlegfdkkcnlaa
