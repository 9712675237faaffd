/- What is proved: 'BankNone' returns true for every input, and each argument reads behind the call as it read before. There are no conditions. -/
import Derived.Test.YtadpblhmejoiiaaB1
import Derived.Test.YtadpblhmejoiiaaRows
set_option linter.unusedSimpArgs false
set_option linter.unusedVariables false

set_option maxRecDepth 100000
namespace Go.Proofs.Ytadpblhmejoiiaa.bankNone
open Go.ChangeShapes Go.WideShapes Go.ChangeAt Go.RowKit Go.Ab Go.Bo

theorem own : ownKnob Try.prog.godebug = none := by kernel_rfl

theorem spec (a0 a1 : Int) : FnSpec P0 3 [.one (.int .i64 a0), .one (.int .i64 a1)] [] 0 (Out1 (.one (.bool true)) [] 0) :=
  spec_run cx5_ok 1000 0 (fun _ _ => []) (by rw [show runK P0 (cx5.at 0 []) 1000 0 3 [.one (.int .i64 a0), .one (.int .i64 a1)] [] 0 (kdC 0 (fun _ _ => [])) = _ from t_BankNone a0 a1]; exact Out1.refl _ _ _)

theorem walk (a0 a1 : Int) (w : World) : Calls Try.prog 3 #[.int .i64 a0, .int .i64 a1] w fun e w' => e = .returned (.bool true) ∧ Kp w w' :=
  law_calls (m := fun _ => none) (by kernel_rfl) (spec a0 a1) (fun b c h => by cases h) ⟨rfl, fun j a u hj hu => by
    match j with
    | 0 => cases hj; cases hu; exact .one _ _ (.int _ _)
    | 1 => cases hj; cases hu; exact .one _ _ (.int _ _)
    | j + 2 => cases hj⟩

theorem lifted (os : Os) (started : os.Started) (H : Type) (enc : TypeId × Value → H) :
    ReturnsInHanded {} Try.checked os 3 .any (Rows.bankNoneSpec.pre6 enc Try.prog Try.f3 Rows.bankNoneRow.domain false) (Rows.bankNoneSpec.post enc Try.prog Try.f3 false true false false) := by
  refine returnsInHanded_of_change (C := Try.checked) own started (by kernel_rfl) Try.func3
    (ChangeSpec.witness6 (enc := enc) (C := Try.checked) false ⟨#[], #[.int .i64 0, .int .i64 0], []⟩ 8 (by kernel_rfl) (by kernel_rfl) (by kernel_rfl) (by kernel_rfl)) ?_
  intro W base args ds gs before hval0 hW hcnd _
  have hval : ∀ (j : Nat) t v, Try.f3.params[j]? = some t → args[j]? = some v → Value.okWide Try.prog W .any base t v := hval0
  have hW' := hW
  obtain ⟨p, q, hA0, hV, rfl, hfz, hnd⟩ := hW
  have hA : DataW.TrodAll enc Try.prog W 0 (fun _ => true) true Try.f3.params.toList args.toList ds p := hA0
  rw [Try.params3] at hA hval
  obtain ⟨v0, vs0, d0, ds0, p0, q0, hargs, rfl, rfl, h0, r0⟩ := trodAll_cons hA
  obtain ⟨v1, vs1, d1, ds1, p1, q1, rfl, rfl, rfl, h1, r1⟩ := trodAll_cons r0
  obtain ⟨rfl, rfl, rfl⟩ := trodAll_nil r1
  obtain rfl : args = #[v0, v1] := by cases args; simp_all
  obtain ⟨rfl, rfl⟩ := trodVars_none hV
  obtain ⟨a0, rfl, rfl, rfl, w0⟩ := open_int Try.underlying3 (hval 0 3 v0 rfl rfl) h0
  obtain ⟨a1, rfl, rfl, rfl, w1⟩ := open_int Try.underlying3 (hval 1 3 v1 rfl rfl) h1
  clear hA0 hval0
  simp only [List.append_nil] at hW'
  refine (walk a0 a1 W).mono fun e W' ⟨he, hg⟩ => ?_
  subst he
  exact ⟨_, rfl, post_kp (pa := []) (pv := []) hW' (fun _ _ _ => (trodAll_cons_mk (shut_bool Try.underlying4 _) trodAll_mk0)) (fun sp _ => (trodAll_cons_mk (shut_int Try.underlying3 w0) (trodAll_cons_mk (shut_int Try.underlying3 w1) trodAll_mk0))) (fun _ _ => rfl) hg⟩

theorem over : Rows.bankNoneRow.holds Try.pinned (OpenSpec.ofChange Rows.bankNoneSpec) :=
  OpenClaim.holds_of_wide 3 Try.f3 rfl rfl rfl rfl rfl rfl rfl ⟨rfl, rfl, rfl, rfl, rfl⟩ rfl rfl rfl rfl rfl (by kernel_rfl) Try.func3 (by kernel_rfl)
    (of_decide_eq_true (by kernel_rfl)) (by unfold Func.isWrapper; first | (rw [if_pos (by decide +kernel)]; kernel_rfl) | (rw [if_neg (by decide +kernel)]; exact ⟨rfl, rfl⟩))
    (fun os started H enc _ => lifted os started H enc)

/-- The statement. -/
theorem proved : Rows.BankNoneSaid :=
  over
#print axioms proved
end Go.Proofs.Ytadpblhmejoiiaa.bankNone
