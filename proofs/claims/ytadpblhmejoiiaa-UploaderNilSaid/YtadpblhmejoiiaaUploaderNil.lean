/- What is proved: 'UploaderNil' returns true for every input, and its argument reads behind the call as it read before. There are no conditions. -/
import Derived.Test.YtadpblhmejoiiaaUploaderNilB1
import Derived.Test.YtadpblhmejoiiaaRows
set_option linter.unusedSimpArgs false
set_option linter.unusedVariables false

set_option maxRecDepth 100000
namespace Go.Proofs.Ytadpblhmejoiiaa.uploaderNil
open Go.ChangeShapes Go.WideShapes Go.ChangeAt Go.RowKit Go.Ab Go.Bo

theorem own : ownKnob Try.prog.godebug = none := by kernel_rfl

theorem spec (m : Nat) (xs : List Int) : FnSpec P0 5 [.one (.imi .u8 m xs)] [] 0 (Out1 (.one (.bool true)) [] 0) := by
  refine spec_run cxU1_ok 1000 0 (fun _ _ => []) ?_
  rw [show runK P0 (cxU1.at 0 []) 1000 0 5 [.one (.imi .u8 m xs)] [] 0 (kdC 0 (fun _ _ => [])) = _ from t_upnil m xs]
  refine tok_cond (fun _ => Out1.refl _ _ _) (fun _ => ?_)
  refine tok_cond (fun h => ?_) (fun _ => Out1.refl _ _ _)
  simp only [dec_t] at h
  exact tok_t (by simp only [Bool.and_true, blt_t]; omega) (Out1.refl _ _ _)

theorem walk (v : Value) (w : World) (m : Nat) (xs : List Int) (h : CRel (env0 (memOf w)) (.imi .u8 m xs) v) : Calls Try.prog 5 #[v] w fun e w' => e = .returned (.bool true) ∧ Kp w w' :=
  law_calls (m := memOf w) (by kernel_rfl) (spec m xs) memOf_ok ⟨rfl, fun j a u hj hu => by
    match j with
    | 0 => cases hj; cases hu; exact .one _ _ h
    | j + 1 => cases hj⟩

theorem lifted (os : Os) (started : os.Started) (H : Type) (enc : TypeId × Value → H) :
    ReturnsInHanded {} Try.checked os 5 .any (Rows.uploaderNilSpec.pre6 enc Try.prog Try.f5 Rows.uploaderNilRow.domain false) (Rows.uploaderNilSpec.post enc Try.prog Try.f5 false true false false) := by
  refine returnsInHanded_of_change (C := Try.checked) own started (by kernel_rfl) Try.func5
    (ChangeSpec.witness6 (enc := enc) (C := Try.checked) false ⟨#[], #[.slice none 0 0], []⟩ 8 (by kernel_rfl) (by kernel_rfl) (by kernel_rfl) (by kernel_rfl)) ?_
  intro W base args ds gs before hval0 hW hcnd _
  have hval : ∀ (j : Nat) t v, Try.f5.params[j]? = some t → args[j]? = some v → Value.okWide Try.prog W .any base t v := hval0
  have hW' := hW
  obtain ⟨p, q, hA0, hV, rfl, hfz, hnd⟩ := hW
  have hA : DataW.TrodAll enc Try.prog W 0 (fun _ => true) true Try.f5.params.toList args.toList ds p := hA0
  have hA1 := hA0
  rw [Try.params5] at hA hval
  obtain ⟨v0, vs0, d0, ds0, p0, q0, hargs, rfl, rfl, h0, r0⟩ := trodAll_cons hA
  obtain ⟨rfl, rfl, rfl⟩ := trodAll_nil r0
  obtain rfl : args = #[v0] := by cases args; simp_all
  obtain ⟨rfl, rfl⟩ := trodVars_none hV
  obtain ⟨m, xs, hx, _⟩ := open_row Try.underlying26 Try.underlying5 (by kernel_rfl) (okWide_slice Try.underlying26 (hval 0 26 v0 rfl rfl)) h0
  clear hA0 hval0
  simp only [List.append_nil] at hW'
  refine (walk v0 W m xs hx).mono fun e W' ⟨he, hg⟩ => ?_
  subst he
  refine ⟨_, rfl, post_kp (ds := [d0]) (gs := []) (pa := p0) (pv := []) (by simpa using hW') (fun _ _ _ => (trodAll_cons_mk (shut_bool Try.underlying4 _) trodAll_mk0)) (fun sp hsp => ?_) (fun _ _ => rfl) hg⟩
  have hA2 : DataW.TrodAll enc Try.checked.prog W 0 (fun _ => true) true Try.f5.params.toList [v0] [d0] p0 := by simpa using hA1
  exact trodAll_stays' hg (by kernel_rfl) (by kernel_rfl) hA2 (fun x hx => ⟨hW'.lt x (by simpa using hx), hsp x (by simpa using hx)⟩)

theorem over : Rows.uploaderNilRow.holds Try.pinned (OpenSpec.ofChange Rows.uploaderNilSpec) :=
  OpenClaim.holds_of_wide 5 Try.f5 rfl rfl rfl rfl rfl rfl rfl ⟨rfl, rfl, rfl, rfl, rfl⟩ rfl rfl rfl rfl rfl (by kernel_rfl) Try.func5 (by kernel_rfl)
    (of_decide_eq_true (by kernel_rfl)) (by unfold Func.isWrapper; first | (rw [if_pos (by decide +kernel)]; kernel_rfl) | (rw [if_neg (by decide +kernel)]; exact ⟨rfl, rfl⟩))
    (fun os started H enc _ => lifted os started H enc)

/-- The statement. -/
theorem proved : Rows.UploaderNilSaid :=
  over
#print axioms proved
end Go.Proofs.Ytadpblhmejoiiaa.uploaderNil
