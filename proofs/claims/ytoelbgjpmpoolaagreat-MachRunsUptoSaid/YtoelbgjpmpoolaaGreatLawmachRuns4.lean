/- Whatever a module, the words told to it, and the fuel: mach.Run runs it as davitref06.Run does, with the same in all places, or refuses it where the module may not be or the fuel is too much. -/
import Derived.Test.YtoelbgjpmpoolaaGreatDvc3
import Derived.Test.YtoelbgjpmpoolaaGreatLawmachRuns3
set_option linter.unusedVariables false
set_option linter.unusedSimpArgs false
set_option linter.unnecessarySimpa false
namespace Go.Proofs.YtoelbgjpmpoolaaGreat
open Go Dv Go.ChangeShapes Go.WideShapes Go.ChangeAt Go.RowKit
open Go.Proofs.YtoelbgjpmpoolaaGreat
set_option maxRecDepth 100000
set_option linter.unusedVariables false
namespace machRuns
theorem own : ownKnob Tryz.prog.godebug = none := by kernel_rfl
theorem contract (H : Type) (enc : TypeId × Value → H) (W : World) (base : Nat) (args : Array Value) (ds gs : List (DataW H)) (before : List MemPlace) (hk : Rows.uptoSmall H (ds ++ gs) = true)
    (hval : ∀ (j : Nat) t v, Tryz.f5.params[j]? = some t → args[j]? = some v → Value.okWide Tryz.prog W .any base t v)
    (hW : DataW.Whole enc Tryz.prog Tryz.f5.params.toList Rows.machRunsSpec.vars false W args.toList ds gs before) :
    Calls Tryz.prog 5 args W fun e W' => ∃ v, e = .returned v ∧ Rows.machRunsSpec.post enc Tryz.prog Tryz.f5 false true false false W args v W' := by
  have hsm := small_of hk
  have hW' := hW
  obtain ⟨p, q, hA0, hV, rfl, hfz, hnd⟩ := hW
  have hA : DataW.TrodAll enc Tryz.prog W 0 (fun _ => true) true Tryz.f5.params.toList args.toList ds p := hA0
  rw [Tryz.params5] at hA hval
  obtain ⟨v0, vs0, d0, ds0, p0, q0, hargs, rfl, rfl, h0, r0⟩ := trodAll_cons hA
  obtain ⟨v1, vs1, d1, ds1, p1, q1, rfl, rfl, rfl, h1, r1⟩ := trodAll_cons r0
  obtain ⟨v2, vs2, d2, ds2, p2, q2, rfl, rfl, rfl, h2, r2⟩ := trodAll_cons r1
  obtain ⟨rfl, rfl, rfl⟩ := trodAll_nil r2
  obtain rfl : args = #[v0, v1, v2] := by cases args; simp_all
  obtain ⟨x0, hx0⟩ := arg_struct Tryz.underlying24 (hval 0 _ v0 rfl rfl) h0 rd_Module (hsm d0 (by simp))
  obtain ⟨x1, hx1⟩ := arg_slice Tryz.underlying25 (hval 1 _ v1 rfl rfl) h1 rd_u16s (hsm d1 (by simp))
  obtain ⟨x2, hx2⟩ := arg_int Tryz.underlying3 (hval 2 _ v2 rfl rfl) h2
  have hb2 := hx2
  simp only [V] at hb2
  obtain ⟨rfl, rfl⟩ := trodVars_none hV
  refine law_contract (tb := 4) (by decide +kernel) (by rw [Tryz.params5]; decide +kernel) rfl (by kernel_rfl) Tryz.underlying4 hW' ⟨rfl, rfl, rfl⟩ (FC.calls (c_MachRuns x0 x1 x2) ?_)
  simp only [Vs]
  exact ⟨_, _, rfl, hx0, _, _, rfl, hx1, _, _, rfl, hx2, rfl⟩
theorem lifted (os : Os) (started : os.Started) (H : Type) (enc : TypeId × Value → H) (F : Stop.Interp) :
    ReturnsInHanded {} Tryz.checked os 5 .any ((Rows.OpenSpec.upto Rows.machRunsSpec).pre6 enc Tryz.prog Tryz.f5 Rows.machRunsUptoRow.domain false) (((Rows.OpenSpec.upto Rows.machRunsSpec).at F).post enc Tryz.prog Tryz.f5 false true false false) := by
  refine returnsInHanded_of_cond (C := Tryz.checked) (s := Rows.OpenSpec.upto Rows.machRunsSpec) (k := Rows.uptoSmall) rfl own started (by kernel_rfl) Tryz.func5
    (OpenSpec.witness (enc := enc) (C := Tryz.checked) (s := Rows.OpenSpec.upto Rows.machRunsSpec) (k := Rows.uptoSmall) rfl false ⟨#[], #[.agg #[.slice none 0 0], .slice none 0 0, .int .i64 0], []⟩ 64 (by kernel_rfl) (by kernel_rfl) (by kernel_rfl)
      (x := ([.agg [.nil], .nil, .lit (.int .i64 0)], [], [])) (by kernel_rfl) rfl (by kernel_rfl)) ?_
  intro W base args ds gs before hval hW _ hk _
  exact contract H enc W base args ds gs before hk hval hW
theorem over : Rows.machRunsUptoRow.holds Tryz.pinned (Rows.OpenSpec.upto Rows.machRunsSpec) :=
  OpenClaim.holds_of_cond 5 Tryz.f5 rfl rfl rfl rfl rfl rfl rfl ⟨rfl, rfl, rfl, rfl, rfl⟩ rfl rfl rfl rfl rfl (by kernel_rfl) Tryz.func5 (by kernel_rfl)
    (of_decide_eq_true (by kernel_rfl)) (by unfold Func.isWrapper; first | (rw [if_pos (by decide +kernel)]; kernel_rfl) | (rw [if_neg (by decide +kernel)]; exact ⟨rfl, rfl⟩))
    (fun os started H enc _ F => lifted os started H enc F)
end machRuns
theorem machRuns_holds : Rows.MachRunsUptoSaid := machRuns.over
end Go.Proofs.YtoelbgjpmpoolaaGreat
