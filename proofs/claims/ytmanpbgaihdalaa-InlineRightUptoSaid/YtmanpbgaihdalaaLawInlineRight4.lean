/- any module, and any of its functions, laid open is what the document says; so is whether any function is small; it stays as it is -/
import Derived.Test.YtmanpbgaihdalaaDvc3
import Derived.Test.YtmanpbgaihdalaaLawInlineRight3
set_option linter.unusedVariables false
set_option linter.unusedSimpArgs false
set_option linter.unnecessarySimpa false
namespace Go.Proofs.Ytmanpbgaihdalaa
open Go Dv
set_option maxRecDepth 10000
set_option linter.unusedSimpArgs false
set_option maxHeartbeats 2000000 in
theorem c_InlineRight (m : Module) (f : Func) (at_ : Int) : FC Try.prog 8 [.agg (encMod m), .agg (encFunc f), iv at_] (.bool true) := by
  refine FC_intro tok Try.func8 rfl (by decide +kernel) (Nat.le_of_ble_eq_true rfl) ?_
  (repeat' first | refine AWp_seq ?_ | (refine AWp_reg tok (by rfl) ?_; conv => whnf))
  refine .inl ⟨_, _, _, uG (QC.fc c_awake23 rfl), ?_⟩
  conv => whnf
  (repeat' first | refine AWp_seq ?_ | (refine AWp_reg tok (by rfl) ?_; conv => whnf) | (refine AWp_skip ?_; conv => whnf) | (refine AWp_ret ?_; conv => whnf) | refine AWp_cond rfl (fun hb => ?_) (fun hb => ?_))
  · cases hb
  clear hb
  refine .inl ⟨_, _, _, uG (QC.fc (c_Short m) rfl), ?_⟩
  conv => whnf
  skip
  refine .inl ⟨_, _, _, uG (QC.sc (rd := [(19, 0, 0)]) (c_Short ⟨[f]⟩) (.cons (.agg (.cons (.rsW rfl (.head _) (Nat.le_refl _) rfl (ltS (Wks.refl _) lt0)) .nil)) .nil) rfl), ?_⟩
  conv => whnf
  (repeat' first | refine AWp_seq ?_ | (refine AWp_reg tok (by rfl) ?_; conv => whnf) | (refine AWp_skip ?_; conv => whnf) | (refine AWp_ret ?_; conv => whnf) | refine AWp_cond rfl (fun hb => ?_) (fun hb => ?_))
  · exact ⟨_, rfl, Rel.bool rfl⟩
  clear hb
  refine .inl ⟨_, _, _, uG (QC.fc (c_CopyF m) rfl), ?_⟩
  conv => whnf
  (repeat' first | refine AWp_seq ?_ | (refine AWp_reg tok (by rfl) ?_; conv => whnf))
  refine .inl ⟨_, _, _, uG (QC.fc (c_iModule m) rfl), ?_⟩
  conv => whnf
  (repeat' first | refine AWp_seq ?_ | (refine AWp_reg tok (by rfl) ?_; conv => whnf))
  refine .inl ⟨_, _, _, uG (QC.fc (c_iFunc m at_) rfl), ?_⟩
  conv => whnf
  (repeat' first | refine AWp_seq ?_ | (refine AWp_any tok mix (by rfl) ?_; conv => whnf))
  refine .inl ⟨_, _, _, uG (QC.fc (c_Small f) rfl), ?_⟩
  conv => whnf
  skip
  refine .inl ⟨_, _, _, uG (QC.fc (c_r23Small f) rfl), ?_⟩
  conv => whnf
  skip
  refine .inl ⟨_, _, _, uG (QC.fc (c_rSame m m) rfl), ?_⟩
  conv => whnf
  (repeat' first | refine AWp_seq ?_ | (refine AWp_reg tok (by rfl) ?_; conv => whnf) | (refine AWp_skip ?_; conv => whnf) | (refine AWp_ret ?_; conv => whnf) | refine AWp_cond rfl (fun hb => ?_) (fun hb => ?_))
  · simp at hb
  clear hb
  refine .inl ⟨_, _, _, uG (QC.fc (c_Right m) rfl), ?_⟩
  conv => whnf
  (repeat' first | refine AWp_seq ?_ | (refine AWp_reg tok (by rfl) ?_; conv => whnf) | (refine AWp_any tok mix (by rfl) ?_; conv => whnf) | (refine AWp_skip ?_; conv => whnf) | refine AWp_cond rfl (fun hb => ?_) (fun hb => ?_))
  · have hr : rightB m = false := by simpa using hb
    refine .inl ⟨_, _, _, uG (QC.fc (c_rSame (moduleI m) m) rfl), ?_⟩
    conv => whnf
    skip
    refine .inl ⟨_, _, _, uG (QC.sc (rd := []) (c_rSameFunc (funcI m at_) ⟨0, 0, []⟩) (.cons (.imm rfl) (.cons (.agg (.cons (.imm rfl) (.cons (.imm rfl) (.cons .nsl .nil)))) .nil)) rfl), ?_⟩
    conv => whnf
    (repeat' (refine AWp_ret ?_; conv => whnf))
    refine ⟨_, rfl, Rel.bool ?_⟩
    simp [errM, moduleI, funcI, hr]
  · have hr : rightB m = true := by rename_i h; simpa using h
    have hi : 0 ≤ at_ ∧ at_ < m.funcs.length := by simpa using hb
    obtain ⟨n, rfl⟩ : ∃ n : Nat, at_ = n := ⟨at_.toNat, by omega⟩
    refine .inl ⟨_, _, _, uG (QC.fc (c_r23Func m n hr (by omega)) rfl), ?_⟩
    conv => whnf
    (repeat' first | refine AWp_seq ?_ | (refine AWp_any tok mix (by rfl) ?_; conv => whnf))
    refine .inl ⟨_, _, _, uG (QC.fc (c_r23Module m hr) rfl), ?_⟩
    conv => whnf
    skip
    refine .inl ⟨_, _, _, uG (QC.fc (c_rSame (moduleI m) (moduleI m)) rfl), ?_⟩
    conv => whnf
    skip
    refine .inl ⟨_, _, _, uG (QC.fc (c_rSameFunc (funcI m n) (funN m n)) rfl), ?_⟩
    conv => whnf
    (repeat' (refine AWp_ret ?_; conv => whnf))
    refine ⟨_, rfl, Rel.bool ?_⟩
    have hn : n < m.funcs.length := by omega
    simp [errM, funcI, hr, hn]
  · have hr : rightB m = true := by rename_i h; simpa using h
    have hi : ¬ (0 ≤ at_ ∧ at_ < m.funcs.length) := by
      intro h; rw [decide_eq_true h.1, decide_eq_true h.2] at hb; cases hb
    refine .inl ⟨_, _, _, uG (QC.fc (c_r23Module m hr) rfl), ?_⟩
    conv => whnf
    skip
    refine .inl ⟨_, _, _, uG (QC.fc (c_rSame (moduleI m) (moduleI m)) rfl), ?_⟩
    conv => whnf
    skip
    refine .inl ⟨_, _, _, uG (QC.sc (rd := []) (c_rSameFunc (funcI m at_) ⟨0, 0, []⟩) (.cons (.imm rfl) (.cons (.agg (.cons (.imm rfl) (.cons (.imm rfl) (.cons .nsl .nil)))) .nil)) rfl), ?_⟩
    conv => whnf
    (repeat' (refine AWp_ret ?_; conv => whnf))
    refine ⟨_, rfl, Rel.bool ?_⟩
    simp [errM, funcI, hr, hi]
end Go.Proofs.Ytmanpbgaihdalaa
namespace Go.Proofs.Ytmanpbgaihdalaa
open Go Dv Go.ChangeShapes Go.WideShapes Go.ChangeAt Go.RowKit
open Go.Proofs.Ytmanpbgaihdalaa
set_option maxRecDepth 100000
set_option linter.unusedVariables false
namespace inlineRight
theorem own : ownKnob Try.prog.godebug = none := by kernel_rfl
theorem contract (H : Type) (enc : TypeId × Value → H) (W : World) (base : Nat) (args : Array Value) (ds gs : List (DataW H)) (before : List MemPlace) (hk : Rows.uptoSmall H (ds ++ gs) = true)
    (hval : ∀ (j : Nat) t v, Try.f8.params[j]? = some t → args[j]? = some v → Value.okWide Try.prog W .any base t v)
    (hW : DataW.Whole enc Try.prog Try.f8.params.toList Rows.inlineRightSpec.vars false W args.toList ds gs before) :
    Calls Try.prog 8 args W fun e W' => ∃ v, e = .returned v ∧ Rows.inlineRightSpec.post enc Try.prog Try.f8 false true false false W args v W' := by
  have hsm := small_of hk
  have hW' := hW
  obtain ⟨p, q, hA0, hV, rfl, hfz, hnd⟩ := hW
  have hA : DataW.TrodAll enc Try.prog W 0 (fun _ => true) true Try.f8.params.toList args.toList ds p := hA0
  rw [Try.params8] at hA hval
  obtain ⟨v0, vs0, d0, ds0, p0, q0, hargs, rfl, rfl, h0, r0⟩ := trodAll_cons hA
  obtain ⟨v1, vs1, d1, ds1, p1, q1, rfl, rfl, rfl, h1, r1⟩ := trodAll_cons r0
  obtain ⟨v2, vs2, d2, ds2, p2, q2, rfl, rfl, rfl, h2, r2⟩ := trodAll_cons r1
  obtain ⟨rfl, rfl, rfl⟩ := trodAll_nil r2
  obtain rfl : args = #[v0, v1, v2] := by cases args; simp_all
  obtain ⟨x0, hx0⟩ := arg_struct Try.underlying24 (hval 0 _ v0 rfl rfl) h0 rd_Module (hsm d0 (by simp))
  obtain ⟨x1, hx1⟩ := arg_struct Try.underlying34 (hval 1 _ v1 rfl rfl) h1 rd_Func (hsm d1 (by simp))
  obtain ⟨x2, hx2⟩ := arg_int Try.underlying3 (hval 2 _ v2 rfl rfl) h2
  obtain ⟨rfl, rfl⟩ := trodVars_none hV
  have hb2 := hx2
  simp only [V] at hb2
  refine law_contract (tb := 4) (by decide +kernel) (by rw [Try.params8]; decide +kernel) rfl (by kernel_rfl) Try.underlying4 hW' ⟨rfl, rfl, rfl⟩ (FC.calls (c_InlineRight x0 x1 x2) ?_)
  simp only [Vs]
  exact ⟨_, _, rfl, hx0, _, _, rfl, hx1, _, _, rfl, hx2, rfl⟩
theorem lifted (os : Os) (started : os.Started) (H : Type) (enc : TypeId × Value → H) (F : Stop.Interp) :
    ReturnsInHanded {} Try.checked os 8 .any ((Rows.OpenSpec.upto Rows.inlineRightSpec).pre6 enc Try.prog Try.f8 Rows.inlineRightUptoRow.domain false) (((Rows.OpenSpec.upto Rows.inlineRightSpec).at F).post enc Try.prog Try.f8 false true false false) := by
  refine returnsInHanded_of_cond (C := Try.checked) (s := Rows.OpenSpec.upto Rows.inlineRightSpec) (k := Rows.uptoSmall) rfl own started (by kernel_rfl) Try.func8
    (OpenSpec.witness (enc := enc) (C := Try.checked) (s := Rows.OpenSpec.upto Rows.inlineRightSpec) (k := Rows.uptoSmall) rfl false ⟨#[], #[.agg #[.slice none 0 0], .agg #[.int .i64 0, .int .i64 0, .slice none 0 0], .int .i64 0], []⟩ 64 (by kernel_rfl) (by kernel_rfl) (by kernel_rfl)
      (x := ([.agg [.nil], .agg [.lit (.int .i64 0), .lit (.int .i64 0), .nil], .lit (.int .i64 0)], [], [])) (by kernel_rfl) rfl (by kernel_rfl)) ?_
  intro W base args ds gs before hval hW _ hk _
  exact contract H enc W base args ds gs before hk hval hW
theorem over : Rows.inlineRightUptoRow.holds Try.pinned (Rows.OpenSpec.upto Rows.inlineRightSpec) :=
  OpenClaim.holds_of_cond 8 Try.f8 rfl rfl rfl rfl rfl rfl rfl ⟨rfl, rfl, rfl, rfl, rfl⟩ rfl rfl rfl rfl rfl (by kernel_rfl) Try.func8 (by kernel_rfl)
    (of_decide_eq_true (by kernel_rfl)) (by unfold Func.isWrapper; first | (rw [if_pos (by decide +kernel)]; kernel_rfl) | (rw [if_neg (by decide +kernel)]; exact ⟨rfl, rfl⟩))
    (fun os started H enc _ F => lifted os started H enc F)
end inlineRight
theorem inlineRight_holds : Rows.InlineRightUptoSaid := inlineRight.over
end Go.Proofs.Ytmanpbgaihdalaa
