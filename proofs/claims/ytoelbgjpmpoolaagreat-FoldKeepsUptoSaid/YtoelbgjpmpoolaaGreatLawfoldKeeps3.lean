/- Whatever a module, the words told to it, and the steps: what fold.Module makes of it may be, stays if folded again, and mach.Run runs it as it runs the module, with the same in all places; what may not be is refused. -/
import Derived.Test.YtoelbgjpmpoolaaGreatDvc3
import Derived.Test.YtoelbgjpmpoolaaGreatLawfoldKeeps2
import Derived.Test.YtoelbgjpmpoolaaGreatRows
import Derived.WalkKit
import Derived.ProofKit
import Derived.OpenShut
import Derived.JoinedCond
set_option linter.unusedVariables false
set_option linter.unusedSimpArgs false
set_option linter.unnecessarySimpa false
namespace Go.Proofs.YtoelbgjpmpoolaaGreat
open Go Dv
set_option maxRecDepth 10000
set_option linter.unusedSimpArgs false
def memE (el : List (Dv.Id × Zam)) (m : Zaj) (s : Mach) : Zan := orH (Zaz (el ++ memL m s)) (famW s.stack)
theorem lookH_app (a b : List (Dv.Id × Zam)) (j : Dv.Id) : Zaz (a ++ b) j = match Zaz a j with
    | some x => some x
    | none => Zaz b j := by
  induction a with
  | nil => rfl
  | cons p r ih =>
    simp only [List.cons_append, Zaz]
    cases idEq p.1 j with
    | true => rfl
    | false => exact ih
theorem memE_eq {el : List (Dv.Id × Zam)} {m : Zaj} {s : Mach} {j : Dv.Id} : memE el m s j = match Zaz el j with
    | some x => some x
    | none => mem m s j := by
  unfold memE mem orH
  rw [lookH_app]
  cases Zaz el j <;> rfl
theorem Zfk {el : List (Dv.Id × Zam)} {m : Zaj} {s : Mach} {j : Dv.Id} (h : Zaz el j = none) : memE el m s j = mem m s j := by rw [memE_eq, h]
theorem mem_map {m : Zaj} {s : Mach} {ρ : Dv.Id → Option Dv.Id} (hF : ρ jF = some jF) (hE : ρ jE = some jE) (hT : ρ jT = some jT) (hq : ∀ q, q < s.stack.length - 1 → ρ (945, 0, q) = some (945, 0, q)) {j : Dv.Id} {b : Zam} (h : mem m s j = some b) : Dv.mapB ρ b = b := by
  rcases Zch h with ⟨rfl, rfl⟩ | ⟨rfl, rfl⟩ | ⟨rfl, rfl⟩ | ⟨rfl, rfl⟩ | ⟨q, rfl, hq, rfl⟩
  · show Zam.row false 22 1 (fun _ => Zbq ρ (macC m s)) = Zam.row false 22 1 (fun _ => macC m s)
    congr 1
    funext x
    show (match ρ jF with | some j => AV.rs j 5 0 s.stack.length | none => .any) :: _ = _
    rw [hF]
    unfold macC
    show _ :: [_, _, _, _, _, _, _, _, _, _, _, _, _, _, _, _, _, (match ρ jE with | some j => AV.rs j 1 0 s.events.length | none => .any), _, _, _] = _
    rw [hE]; rfl
  · show Zam.row false 5 s.stack.length (fun q => Zbq ρ (frC s.stack q)) = Zam.row false 5 s.stack.length (frC s.stack)
    congr 1
    funext q
    show [_, _, _, Zbp _ (Zbo s.stack q), _] = _
    unfold frC
    congr 4
    unfold Zbo
    by_cases hq2 : q < s.stack.length - 1
    · rw [Zbd hq2]
      show (match ρ (945, 0, q) with | some j => AV.rs j 1 0 _ | none => .any) = _
      rw [hq q hq2]
    · rw [Zbl (by omega)]
      show (match ρ jT with | some j => AV.rs j 1 0 _ | none => .any) = _
      rw [hT]
  · rfl
  · rfl
  · rfl
theorem kpH_is {h : Zan} {i : Dv.Id} (e : (h i).isSome = true) : kpH h i = some i := by
  unfold kpH; cases e2 : h i with
  | none => rw [e2] at e; cases e
  | some b => rfl
abbrev jX : Dv.Id := (3, 7, 0)
abbrev LX : List Dv.Id := [jB, jF, jX]
def frA (f : Zax) : List AV := [iv f.f, iv f.block, iv f.at_, .any, .int .u16 f.fly]
def xL (s : Mach) (i : Nat) : List (Dv.Id × Zam) := [(jX, .row false 5 1 (fun _ => frA (s.stack.getD i default)))]
theorem memX_kp {m : Zaj} {s : Mach} {i q : Nat} (h : q < s.stack.length - 1) : kpH (memE (xL s i) m s) (945, 0, q) = some (945, 0, q) :=
  kpH_is (show (famW s.stack (945, 0, q)).isSome = true by rw [Za5 h]; rfl)
theorem memX_closed (m : Zaj) (s : Mach) (i : Nat) : ∀ j b, memE (xL s i) m s j = some b → Dv.mapB (kpH (memE (xL s i) m s)) b = b := by
  intro j b e
  rw [memE_eq] at e
  cases e1 : idEq jX j with
  | true =>
    rw [show Zaz (xL s i) j = some (.row false 5 1 (fun _ => frA (s.stack.getD i default))) from by simp only [xL, Zaz, e1]; rfl] at e
    cases e
    show Zam.row false 5 1 (fun _ => Zbq _ (frA (s.stack.getD i default))) = _
    rfl
  | false =>
    rw [show Zaz (xL s i) j = none from by simp only [xL, Zaz, e1]; rfl] at e
    exact mem_map (kpH_is rfl) (kpH_is rfl) (kpH_is rfl) (fun q hq => memX_kp hq) e
theorem memX_sub {m : Zaj} {s : Mach} {i : Nat} {h : Zan} (h0 : h jX = some (.row false 5 1 (fun _ => frA (s.stack.getD i default)))) (h1 : h jB = some (macB m s)) (h2 : h jF = some (Zdh s.stack)) (h3 : h jE = some (evB s.events)) (h4 : h jT = some (regB (topF s).regs)) (h5 : ∀ q, h (945, 0, q) = famW s.stack (945, 0, q)) : ∀ j b, memE (xL s i) m s j = some b → h j = some b := fun j b e => by
  rw [memE_eq] at e
  cases e1 : idEq jX j with
  | true =>
    rw [show Zaz (xL s i) j = some (.row false 5 1 (fun _ => frA (s.stack.getD i default))) from by simp only [xL, Zaz, e1]; rfl] at e
    cases e
    rw [← Za1.1 e1]; exact h0
  | false =>
    rw [show Zaz (xL s i) j = none from by simp only [xL, Zaz, e1]; rfl] at e
    exact Za3 h1 h2 h3 h4 h5 j b e
theorem QH.tnX {P : Program} {f : FuncId} {m : Zaj} {s : Mach} {i : Nat} {args : List AV} {r : AV} {h : Zan} (hc : HG P LX f (memE (xL s i) m s) args r (memE (xL s i) m s)) (h32 : s.stack.length ≤ 32) (hsub : ∀ j b, memE (xL s i) m s j = some b → h j = some b)
    (hag : Zbq (kpH (memE (xL s i) m s)) args = args) (hfree : ∀ q, famW s.stack (945, 0, q) = none → h (945, 0, q) = none) : QH P h f args dK (memE (xL s i) m s) r := by
  refine QH.frame hc hsub (memX_closed m s i) hag (fun j hj => ?_) (fun j hj => .inl hj) (fun j hj => ?_)
  · cases e : memE (xL s i) m s j with
    | none => rw [e] at hj; cases hj
    | some b =>
      rw [memE_eq] at e
      cases e1 : idEq jX j with
      | true => rw [← Za1.1 e1]; exact .inr ⟨.tail _ (.tail _ (.head _)), rfl, rfl⟩
      | false =>
        rw [show Zaz (xL s i) j = none from by simp only [xL, Zaz, e1]; rfl] at e
        rcases Zch e with ⟨rfl, _⟩ | ⟨rfl, _⟩ | ⟨rfl, _⟩ | ⟨rfl, _⟩ | ⟨q, rfl, hq, _⟩
        · exact .inr ⟨.head _, rfl, rfl⟩
        · exact .inr ⟨.tail _ (.head _), rfl, rfl⟩
        · exact .inl rfl
        · exact .inl rfl
        · exact .inl (Zci.2 (List.mem_cons_of_mem _ (List.mem_cons_of_mem _ (Zgx.2 ⟨q, by omega, rfl⟩))))
  · rcases List.mem_cons.1 (Zci.1 hj) with rfl | hj
    · exact .inl rfl
    rcases List.mem_cons.1 hj with rfl | hj
    · exact .inl rfl
    obtain ⟨q, _, rfl⟩ := Zgx.1 hj
    by_cases hq2 : q < s.stack.length - 1
    · exact .inl (show (famW s.stack (945, 0, q)).isSome = true by rw [Za5 hq2]; rfl)
    · exact .inr (hfree q (Zao (by omega)))
theorem leaveX {m : Zaj} {s : Mach} {i : Nat} {h : Zan} (h0 : h jX = some (.row false 5 1 (fun _ => frA (s.stack.getD i default)))) {b0 : Zam} (h1 : h jB = some b0) (hB : GB (srcL []) h (memE (xL s i) m s) b0 (macB m s)) (h2 : h jF = some (Zdh s.stack)) (h3 : h jE = some (evB s.events)) (h4 : h jT = some (regB (topF s).regs)) (h5 : ∀ q, q < s.stack.length - 1 → h (945, 0, q) = some (regB (s.stack.getD q default).regs)) :
    (∀ j j' k, (memE (xL s i) m s j).isSome = true → (memE (xL s i) m s j').isSome = true → srcL [] j = some k → srcL [] j' = some k → j = j') ∧ ∀ j b, memE (xL s i) m s j = some b → HOk (srcL []) h (memE (xL s i) m s) j b := by
  refine ⟨fun j j' k _ _ e1 e2 => by cases e1; cases e2; rfl, fun j b e => ?_⟩
  have hfam : ∀ q, q < s.stack.length - 1 → (memE (xL s i) m s (945, 0, q)).isSome = true := fun q hq => by
    show (famW s.stack (945, 0, q)).isSome = true; rw [Za5 hq]; rfl
  rw [memE_eq] at e
  cases e1 : idEq jX j with
  | true =>
    rw [show Zaz (xL s i) j = some (.row false 5 1 (fun _ => frA (s.stack.getD i default))) from by simp only [xL, Zaz, e1]; rfl] at e
    cases e
    rw [← Za1.1 e1]
    refine HOk.mk rfl h0 (GB.one ?_ (fun e => by cases e))
    exact .cons (.imm rfl) (.cons (.imm rfl) (.cons (.imm rfl) (.cons .any (.cons (.imm rfl) .nil))))
  | false =>
    rw [show Zaz (xL s i) j = none from by simp only [xL, Zaz, e1]; rfl] at e
    rcases Zch e with ⟨rfl, rfl⟩ | ⟨rfl, rfl⟩ | ⟨rfl, rfl⟩ | ⟨rfl, rfl⟩ | ⟨q, rfl, hq, rfl⟩
    · exact HOk.mk rfl h1 hB
    · exact HOk.mk rfl h2 (GB_fr (fun _ _ => rfl) rfl hfam rfl)
    · exact HOk.mk rfl h3 (Zes _)
    · exact HOk.mk rfl h4 (Zb3 _)
    · exact HOk.mk rfl (h5 q hq) (Zb3 _)
theorem LW_keepX {m : Zaj} {s : Mach} {i : Nat} : ∀ j ∈ LX, Zew j = true → (memE (xL s i) m s j).isSome = true ∧ srcL [] j = some j := fun j hj _ => by
  rcases List.mem_cons.1 hj with rfl | hj
  · exact ⟨rfl, rfl⟩
  rcases List.mem_cons.1 hj with rfl | hj
  · exact ⟨rfl, rfl⟩
  · rw [List.mem_singleton.1 hj]; exact ⟨rfl, rfl⟩
theorem c_mBlockX (m : Zaj) (s : Mach) (i : Nat) (hi : i < s.stack.length) (hF : OkF m (s.stack.getD i default)) : HG Tryz.prog LX 112 (memE (xL s i) m s) [.bp jB 0, .bp jX 0] (.agg (Za6 (Zaq m (s.stack.getD i default)))) (memE (xL s i) m s) := by
  refine Za9 tok Tryz.func112 rfl (by decide +kernel) (Nat.le_of_ble_eq_true rfl) ?_
  have hmx : maxL = 4294967296 := rfl
  have f0 := hF.f0
  have f1 := hF.f1
  have b0 := hF.b0
  have b1 : (s.stack.getD i default).block < (m.funcs.getD (s.stack.getD i default).f.toNat default).blocks.length := hF.b1
  ((repeat' first | refine Zac ?_ | (refine Zab tok (by rfl) ?_; conv => whnf) | (refine Zar tok mix (by rfl) ?_; conv => whnf) | (refine Zak ?_; conv => whnf) | (refine @And.intro (Zaa _ _ _ _) _ ?_ ?_; rotate_left; (conv => whnf); rotate_right)); all_goals (try ((guard_target = Zaa _ _ _ _); refine Zae ?_; (all_goals (try simp only [Zaa, kzz, kz11, kz12, maxL, Zad] at *)); all_goals omega)))
  refine ⟨_, srcL [], rfl, ?_⟩
  rw [← and_assoc]
  exact ⟨leaveX rfl rfl (Zcr rfl rfl rfl) rfl rfl rfl (fun q hq => Za5 hq), .agg (GVs.imm rfl), LW_keepX⟩
theorem bigX_fam {m : Zaj} {s : Mach} {i : Nat} {d : List Dv.Id} {h : Zan} {q : Nat} (hq : q < s.stack.length - 1) : bigH d (memE (xL s i) m s) h (945, 0, q) = some (regB (s.stack.getD q default).regs) := by
  unfold bigH
  rw [show memE (xL s i) m s (945, 0, q) = famW s.stack (945, 0, q) from rfl, Za5 hq]
set_option maxHeartbeats 2000000 in
theorem c_mPadX (m : Zaj) (s : Mach) (i : Nat) (hi : i < s.stack.length) (h32 : s.stack.length ≤ 32) (hF : OkF m (s.stack.getD i default)) (hp : (Zaq m (s.stack.getD i default)).fin.kind = 4 → 0 ≤ (Zaq m (s.stack.getD i default)).fin.pad ∧ (Zaq m (s.stack.getD i default)).fin.pad < (Zda m (s.stack.getD i default)).blocks.length) :
    HG Tryz.prog LX 161 (memE (xL s i) m s) [.bp jB 0, .bp jX 0] (.tup [iv (padV m (s.stack.getD i default)).1, .agg (Zfo (padV m (s.stack.getD i default)).2.1), .bool (padV m (s.stack.getD i default)).2.2]) (memE (xL s i) m s) := by
  refine Za9 tok Tryz.func161 rfl (by decide +kernel) (Nat.le_of_ble_eq_true rfl) ?_
  have hmx : maxL = 4294967296 := rfl
  have hB := c_mBlockX m s i hi hF
  have f0 := hF.f0
  have f1 := hF.f1
  have a0 := hF.a0
  have a1 := hF.a1
  have hE : endB m (s.stack.getD i default) = decide ((s.stack.getD i default).at_ = (Zaq m (s.stack.getD i default)).ins.length) := rfl
  have hpl : (Zaq m (s.stack.getD i default)).fin.kind = 4 → 0 ≤ (Zaq m (s.stack.getD i default)).fin.pad ∧ (Zaq m (s.stack.getD i default)).fin.pad < (m.funcs.getD (s.stack.getD i default).f.toNat default).blocks.length := hp
  have hpf : padF m (s.stack.getD i default) = ((m.funcs.getD (s.stack.getD i default).f.toNat default).blocks.getD (Zaq m (s.stack.getD i default)).fin.pad.toNat default).pad := rfl
  have hV : padV m (s.stack.getD i default) = if endB m (s.stack.getD i default) = true ∧ (Zaq m (s.stack.getD i default)).fin.kind = 4 then ((Zaq m (s.stack.getD i default)).fin.pad, padF m (s.stack.getD i default), true) else (0, ⟨0, [], false, false⟩, false) := rfl
  have hgen : ∃ b, Zaq m (s.stack.getD i default) = b := ⟨_, rfl⟩
  obtain ⟨b, hbe⟩ := hgen
  rw [hbe] at hB hE hpl hpf hV a1
  (repeat' first | refine Zac ?_ | (refine Zab tok (by rfl) ?_; conv => whnf))
  refine .inr ⟨_, _, _, uG (QH.tnX hB h32 (memX_sub rfl rfl rfl rfl rfl (fun _ => rfl)) rfl (fun q hq => hq)), ?_⟩
  conv => whnf
  (repeat' ((fail_if_success (show AWp _ _ _ (Code.region 3 _ _) _ _)); (fail_if_success (show AWp _ _ _ (Code.region 4 _ _) _ _)); first | refine Zac ?_ | (refine Zar tok mix (by rfl) ?_; conv => whnf) | (refine Zag ?_; conv => whnf) | refine Zaf rfl (fun hb => ?_) (fun hb => ?_)))
  · have hn : ¬ (endB m (s.stack.getD i default) = true ∧ b.fin.kind = 4) := by
      rintro ⟨h1, h2⟩
      rw [hE, decide_eq_true_eq] at h1
      rw [decide_eq_false (show ¬ (s.stack.getD i default).at_ < (b.ins.length : Int) by omega), decide_eq_true h2] at hb
      cases hb
    rw [if_neg hn] at hV
    rw [hV]
    (repeat' first | (refine Zab tok (by rfl) ?_; conv => whnf) | (refine Zak ?_; conv => whnf))
    refine ⟨_, srcL [], rfl, ?_⟩
    rw [← and_assoc]
    exact ⟨leaveX rfl rfl (Zcr rfl rfl rfl) rfl rfl rfl (fun q hq => bigX_fam hq), .tup (.cons (.imm rfl) (.cons (.agg (.cons (.imm rfl) (.cons (.wk rfl (.nsl rfl)) (.cons (.imm rfl) (.cons (.imm rfl) .nil))))) (.cons (.imm rfl) .nil))), LW_keepX⟩
  have hy : endB m (s.stack.getD i default) = true ∧ b.fin.kind = 4 := by
    rw [hE, decide_eq_true_eq]
    by_cases e1 : (s.stack.getD i default).at_ < (b.ins.length : Int)
    · rw [decide_eq_true e1] at hb; cases hb
    · rw [decide_eq_false e1] at hb
      by_cases e2 : b.fin.kind = 4
      · exact ⟨by omega, e2⟩
      · rw [decide_eq_false e2] at hb; cases hb
  clear hb
  rw [if_pos hy] at hV
  rw [hV]
  obtain ⟨hp0, hp1⟩ := hpl hy.2
  ((repeat' first | (refine Zar tok mix (by rfl) ?_; conv => whnf) | (refine Zak ?_; conv => whnf) | (refine @And.intro (Zaa _ _ _ _) _ ?_ ?_; rotate_left; (conv => whnf); rotate_right)); all_goals (try ((guard_target = Zaa _ _ _ _); refine Zae ?_; (all_goals (try simp only [Zaa, kzz, kz11, kz12, maxL, Zad] at *)); all_goals omega)))
  refine ⟨_, srcL [], rfl, ?_⟩
  rw [← and_assoc]
  rw [hpf]
  exact ⟨leaveX rfl rfl (Zcr rfl rfl rfl) rfl rfl rfl (fun q hq => bigX_fam hq), .tup (.cons (.imm rfl) (.cons (.agg (GVs.imm rfl)) (.cons (.imm rfl) .nil))), LW_keepX⟩
end Go.Proofs.YtoelbgjpmpoolaaGreat
namespace Go.Proofs.YtoelbgjpmpoolaaGreat
open Go Dv
set_option maxRecDepth 10000
set_option linter.unusedSimpArgs false
section
variable {P : Program} {f : FuncId} {m : Zaj} {s : Mach} {args : List AV} {r : AV} {h : Zan} {el : List (Dv.Id × Zam)} {L : List Dv.Id}
theorem memE_some {j : Dv.Id} {b : Zam} (e : memE el m s j = some b) : Zaz el j = some b ∨ (Zaz el j = none ∧ mem m s j = some b) := by
  rw [memE_eq] at e
  cases e1 : Zaz el j with
  | some x => rw [e1] at e; exact .inl e
  | none => rw [e1] at e; exact .inr ⟨rfl, e⟩
theorem memE_closed (hB : Zaz el jF = none) (hE : Zaz el jE = none) (hT : Zaz el jT = none) (hq : ∀ q, Zaz el (945, 0, q) = none) (hc : ∀ j b, Zaz el j = some b → Dv.mapB (kpH (memE el m s)) b = b) : ∀ j b, memE el m s j = some b → Dv.mapB (kpH (memE el m s)) b = b := by
  intro j b e
  rcases memE_some e with e | ⟨_, e⟩
  · exact hc j b e
  · exact mem_map (kpH_is (by rw [Zfk hB]; rfl)) (kpH_is (by rw [Zfk hE]; rfl)) (kpH_is (by rw [Zfk hT]; rfl)) (fun q hq2 => kpH_is (by rw [Zfk (hq q), Zd8, Za5 hq2]; rfl)) e
theorem QH.tnE (hm1 : jB ∈ L) (hm2 : jF ∈ L) (hB : Zaz el jB = none) (hF : Zaz el jF = none) (hE : Zaz el jE = none) (hT : Zaz el jT = none) (hq : ∀ q, Zaz el (945, 0, q) = none) (hcl : ∀ j b, Zaz el j = some b → Dv.mapB (kpH (memE el m s)) b = b) (hp : ∀ j b, Zaz el j = some b → j ∈ L ∧ Zew j = true)
    (hc : HG P L f (memE el m s) args r (memE el m s)) (h32 : s.stack.length ≤ 32) (hsub : ∀ j b, memE el m s j = some b → h j = some b)
    (hag : Zbq (kpH (memE el m s)) args = args) (hfree : ∀ q, famW s.stack (945, 0, q) = none → h (945, 0, q) = none) : QH P h f args dK (memE el m s) r := by
  refine QH.frame hc hsub (memE_closed hF hE hT hq hcl) hag (fun j hj => ?_) (fun j hj => .inl hj) (fun j hj => ?_)
  · cases e : memE el m s j with
    | none => rw [e] at hj; cases hj
    | some b =>
      rcases memE_some e with e1 | ⟨_, e1⟩
      · have := hp j b e1
        exact .inr ⟨this.1, this.2, rfl⟩
      · rcases Zch e1 with ⟨rfl, _⟩ | ⟨rfl, _⟩ | ⟨rfl, _⟩ | ⟨rfl, _⟩ | ⟨q, rfl, hq2, _⟩
        · exact .inr ⟨hm1, rfl, rfl⟩
        · exact .inr ⟨hm2, rfl, rfl⟩
        · exact .inl rfl
        · exact .inl rfl
        · exact .inl (Zci.2 (List.mem_cons_of_mem _ (List.mem_cons_of_mem _ (Zgx.2 ⟨q, by omega, rfl⟩))))
  · rcases List.mem_cons.1 (Zci.1 hj) with rfl | hj
    · exact .inl (by rw [Zfk hE]; rfl)
    rcases List.mem_cons.1 hj with rfl | hj
    · exact .inl (by rw [Zfk hT]; rfl)
    obtain ⟨q, _, rfl⟩ := Zgx.1 hj
    by_cases hq2 : q < s.stack.length - 1
    · exact .inl (by rw [Zfk (hq q), Zd8, Za5 hq2]; rfl)
    · exact .inr (hfree q (Zao (by omega)))
theorem memE_sub (hel : ∀ j b, Zaz el j = some b → h j = some b) (h1 : h jB = some (macB m s)) (h2 : h jF = some (Zdh s.stack)) (h3 : h jE = some (evB s.events)) (h4 : h jT = some (regB (topF s).regs)) (h5 : ∀ q, h (945, 0, q) = famW s.stack (945, 0, q)) : ∀ j b, memE el m s j = some b → h j = some b := fun j b e => by
  rcases memE_some e with e1 | ⟨_, e1⟩
  · exact hel j b e1
  · exact Za3 h1 h2 h3 h4 h5 j b e1
end
abbrev c1 : Dv.Id := (4, 7, 0)
abbrev c2 : Dv.Id := (5, 7, 0)
abbrev LC : List Dv.Id := [jB, jF, c1, c2]
abbrev c1B : Zam := .row false 1 1 (fun _ => [.bp jB 0])
abbrev c2B (w : Int) : Zam := .row true 1 1 (fun _ => [.int .u16 w])
def cL (w : Int) : List (Dv.Id × Zam) := [(c1, c1B), (c2, c2B w)]
theorem cL_some {w : Int} {j : Dv.Id} {b : Zam} (h : Zaz (cL w) j = some b) : (j = c1 ∧ b = c1B) ∨ (j = c2 ∧ b = c2B w) := by
  simp only [cL, Zaz] at h
  cases e1 : idEq c1 j with
  | true => rw [e1] at h; exact .inl ⟨(Za1.1 e1).symm, (Option.some.inj h).symm⟩
  | false =>
    cases e2 : idEq c2 j with
    | true => rw [e1, e2] at h; exact .inr ⟨(Za1.1 e2).symm, (Option.some.inj h).symm⟩
    | false => rw [e1, e2] at h; cases h
theorem cL_closed {m : Zaj} {s : Mach} {w : Int} : ∀ j b, Zaz (cL w) j = some b → Dv.mapB (kpH (memE (cL w) m s)) b = b := fun j b e => by
  rcases cL_some e with ⟨rfl, rfl⟩ | ⟨rfl, rfl⟩ <;> rfl
theorem cL_pin {w : Int} : ∀ j b, Zaz (cL w) j = some b → j ∈ LC ∧ Zew j = true := fun j b e => by
  rcases cL_some e with ⟨rfl, rfl⟩ | ⟨rfl, rfl⟩
  · exact ⟨.tail _ (.tail _ (.head _)), rfl⟩
  · exact ⟨.tail _ (.tail _ (.tail _ (.head _))), rfl⟩
theorem LC_keep {m : Zaj} {s : Mach} {w : Int} : ∀ j ∈ LC, Zew j = true → (memE (cL w) m s j).isSome = true ∧ srcL [] j = some j := fun j hj _ => by
  rcases List.mem_cons.1 hj with rfl | hj
  · exact ⟨rfl, rfl⟩
  rcases List.mem_cons.1 hj with rfl | hj
  · exact ⟨rfl, rfl⟩
  rcases List.mem_cons.1 hj with rfl | hj
  · exact ⟨rfl, rfl⟩
  · rw [List.mem_singleton.1 hj]; exact ⟨rfl, rfl⟩
theorem LC_keep2 {tl : List (Dv.Id × Zam)} {F : Zan} {S : List (Dv.Id × Option Dv.Id)} (hB : (orH (Zaz tl) F jB).isSome = true ∧ srcL S jB = some jB := by exact ⟨rfl, rfl⟩) (hF : (orH (Zaz tl) F jF).isSome = true ∧ srcL S jF = some jF := by exact ⟨rfl, rfl⟩) (h1 : (orH (Zaz tl) F c1).isSome = true ∧ srcL S c1 = some c1 := by exact ⟨rfl, rfl⟩) (h2 : (orH (Zaz tl) F c2).isSome = true ∧ srcL S c2 = some c2 := by exact ⟨rfl, rfl⟩) : ∀ i ∈ LC, Zew i = true → (orH (Zaz tl) F i).isSome = true ∧ srcL S i = some i := fun i hi _ => by
  rcases List.mem_cons.1 hi with rfl | hi
  · exact hB
  rcases List.mem_cons.1 hi with rfl | hi
  · exact hF
  rcases List.mem_cons.1 hi with rfl | hi
  · exact h1
  · rw [List.mem_singleton.1 hi]; exact h2
theorem leaveC {m : Zaj} {s : Mach} {w : Int} {h : Zan} (k1 : h c1 = some c1B) (k2 : h c2 = some (c2B w)) {b0 : Zam} (h1 : h jB = some b0) (hB : GB (srcL []) h (memE (cL w) m s) b0 (macB m s)) (h2 : h jF = some (Zdh s.stack)) (h3 : h jE = some (evB s.events)) (h4 : h jT = some (regB (topF s).regs)) (h5 : ∀ q, q < s.stack.length - 1 → h (945, 0, q) = some (regB (s.stack.getD q default).regs)) :
    (∀ j j' k, (memE (cL w) m s j).isSome = true → (memE (cL w) m s j').isSome = true → srcL [] j = some k → srcL [] j' = some k → j = j') ∧ ∀ j b, memE (cL w) m s j = some b → HOk (srcL []) h (memE (cL w) m s) j b := by
  refine ⟨fun j j' k _ _ e1 e2 => by cases e1; cases e2; rfl, fun j b e => ?_⟩
  have hfam : ∀ q, q < s.stack.length - 1 → (memE (cL w) m s (945, 0, q)).isSome = true := fun q hq => by
    show (famW s.stack (945, 0, q)).isSome = true; rw [Za5 hq]; rfl
  rcases memE_some e with e | ⟨_, e⟩
  · rcases cL_some e with ⟨rfl, rfl⟩ | ⟨rfl, rfl⟩
    · exact HOk.mk rfl k1 (GB.one (.cons (.bp rfl rfl) .nil) (fun e => by cases e))
    · exact HOk.mk rfl k2 (GB.one (.cons (.imm rfl) .nil) (fun _ => rfl))
  · rcases Zch e with ⟨rfl, rfl⟩ | ⟨rfl, rfl⟩ | ⟨rfl, rfl⟩ | ⟨rfl, rfl⟩ | ⟨q, rfl, hq, rfl⟩
    · exact HOk.mk rfl h1 hB
    · exact HOk.mk rfl h2 (GB_fr (fun _ _ => rfl) rfl hfam rfl)
    · exact HOk.mk rfl h3 (Zes _)
    · exact HOk.mk rfl h4 (Zb3 _)
    · exact HOk.mk rfl (h5 q hq) (Zb3 _)
theorem padV_catch {m : Zaj} {f : Zax} {w : Int} : (bif (padV m f).2.2 then catchF (padV m f).2.1 w else false) = Zd5 m f w false := by
  unfold padV Zd5
  cases endB m f <;> by_cases h : (Zaq m f).fin.kind = 4 <;> simp [h]
theorem padV_catch2 {m : Zaj} {f : Zax} {w : Int} : (bif (padV m f).2.2 then (bif (padV m f).2.1.cleanup then true else catchF (padV m f).2.1 w) else false) = Zd5 m f w true := by
  unfold padV Zd5
  cases endB m f <;> by_cases h : (Zaq m f).fin.kind = 4 <;> simp [h]
  cases (padF m f).cleanup <;> simp
set_option maxHeartbeats 4000000 in
theorem c_mThr1 (m : Zaj) (s : Mach) (w : Int) (i : Nat) (hi : i < s.stack.length) (h32 : s.stack.length ≤ 32) (hF : OkF m (s.stack.getD i default)) (hp : (Zaq m (s.stack.getD i default)).fin.kind = 4 → 0 ≤ (Zaq m (s.stack.getD i default)).fin.pad ∧ (Zaq m (s.stack.getD i default)).fin.pad < (Zda m (s.stack.getD i default)).blocks.length) :
    HG Tryz.prog LC 160 (memE (cL w) m s) [.agg (frC s.stack i), .bp c1 0, .bp c2 0] (.bool (Zb2 m s.stack w false i)) (memE (cL w) m s) := by
  refine Za9 tok Tryz.func160 rfl (by decide +kernel) (Nat.le_of_ble_eq_true rfl) ?_
  have hP := c_mPadX m s i hi h32 hF hp
  refine Zac ?_
  refine Zdo (α := Unit) (fun _ => ⟨lookT [(1, .bp c1 0), (2, .bp c2 0), (3, .bp jX 0), (4, .bool false)], orH (Zaz (xL s i ++ (cL w ++ memL m s))) (famW s.stack)⟩) (fun _ => True) ?_ ?_
  · by_cases hq : i < s.stack.length - 1
    · refine Zay (Weak.fam (L := LC) (tl := [(0, .agg [iv (s.stack.getD i default).f, iv (s.stack.getD i default).block, iv (s.stack.getD i default).at_, .rs (945, 0, i) 1 0 (s.stack.getD i default).regs.length, .int .u16 (s.stack.getD i default).fly]), (1, .bp c1 0), (2, .bp c2 0)]) (hl := cL w ++ memL m s) (F := famW s.stack) [] rfl (fun c hc => by cases hc) ?_ ?_ ?_ LC_keep) ?_
      · exact .cons (.agg (.cons (.imm rfl) (.cons (.imm rfl) (.cons (.imm rfl) (.cons (.cc (Zbd hq) rfl (.rs (Za5 hq) rfl rfl rfl)) (.cons (.imm rfl) .nil)))))) (.cons (.bp rfl rfl) (.cons (.bp rfl rfl) .nil))
      · refine .old rfl rfl (GB.one (.cons (.bp rfl rfl) .nil) (fun e => by cases e)) (.old rfl rfl (GB.one (.cons (.imm rfl) .nil) (fun _ => rfl)) ?_)
        exact Zcv rfl rfl rfl rfl (fun _ => rfl) rfl rfl rfl rfl rfl rfl rfl (fun q hq => Zcx hq)
      · exact Zgq (fun _ _ => rfl) (fun q hq => Za5 hq)
      (repeat' (refine Zab tok (by rfl) ?_; conv => whnf))
      refine ⟨(), trivial, Weak.fam [(jX, some (3, 0, 0))] rfl (fun c hc => ?_) ?_ ?_ ?_ LC_keep2⟩
      · rw [List.mem_singleton.1 (show c ∈ [(3, 0, 0)] from hc)]; exact .inl rfl
      · exact .cons (.bp rfl rfl) (.cons (.bp rfl rfl) (.cons (.bp rfl rfl) (.cons (.imm rfl) .nil)))
      · refine .old rfl rfl (GB.one (.cons (.imm rfl) (.cons (.imm rfl) (.cons (.imm rfl) (.cons .any (.cons (.imm rfl) .nil))))) (fun e => by cases e)) (.old rfl rfl (GB.one (.cons (.bp rfl rfl) .nil) (fun e => by cases e)) (.old rfl rfl (GB.one (.cons (.imm rfl) .nil) (fun _ => rfl)) ?_))
        exact Zcv rfl rfl rfl rfl (fun _ => rfl) rfl rfl rfl rfl rfl rfl rfl (fun q hq => Zcx hq)
      · exact Zgq (fun _ _ => rfl) (fun q hq => Za5 hq)
    · refine Zay (Weak.fam (L := LC) (tl := [(0, .agg [iv (s.stack.getD i default).f, iv (s.stack.getD i default).block, iv (s.stack.getD i default).at_, .rs jT 1 0 (s.stack.getD i default).regs.length, .int .u16 (s.stack.getD i default).fly]), (1, .bp c1 0), (2, .bp c2 0)]) (hl := cL w ++ memL m s) (F := famW s.stack) [] rfl (fun c hc => by cases hc) ?_ ?_ ?_ LC_keep) ?_
      · exact .cons (.agg (.cons (.imm rfl) (.cons (.imm rfl) (.cons (.imm rfl) (.cons (.cc (Zbl (by omega)) rfl (.rs rfl rfl rfl rfl)) (.cons (.imm rfl) .nil)))))) (.cons (.bp rfl rfl) (.cons (.bp rfl rfl) .nil))
      · refine .old rfl rfl (GB.one (.cons (.bp rfl rfl) .nil) (fun e => by cases e)) (.old rfl rfl (GB.one (.cons (.imm rfl) .nil) (fun _ => rfl)) ?_)
        exact Zcv rfl rfl rfl rfl (fun _ => rfl) rfl rfl rfl rfl rfl rfl rfl (fun q hq => Zcx hq)
      · exact Zgq (fun _ _ => rfl) (fun q hq => Za5 hq)
      (repeat' (refine Zab tok (by rfl) ?_; conv => whnf))
      refine ⟨(), trivial, Weak.fam [(jX, some (3, 0, 0))] rfl (fun c hc => ?_) ?_ ?_ ?_ LC_keep2⟩
      · rw [List.mem_singleton.1 (show c ∈ [(3, 0, 0)] from hc)]; exact .inl rfl
      · exact .cons (.bp rfl rfl) (.cons (.bp rfl rfl) (.cons (.bp rfl rfl) (.cons (.imm rfl) .nil)))
      · refine .old rfl rfl (GB.one (.cons (.imm rfl) (.cons (.imm rfl) (.cons (.imm rfl) (.cons .any (.cons (.imm rfl) .nil))))) (fun e => by cases e)) (.old rfl rfl (GB.one (.cons (.bp rfl rfl) .nil) (fun e => by cases e)) (.old rfl rfl (GB.one (.cons (.imm rfl) .nil) (fun _ => rfl)) ?_))
        exact Zcv rfl rfl rfl rfl (fun _ => rfl) rfl rfl rfl rfl rfl rfl rfl (fun q hq => Zcx hq)
      · exact Zgq (fun _ _ => rfl) (fun q hq => Za5 hq)
  rintro _ _ τ hτ
  refine Zay hτ ?_
  (repeat' first | refine Zac ?_ | (refine Zab tok (by rfl) ?_; conv => whnf))
  refine .inr ⟨_, _, _, uG (QH.tnX hP h32 (memX_sub rfl rfl rfl rfl rfl (fun _ => rfl)) rfl (fun q hq => hq)), ?_⟩
  conv => whnf
  (repeat' first | refine Zac ?_ | (refine Zab tok (by rfl) ?_; conv => whnf))
  refine .inl ⟨_, _, _, uG (QC.fc (c_fCatches (padV m (s.stack.getD i default)).2.1 w) rfl), ?_⟩
  conv => whnf
  (repeat' (refine Zak ?_; conv => whnf))
  refine ⟨_, srcL [], rfl, ?_⟩
  rw [← and_assoc]
  refine ⟨leaveC rfl rfl rfl (Zcr rfl rfl rfl) rfl rfl rfl (fun q hq => bigX_fam hq), GV.bool ?_, LC_keep⟩
  exact padV_catch
end Go.Proofs.YtoelbgjpmpoolaaGreat
namespace Go.Proofs.YtoelbgjpmpoolaaGreat
open Go Dv
set_option maxRecDepth 10000
set_option linter.unusedSimpArgs false
def idxP (p : Nat → Bool) (n : Nat) : Int := match (List.range n).find? p with
  | some i => i
  | none => -1
theorem idxP_at {p : Nat → Bool} {n i : Nat} (hi : i < n) (h : p i = true) (hl : ∀ j, j < i → p j = false) : idxP p n = i := by
  unfold idxP
  rw [List.find?_range_eq_some.2 ⟨h, List.mem_range.2 hi, fun j hj => by rw [hl j hj]; rfl⟩]
theorem idxP_none {p : Nat → Bool} {n : Nat} (hl : ∀ j, j < n → p j = false) : idxP p n = -1 := by
  unfold idxP
  rw [List.find?_range_eq_none.2 (fun j hj => by rw [hl j hj]; rfl)]
theorem idxP_any {p : Nat → Bool} {n : Nat} : decide (0 ≤ idxP p n) = (List.range n).any p := by
  unfold idxP
  cases e : (List.range n).find? p with
  | none =>
    have : (List.range n).any p = false := by
      rw [Bool.eq_false_iff]; intro h
      obtain ⟨x, hx, hp⟩ := List.any_eq_true.1 h
      have := List.find?_eq_none.1 e x hx
      exact this hp
    rw [this]; rfl
  | some i =>
    have h1 := List.find?_some e
    have h2 := List.mem_of_find?_eq_some e
    rw [List.any_eq_true.2 ⟨i, h2, h1⟩]
    exact decide_eq_true (Int.natCast_nonneg i)
theorem weakC {n : Nat} {tl : List (Nat × AV)} {m : Zaj} {s : Mach} {w : Int} {σ : ASt} (ht : TLg (srcL []) σ.h (orH (Zaz (cL w ++ memL m s)) (famW s.stack)) σ.tm tl) (k1 : σ.h c1 = some c1B) (k2 : σ.h c2 = some (c2B w)) (h1 : σ.h jB = some (macB m s)) (h2 : σ.h jF = some (Zdh s.stack)) (h3 : σ.h jE = some (evB s.events)) (h4 : σ.h jT = some (regB (topF s).regs)) (h5 : ∀ q, q < s.stack.length - 1 → σ.h (945, 0, q) = some (regB (s.stack.getD q default).regs)) :
    Weak n LC σ (mkF tl (cL w ++ memL m s) (famW s.stack)) := by
  refine Weak.fam [] rfl (fun c hc => by cases hc) ht ?_ ?_ LC_keep
  · refine .old rfl k1 (GB.one (.cons (.bp rfl rfl) .nil) (fun e => by cases e)) (.old rfl k2 (GB.one (.cons (.imm rfl) .nil) (fun _ => rfl)) ?_)
    exact Zcv rfl rfl rfl rfl (fun _ => rfl) h1 h2 h3 h4 rfl rfl rfl (fun q hq => Zcx hq)
  · exact Zgq (fun _ _ => rfl) h5
theorem Zgv {m : Zaj} {s : Mach} {w : Int} {d : List Dv.Id} {h : Zan} {q : Nat} (hq : q < s.stack.length - 1) : bigH d (memE (cL w) m s) h (945, 0, q) = some (regB (s.stack.getD q default).regs) := by
  unfold bigH
  rw [show memE (cL w) m s (945, 0, q) = famW s.stack (945, 0, q) from rfl, Za5 hq]
set_option maxHeartbeats 4000000 in
theorem c_IndexFr (m : Zaj) (s : Mach) (w : Int) (h32 : s.stack.length ≤ 32) (hF : ∀ i, i < s.stack.length → OkF m (s.stack.getD i default)) (hp : ∀ i, i < s.stack.length → (Zaq m (s.stack.getD i default)).fin.kind = 4 → 0 ≤ (Zaq m (s.stack.getD i default)).fin.pad ∧ (Zaq m (s.stack.getD i default)).fin.pad < (Zda m (s.stack.getD i default)).blocks.length) :
    HG Tryz.prog LC 196 (memE (cL w) m s) [.rs jF 5 0 s.stack.length, .fn 160 [.bp c1 0, .bp c2 0]] (iv (idxP (Zb2 m s.stack w false) s.stack.length)) (memE (cL w) m s) := by
  refine Za9 tok Tryz.func196 rfl (by decide +kernel) (Nat.le_of_ble_eq_true rfl) ?_
  have hmx : maxL = 4294967296 := rfl
  have hC : ∀ k (hk : k < s.stack.length) T, Zbo s.stack k = .rs T 1 0 (s.stack.getD k default).regs.length → HG Tryz.prog LC 160 (memE (cL w) m s) [.agg [iv (s.stack.getD k default).f, iv (s.stack.getD k default).block, iv (s.stack.getD k default).at_, .rs T 1 0 (s.stack.getD k default).regs.length, .int .u16 (s.stack.getD k default).fly], .bp c1 0, .bp c2 0] (.bool (Zb2 m s.stack w false k)) (memE (cL w) m s) := fun k hk T e => by
    have := c_mThr1 m s w k hk h32 (hF k hk) (hp k hk)
    unfold frC at this
    rw [e] at this; exact this
  (repeat' first | refine Zac ?_ | (refine Zab tok (by rfl) ?_; conv => whnf) | refine Zah ?_)
  refine Za0 (fun i : Nat => mkF [(0, .rs jF 5 0 s.stack.length), (1, .fn 160 [.bp c1 0, .bp c2 0]), (7, iv s.stack.length), (8, iv i)] (cL w ++ memL m s) (famW s.stack)) (fun i => i ≤ s.stack.length ∧ ∀ j, j < i → Zb2 m s.stack w false j = false) (fun i => s.stack.length - i) 0 ⟨Nat.zero_le _, fun j h => absurd h (Nat.not_lt_zero j)⟩ ?_ ?_
  · exact weakC (.cons (.rs rfl rfl rfl rfl) (.cons (.fn (.cons (.bp rfl rfl) (.cons (.bp rfl rfl) .nil))) (.cons (.imm rfl) (.cons (.imm rfl) .nil)))) rfl rfl rfl rfl rfl rfl (fun q hq => Za5 hq)
  rintro i ⟨hi, hno⟩
  have hz : 0 + (i : Int).toNat = i := by simp
  (repeat' ((fail_if_success (show AWp _ _ _ (Code.region 3 _ _) _ _)); (fail_if_success (show AWp _ _ _ (Code.region 7 _ _) _ _)); first | refine Zac ?_ | (refine Zab tok (by rfl) ?_; conv => whnf) | refine Zah ?_ | (refine Zag ?_; conv => whnf) | (refine Za2 ?_; conv => whnf) | refine Zaf rfl (fun hb => ?_) (fun hb => ?_)))
  · have hlt : i < s.stack.length := by simp only [decide_eq_true_eq] at hb; omega
    clear hb
    have hkl : 0 + (i : Int).toNat < s.stack.length := by omega
    by_cases hq : 0 + (i : Int).toNat < s.stack.length - 1
    all_goals ((repeat' first | refine Zac ?_ | (refine Zab tok (by rfl) ?_; conv => whnf) | (refine @And.intro (Zaa _ _ _ _) _ ?_ ?_; rotate_left; (conv => whnf); rotate_right)); all_goals (try ((guard_target = Zaa _ _ _ _); refine Zae ?_; (all_goals (try simp only [Zaa, kzz, kz11, kz12, maxL, Zad] at *)); all_goals omega)))
    · refine fAV (x := Zbo s.stack (0 + (i : Int).toNat)) (y := .rs (945, 0, 0 + (i : Int).toNat) 1 0 (s.stack.getD (0 + (i : Int).toNat) default).regs.length) (Zbd hq) ?_
      conv => whnf
      skip
      refine .inr ⟨_, _, _, uG (QH.tnE (.head _) (.tail _ (.head _)) rfl rfl rfl rfl (fun _ => rfl) cL_closed cL_pin (hC _ hkl _ (Zbd hq)) h32 (memE_sub (fun j b e => ?_) rfl rfl rfl rfl (fun _ => rfl)) ?_ (fun q hq => hq)), ?_⟩
      · rcases cL_some e with ⟨rfl, rfl⟩ | ⟨rfl, rfl⟩ <;> rfl
      · show [AV.agg [_, _, _, match kpH (memE (cL w) m s) (945, 0, 0 + (i : Int).toNat) with | some j => AV.rs j 1 0 _ | none => .any, _], _, _] = _
        rw [kpH_is (by rw [Zfk rfl, Zd8, Za5 hq]; rfl)]; rfl
      conv => whnf
      (repeat' first | refine Zac ?_ | (refine Zab tok (by rfl) ?_; conv => whnf) | (refine Zag ?_; conv => whnf) | (refine Zak ?_; conv => whnf) | refine Zaf rfl (fun hb => ?_) (fun hb => ?_))
      · refine ⟨_, srcL [], rfl, ?_⟩
        rw [← and_assoc]
        refine ⟨leaveC rfl rfl rfl (Zcr rfl rfl rfl) rfl rfl rfl (fun q hq => Zgv hq), GV.int ?_, LC_keep⟩
        exact (idxP_at hlt (by rw [← hz]; exact hb) hno).symm
      · refine ⟨i + 1, ⟨by omega, fun j hj => ?_⟩, by omega, weakC (.cons (.rs rfl rfl rfl rfl) (.cons (.fn (.cons (.bp rfl rfl) (.cons (.bp rfl rfl) .nil))) (.cons (.imm rfl) (.cons (.int ?_) .nil)))) rfl rfl rfl rfl rfl rfl (fun q hq => Zgv hq)⟩
        · by_cases e : j = i
          · subst e; rw [← hz]; simpa using hb
          · exact hno j (by omega)
        · rw [Zal (by omega) (by omega)]; omega
    · refine fAV (x := Zbo s.stack (0 + (i : Int).toNat)) (y := .rs jT 1 0 (s.stack.getD (0 + (i : Int).toNat) default).regs.length) (Zbl (by omega)) ?_
      conv => whnf
      skip
      refine .inr ⟨_, _, _, uG (QH.tnE (.head _) (.tail _ (.head _)) rfl rfl rfl rfl (fun _ => rfl) cL_closed cL_pin (hC _ hkl _ (Zbl (by omega))) h32 (memE_sub (fun j b e => ?_) rfl rfl rfl rfl (fun _ => rfl)) ?_ (fun q hq => hq)), ?_⟩
      · rcases cL_some e with ⟨rfl, rfl⟩ | ⟨rfl, rfl⟩ <;> rfl
      · show [AV.agg [_, _, _, match kpH (memE (cL w) m s) jT with | some j => AV.rs j 1 0 _ | none => .any, _], _, _] = _
        rw [kpH_is rfl]; rfl
      conv => whnf
      (repeat' first | refine Zac ?_ | (refine Zab tok (by rfl) ?_; conv => whnf) | (refine Zag ?_; conv => whnf) | (refine Zak ?_; conv => whnf) | refine Zaf rfl (fun hb => ?_) (fun hb => ?_))
      · refine ⟨_, srcL [], rfl, ?_⟩
        rw [← and_assoc]
        refine ⟨leaveC rfl rfl rfl (Zcr rfl rfl rfl) rfl rfl rfl (fun q hq => Zgv hq), GV.int ?_, LC_keep⟩
        exact (idxP_at hlt (by rw [← hz]; exact hb) hno).symm
      · refine ⟨i + 1, ⟨by omega, fun j hj => ?_⟩, by omega, weakC (.cons (.rs rfl rfl rfl rfl) (.cons (.fn (.cons (.bp rfl rfl) (.cons (.bp rfl rfl) .nil))) (.cons (.imm rfl) (.cons (.int ?_) .nil)))) rfl rfl rfl rfl rfl rfl (fun q hq => Zgv hq)⟩
        · by_cases e : j = i
          · subst e; rw [← hz]; simpa using hb
          · exact hno j (by omega)
        · rw [Zal (by omega) (by omega)]; omega
  · have hge : ¬ i < s.stack.length := by simp only [decide_eq_false_iff_not] at hb; omega
    (repeat' first | (refine Zab tok (by rfl) ?_; conv => whnf) | (refine Zak ?_; conv => whnf))
    refine ⟨_, srcL [], rfl, ?_⟩
    rw [← and_assoc]
    refine ⟨leaveC rfl rfl rfl (Zcr rfl rfl rfl) rfl rfl rfl (fun q hq => Za5 hq), GV.int ?_, LC_keep⟩
    rw [idxP_none (fun j hj => hno j (by omega))]
theorem c_ContainsFr (m : Zaj) (s : Mach) (w : Int) (h32 : s.stack.length ≤ 32) (hF : ∀ i, i < s.stack.length → OkF m (s.stack.getD i default)) (hp : ∀ i, i < s.stack.length → (Zaq m (s.stack.getD i default)).fin.kind = 4 → 0 ≤ (Zaq m (s.stack.getD i default)).fin.pad ∧ (Zaq m (s.stack.getD i default)).fin.pad < (Zda m (s.stack.getD i default)).blocks.length) :
    HG Tryz.prog LC 159 (memE (cL w) m s) [.rs jF 5 0 s.stack.length, .fn 160 [.bp c1 0, .bp c2 0]] (.bool ((List.range s.stack.length).any (Zb2 m s.stack w false))) (memE (cL w) m s) := by
  refine Za9 tok Tryz.func159 rfl (by decide +kernel) (Nat.le_of_ble_eq_true rfl) ?_
  have hI := c_IndexFr m s w h32 hF hp
  (repeat' first | refine Zac ?_ | (refine Zab tok (by rfl) ?_; conv => whnf))
  refine .inr ⟨_, _, _, uG (QH.tnE (.head _) (.tail _ (.head _)) rfl rfl rfl rfl (fun _ => rfl) cL_closed cL_pin hI h32 (fun j b e => e) rfl (fun q hq => hq)), ?_⟩
  conv => whnf
  (repeat' (refine Zak ?_; conv => whnf))
  refine ⟨_, srcL [], rfl, ?_⟩
  rw [← and_assoc]
  exact ⟨leaveC rfl rfl rfl (Zcr rfl rfl rfl) rfl rfl rfl (fun q hq => Zgv hq), GV.bool idxP_any, LC_keep⟩
end Go.Proofs.YtoelbgjpmpoolaaGreat
namespace Go.Proofs.YtoelbgjpmpoolaaGreat
open Go Dv
set_option maxRecDepth 10000
set_option linter.unusedSimpArgs false
theorem weakCW {n : Nat} {tl : List (Nat × AV)} {m : Zaj} {s : Mach} {w : Int} {σ : ASt} (ht : TLg (srcL []) σ.h (orH (Zaz (cL w ++ memL m s)) (famW s.stack)) σ.tm tl) (k1 : σ.h c1 = some c1B) (k2 : σ.h c2 = some (c2B w)) (h1 : σ.h jB = some (macB m s)) (h2 : σ.h jF = some (Zdh s.stack)) (h3 : σ.h jE = some (evB s.events)) (h4 : σ.h jT = some (regB (topF s).regs)) (h5 : ∀ q, q < s.stack.length - 1 → σ.h (945, 0, q) = some (regB (s.stack.getD q default).regs)) :
    Weak n LW σ (mkF tl (cL w ++ memL m s) (famW s.stack)) := by
  refine Weak.fam [] rfl (fun c hc => by cases hc) ht ?_ ?_ LW_keepL
  · refine .old rfl k1 (GB.one (.cons (.bp rfl rfl) .nil) (fun e => by cases e)) (.old rfl k2 (GB.one (.cons (.imm rfl) .nil) (fun _ => rfl)) ?_)
    exact Zcv rfl rfl rfl rfl (fun _ => rfl) h1 h2 h3 h4 rfl rfl rfl (fun q hq => Zcx hq)
  · exact Zgq (fun _ _ => rfl) h5
theorem lendOne {l : List Int} : ∀ j b, oneR l j = some b → j = r0 ∧ b = regB l := fun j b e => by
  have := Zdi (i := j) (by rw [e]; rfl)
  subst this
  exact ⟨rfl, (Option.some.inj e).symm⟩
theorem LW_keepS {tl : List (Dv.Id × Zam)} {F : Zan} {S : List (Dv.Id × Option Dv.Id)} (hB : (orH (Zaz tl) F jB).isSome = true ∧ srcL S jB = some jB := by exact ⟨rfl, rfl⟩) (hF : (orH (Zaz tl) F jF).isSome = true ∧ srcL S jF = some jF := by exact ⟨rfl, rfl⟩) : ∀ i ∈ LW, Zew i = true → (orH (Zaz tl) F i).isSome = true ∧ srcL S i = some i := fun i hi _ => by
  rcases List.mem_cons.1 hi with rfl | hi
  · exact hB
  · rw [List.mem_singleton.1 hi]; exact hF
set_option maxHeartbeats 4000000 in
theorem c_mThr (m : Zaj) (s : Mach) (w : Int) (hr : Zbj m = true) (h : 0 < s.stack.length) (h32 : s.stack.length ≤ 32) (hF : ∀ i, i < s.stack.length → OkF m (s.stack.getD i default)) :
    HG Tryz.prog LW 117 (mem m s) [.bp jB 0, .int .u16 w] (.tup []) (mem m (Zb7 m s w)) := by
  refine Za9 tok Tryz.func117 rfl (by decide +kernel) (Nat.le_of_ble_eq_true rfl) ?_
  have hmx : maxL = 4294967296 := rfl
  have hpl := Zc4 (s := s)
  have hgen : ∃ p, popM s = p := ⟨_, rfl⟩
  obtain ⟨p, hp⟩ := hgen
  have hP := c_mPop m s h (by omega)
  have hF2 : ∀ i, i < p.stack.length → OkF m (p.stack.getD i default) := fun i hi => by
    rw [← hp] at hi ⊢
    rw [show (popM s).stack.getD i default = s.stack.getD i default from Zcm _ (by omega)]
    exact hF i (by omega)
  have hpp : ∀ i, i < p.stack.length → (Zaq m (p.stack.getD i default)).fin.kind = 4 → 0 ≤ (Zaq m (p.stack.getD i default)).fin.pad ∧ (Zaq m (p.stack.getD i default)).fin.pad < (Zda m (p.stack.getD i default)).blocks.length := fun i hi hk => (okF_pad hr (hF2 i hi) hk).1
  have hT0 : Zb7 m s w = if (List.range p.stack.length).any (Zb2 m p.stack w false) = true then
      Zb6 (Ze7 p (Ze1 (Zb2 m p.stack w true) (p.stack.length - 1) + 1)) (landF m (p.stack.getD (Ze1 (Zb2 m p.stack w true) (p.stack.length - 1)) default) (Zaq m (p.stack.getD (Ze1 (Zb2 m p.stack w true) (p.stack.length - 1)) default)).fin.pad w)
      else endM p 2 w := by rw [← hp]; rfl
  rw [hp] at hP hpl
  have hC := c_ContainsFr m p w (by omega) hF2 hpp
  rw [hT0]
  (repeat' ((fail_if_success (show AWp _ _ _ (Code.region 1 _ _) _ _)); first | refine Zac ?_ | (refine Zab tok (by rfl) ?_; conv => whnf)))
  refine Zay (Weak.fam (L := LW) (tl := [(2, .bp c1 0), (3, .bp c2 0)]) (hl := cL w ++ memL m s) (F := famW s.stack) [(c1, some (2, 0, 0)), (c2, some (3, 0, 0))] rfl (fun c hc => ?_) ?_ ?_ ?_ LW_keepS) ?_
  · rcases List.mem_cons.1 (show c ∈ [(2, 0, 0), (3, 0, 0)] from hc) with rfl | hc
    · exact .inl rfl
    · rw [List.mem_singleton.1 hc]; exact .inl rfl
  · exact .cons (.bp rfl rfl) (.cons (.bp rfl rfl) .nil)
  · refine .old rfl rfl (GB.one (.cons (.bp rfl rfl) .nil) (fun e => by cases e)) (.old rfl rfl (GB.one (.cons (.imm rfl) .nil) (fun _ => rfl)) ?_)
    exact Zcv rfl rfl rfl rfl (fun _ => rfl) rfl rfl rfl rfl rfl rfl rfl (fun q hq => Zcx hq)
  · exact Zgq (fun _ _ => rfl) (fun q hq => Za5 hq)
  (repeat' (refine Zab tok (by rfl) ?_; conv => whnf))
  refine .inr ⟨_, _, _, uG (QH.tnM (by simp) (by simp) hP (by omega) (Za3 rfl rfl rfl rfl (fun _ => rfl)) rfl (fun q hq => Zao hq)), ?_⟩
  conv => whnf
  (repeat' ((fail_if_success (show AWp _ _ _ (Code.region 2 _ _) _ _)); refine Zac ?_))
  refine Zay (weakCW (tl := [(2, .bp c1 0), (3, .bp c2 0)]) (.cons (.bp rfl rfl) (.cons (.bp rfl rfl) .nil)) rfl rfl rfl rfl rfl rfl (fun q hq => Zbf hq)) ?_
  (repeat' (refine Zab tok (by rfl) ?_; conv => whnf))
  refine .inr ⟨_, _, _, uG (QH.tnE (.head _) (.tail _ (.head _)) rfl rfl rfl rfl (fun _ => rfl) cL_closed cL_pin hC (by omega) (fun j b e => e) rfl (fun q hq => hq)), ?_⟩
  conv => whnf
  (repeat' ((fail_if_success (show AWp _ _ _ (Code.region 4 _ _) _ _)); (fail_if_success (show AWp _ _ _ (Code.region 5 _ _) _ _)); first | refine Zac ?_ | (refine Zab tok (by rfl) ?_; conv => whnf) | refine Zah ?_ | (refine Zag ?_; conv => whnf) | refine Zaf rfl (fun hb => ?_) (fun hb => ?_)))
  · have hn : ¬ (List.range p.stack.length).any (Zb2 m p.stack w false) = true := by simpa using hb
    rw [if_neg hn]
    refine Zay (weakCW (tl := [(2, .bp c1 0), (3, .bp c2 0)]) (.cons (.bp rfl rfl) (.cons (.bp rfl rfl) .nil)) rfl rfl rfl rfl rfl rfl (fun q hq => Zgv hq)) ?_
    (repeat' (refine Zab tok (by rfl) ?_; conv => whnf))
    refine .inr ⟨_, _, _, uG (QH.tnM (by simp) (by simp) (c_mEnd m p 2 w) (by omega) (Za3 rfl rfl rfl rfl (fun q => rfl)) rfl (fun q hq => Zao hq)), ?_⟩
    conv => whnf
    (repeat' (refine Zak ?_; conv => whnf))
    refine ⟨_, srcL [], rfl, ?_⟩
    rw [← and_assoc]
    exact ⟨Zdv (s := endM p 2 w) rfl rfl rfl (Zcr rfl rfl rfl) rfl rfl rfl (fun q hq => Zbf hq), .tup .nil, Zc3⟩
  have hany : (List.range p.stack.length).any (Zb2 m p.stack w false) = true := by simpa using hb
  clear hb
  rw [if_pos hany]
  obtain ⟨i0, hi0, hci⟩ := List.any_eq_true.1 hany
  rw [List.mem_range] at hi0
  have hex : ∃ j, j ≤ p.stack.length - 1 ∧ Zb2 m p.stack w true j = true := ⟨i0, by omega, catch_more hci⟩
  have hgen : ∃ K, Ze1 (Zb2 m p.stack w true) (p.stack.length - 1) = K := ⟨_, rfl⟩
  obtain ⟨K, hK⟩ := hgen
  obtain ⟨hK1, hK2⟩ := Zf6 hex
  rw [hK] at hK1 hK2 ⊢
  have hKl : K < p.stack.length := by omega
  have htl : ∀ n, n ≤ p.stack.length - 1 → (Ze7 p (n + 1)).stack.length = n + 1 := fun n hn => by simp [Ze7]; omega
  have htk : ∀ n, n ≤ p.stack.length - 1 → (Ze7 p (n + 1)).stack.getD n default = p.stack.getD n default := fun n hn => Zcm _ (by omega)
  have hfull : Ze7 p (p.stack.length - 1 + 1) = p := by
    unfold Ze7
    rw [show p.stack.length - 1 + 1 = p.stack.length by omega, List.take_length]
  refine Za0 (fun n : Nat => mkF [(2, .bp c1 0), (3, .bp c2 0)] (cL w ++ memL m (Ze7 p (n + 1))) (famW (Ze7 p (n + 1)).stack)) (fun n => n ≤ p.stack.length - 1 ∧ Ze1 (Zb2 m p.stack w true) n = K ∧ ∃ j, j ≤ n ∧ Zb2 m p.stack w true j = true) (fun n => n) (p.stack.length - 1) ⟨Nat.le_refl _, hK, hex⟩ ?_ ?_
  · rw [hfull]
    exact weakCW (.cons (.bp rfl rfl) (.cons (.bp rfl rfl) .nil)) rfl rfl rfl rfl rfl rfl (fun q hq => Zgv hq)
  rintro n ⟨hn1, hn2, hn3⟩
  have hgen : ∃ u, Ze7 p (n + 1) = u := ⟨_, rfl⟩
  obtain ⟨u, hu⟩ := hgen
  have hul := htl n hn1
  have hut := htk n hn1
  rw [hu] at hul hut ⊢
  have hu1 : u.stack.length - 1 = n := by omega
  have hPd := c_mPad m u n (by omega) (by omega) (by rw [hut]; exact hF2 n (by omega)) (by rw [hut]; exact hpp n (by omega))
  rw [hut] at hPd
  have hTp := Zf8 m u (by omega) (by omega)
  rw [hu1] at hTp
  (repeat' first | refine Zac ?_ | (refine Zab tok (by rfl) ?_; conv => whnf) | refine Zah ?_)
  refine .inr ⟨_, _, _, uG (QH.tnM (by simp) (by simp) hTp (by omega) (Za3 rfl rfl rfl rfl (fun q => rfl)) rfl (fun q hq => Zao hq)), ?_⟩
  conv => whnf
  (repeat' first | refine Zac ?_ | (refine Zab tok (by rfl) ?_; conv => whnf))
  refine .inr ⟨_, _, _, uG (QH.tnM (by simp) (by simp) hPd (by omega) (Za3 rfl rfl rfl rfl (fun q => Zbv (fun hq => Zao (by omega)))) rfl (fun q hq => (Zbv (fun hq => Zao (by omega))).trans (Zao hq))), ?_⟩
  conv => whnf
  (repeat' first | refine Zac ?_ | (refine Zab tok (by rfl) ?_; conv => whnf))
  refine .inl ⟨_, _, _, uG (QC.fc (c_fCatches (padV m (p.stack.getD n default)).2.1 w) rfl), ?_⟩
  conv => whnf
  (repeat' ((fail_if_success (show AWp _ _ _ (Code.region 8 _ _) _ _)); (fail_if_success (show AWp _ _ _ (Code.region 9 _ _) _ _)); first | refine Zac ?_ | (refine Zag ?_; conv => whnf) | refine Zaf rfl (fun hb => ?_) (fun hb => ?_)))
  · have hyes : Zb2 m p.stack w true n = true := by
      show Zd5 m (p.stack.getD n default) w true = true
      rw [← padV_catch2]
      simpa using hb
    clear hb
    have hnK : n = K := by rw [← hn2, downK_yes hyes]
    subst hnK
    rw [hu]
    have htop : topF u = p.stack.getD n default := by unfold topF; rw [hu1]; exact hut
    have hk4 : (Zaq m (p.stack.getD n default)).fin.kind = 4 := by
      unfold Zb2 Zd5 at hyes
      simp only [Bool.and_eq_true, decide_eq_true_eq] at hyes
      exact hyes.2.1
    have hkE : endB m (p.stack.getD n default) = true := by
      unfold Zb2 Zd5 at hyes
      simp only [Bool.and_eq_true, decide_eq_true_eq] at hyes
      exact hyes.1
    have hpv : (padV m (p.stack.getD n default)).1 = (Zaq m (p.stack.getD n default)).fin.pad := by
      unfold padV; rw [if_pos ⟨hkE, hk4⟩]
    obtain ⟨⟨g1, g2⟩, g3, g4, g5⟩ := okF_pad hr (hF2 n hKl) hk4
    have hL := c_fLand m (p.stack.getD n default) (Zaq m (p.stack.getD n default)).fin.pad w hr (hF2 n hKl) g1 g2 g3 ⟨g4, g5⟩
    rw [← hpv, ← htop] at hL ⊢
    have hgen : ∃ k, (padV m (topF u)).1 = k := ⟨_, rfl⟩
    obtain ⟨k, hk⟩ := hgen
    rw [hk] at hL ⊢
    have hgen : ∃ g, landF m (topF u) k w = g := ⟨_, rfl⟩
    obtain ⟨g, hg⟩ := hgen
    rw [hg] at hL ⊢
    have hle : n < u.stack.length := by omega
    have hrt : Zbo u.stack n = .rs jT 1 0 (topF u).regs.length := Zbh (by omega) hu1.symm
    have hut2 : u.stack.getD n default = topF u := by rw [htop]; exact hut
    refine Zay (weakCW (tl := [(2, .bp c1 0), (3, .bp c2 0), (5, .rp jF 5 n 0), (6, iv k)]) (.cons (.bp rfl rfl) (.cons (.bp rfl rfl) (.cons (.rp rfl rfl rfl) (.cons (.int (by rw [← hk, htop])) .nil)))) rfl rfl rfl rfl rfl rfl (fun q hq => Zbf hq)) ?_
    refine Ze4 tok mix (by rfl) [0, 1, 2, 3, 4, 5, 6, 8, 9, 14] 30 (by rfl) (by rfl) (by rfl) ?_
    conv => whnf
    (repeat' first
      | (refine fAV (x := Zbo u.stack n) (y := .rs jT 1 0 (topF u).regs.length) hrt ?_; (conv => whnf))
      | (refine @And.intro (Zaa _ _ _ _) _ ?_ ?_; rotate_left; (conv => whnf); rotate_right)
      | (guard_target = And _ _; refine @And.intro (gOp _ _ _ _ _ _ _ _ _) _ (by (conv => whnf); first | exact ⟨rfl, rfl⟩ | (refine fAV (x := Zbo u.stack n) (y := .rs jT 1 0 (topF u).regs.length) hrt ?_; (conv => whnf); exact ⟨rfl, rfl⟩)) ?_; conv => whnf)
      | (guard_target = And _ _; refine And.intro ?_ ?_ <;> (conv => whnf)))
    all_goals (try ((guard_target = Zaa _ _ _ _); refine Zae ?_; (all_goals (try simp only [Zaa, kzz, kz11, kz12, maxL, Zad] at *)); all_goals omega))
    all_goals (try (show AV.agg [_, _, _, Zbo u.stack n, _] = AV.agg [_, _, _, .rs jT 1 0 (topF u).regs.length, _]; rw [hrt]; done))
    have hut3 : (u.stack.getD n default) = (u.stack.getD (u.stack.length - 1) default) := by rw [hu1]
    have hL' : HF Tryz.prog 163 [.agg (Zbn m), .agg (Zbz (u.stack.getD n default)), iv k, .int .u16 w] (.tup [.agg (frO g (.rs r0 1 0 g.regs.length)), iv 0]) (oneR g.regs) := by rw [hut2]; exact hL
    refine .inr ⟨_, _, _, uG (QH.lendF (rd := [jT]) hL' (.cons (.imm rfl) (.cons (.agg (.cons (.imm rfl) (.cons (.imm rfl) (.cons (.imm rfl) (.cons (.row rfl (.head _) rfl (by rw [hut2]) (fun q hq => by rw [hut2])) (.cons (.imm rfl) .nil)))))) (.cons (.imm rfl) (.cons (.imm rfl) .nil)))) (fun i hi => by rw [Zdi hi]; rfl) rfl (fun j b e => by
      obtain ⟨rfl, rfl⟩ := lendOne j b e
      exact fun i hi => rfl)), ?_⟩
    conv => whnf
    (repeat' first
      | (refine fAV (x := Zbo u.stack n) (y := .rs jT 1 0 (topF u).regs.length) hrt ?_; (conv => whnf))
      | (refine @And.intro (Zaa _ _ _ _) _ ?_ ?_; rotate_left; (conv => whnf); rotate_right)
      | (guard_target = And _ _; refine @And.intro (gOp _ _ _ _ _ _ _ _ _) _ (by (conv => whnf); first | exact ⟨rfl, rfl⟩ | (refine fAV (x := Zbo u.stack n) (y := .rs jT 1 0 (topF u).regs.length) hrt ?_; (conv => whnf); exact ⟨rfl, rfl⟩)) ?_; conv => whnf)
      | (guard_target = And _ _; refine And.intro ?_ ?_ <;> (conv => whnf)))
    all_goals (try ((guard_target = Zaa _ _ _ _); refine Zae ?_; (all_goals (try simp only [Zaa, kzz, kz11, kz12, maxL, Zad] at *)); all_goals omega))
    all_goals (try (show AV.agg [_, _, _, Zbo u.stack n, _] = AV.agg [_, _, _, .rs jT 1 0 (topF u).regs.length, _]; rw [hrt]; done))
    all_goals
      (repeat' (refine Zak ?_; conv => whnf))
      refine ⟨_, srcT jE r0, rfl, ?_⟩
      rw [← and_assoc]
      refine ⟨leaveG (s := u) (g := g) (n' := u.stack.length) (by omega) rfl rfl (.inr (.inl rfl)) (.inl rfl) rfl ?_ rfl (Nat.le_refl _) (fun q hq => ?_) ?_ rfl (Zes _) rfl (Zb3 _) (fun q hq => ?_), .tup .nil, keepT⟩
      · exact Zer (s := Zb6 u g) (Zdl (s := u) (by omega)).symm rfl rfl rfl rfl
      · exact Zc8 (by omega)
      · rw [hu1]; exact Zdy
      · refine Zff (d := []) (u := oneR g.regs) rfl rfl ?_
        exact Za5 hq
  · have hno : ¬ Zb2 m p.stack w true n = true := by
      show ¬ Zd5 m (p.stack.getD n default) w true = true
      rw [← padV_catch2]
      simpa using hb
    clear hb
    obtain ⟨e1, e2⟩ := downK_no hn3 hno
    have hPu := c_mPop m u (by omega) (by omega)
    have hpu : popM u = Ze7 p (n - 1 + 1) := by
      rw [← hu]
      unfold popM Ze7
      simp only [List.length_take, List.take_take]
      congr 2
      omega
    rw [hpu] at hPu
    refine Zay (weakCW (tl := [(2, .bp c1 0), (3, .bp c2 0)]) (.cons (.bp rfl rfl) (.cons (.bp rfl rfl) .nil)) rfl rfl rfl rfl rfl rfl (fun q hq => Zbf hq)) ?_
    (repeat' (refine Zab tok (by rfl) ?_; conv => whnf))
    refine .inr ⟨_, _, _, uG (QH.tnM (by simp) (by simp) hPu (by omega) (Za3 rfl rfl rfl rfl (fun q => rfl)) rfl (fun q hq => Zao hq)), ?_⟩
    conv => whnf
    skip
    refine ⟨n - 1, ⟨by omega, by rw [← e2]; exact hn2, ?_⟩, by omega, weakCW (.cons (.bp rfl rfl) (.cons (.bp rfl rfl) .nil)) rfl rfl rfl rfl rfl rfl (fun q hq => Zbf hq)⟩
    obtain ⟨j, j1, j2⟩ := hn3
    refine ⟨j, ?_, j2⟩
    rcases Nat.lt_or_ge j n with h3 | h3
    · omega
    · have : j = n := by omega
      subst this; exact absurd j2 hno
end Go.Proofs.YtoelbgjpmpoolaaGreat
namespace Go.Proofs.YtoelbgjpmpoolaaGreat
open Go Dv
set_option maxRecDepth 10000
set_option linter.unusedSimpArgs false
theorem weakW {n : Nat} {tl : List (Nat × AV)} {el : List (Dv.Id × Zam)} {m : Zaj} {s : Mach} {σ : ASt} {L : List Dv.Id} (ht : TLg (srcL []) σ.h (orH (Zaz (el ++ memL m s)) (famW s.stack)) σ.tm tl) (he : HLs (srcL []) σ.h (orH (Zaz (el ++ memL m s)) (famW s.stack)) (el ++ memL m s)) (h5 : ∀ q, q < s.stack.length - 1 → σ.h (945, 0, q) = some (regB (s.stack.getD q default).regs))
    (hL : ∀ i ∈ L, Zew i = true → (orH (Zaz (el ++ memL m s)) (famW s.stack) i).isSome = true ∧ srcL [] i = some i) : Weak n L σ (mkF tl (el ++ memL m s) (famW s.stack)) := by
  exact Weak.fam [] rfl (fun c hc => by cases hc) ht he (Zgq (fun _ _ => rfl) h5) hL
set_option maxHeartbeats 4000000 in
theorem c_mStepT (m : Zaj) (s s1 : Mach) (f : Zax) (hf : topF s = f) (h : 0 < s.stack.length) (h32 : s.stack.length ≤ 32) (hF : OkF m f) (he : endB m f = false) (hl : s1.stack.length = s.stack.length) (hat0 : 0 ≤ (topF s1).at_) (hat : (topF s1).at_ < 1000000)
    (hI : HG Tryz.prog LW 113 (mem m s) [.bp jB 0, .rp jF 5 (s.stack.length - 1) 0, .agg (Zba ((Zaq m f).ins.getD f.at_.toNat default))] (.bool true) (mem m s1)) :
    HG Tryz.prog [jB] 64 (mem m s) [.bp jB 0] (.tup []) (mem m (Zb6 s1 (goOn (topF s1)))) := by
  refine Za9 tok Tryz.func64 rfl (by decide +kernel) (Nat.le_of_ble_eq_true rfl) ?_
  have hmx : maxL = 4294967296 := rfl
  have hft : s.stack.getD (s.stack.length - 1) default = f := hf
  have hT := Zf8 m s h (by omega)
  have hB := Zdn m s (s.stack.length - 1) (by omega) (by rw [hft]; exact hF)
  rw [hft] at hB
  have hE : ¬ f.at_ = (Zaq m f).ins.length := fun e => by
    have : endB m f = true := decide_eq_true e
    rw [he] at this; cases this
  have hgen : ∃ b, Zaq m f = b := ⟨_, rfl⟩
  obtain ⟨b, hbe⟩ := hgen
  have a0 := hF.a0
  have a1 := hF.a1
  rw [hbe] at hB hE a1 hI
  (repeat' ((fail_if_success (show AWp _ _ _ (Code.region 0 _ _) _ _)); refine Zac ?_))
  (repeat' (refine Zab tok (by rfl) ?_; conv => whnf))
  refine .inr ⟨_, _, _, uG (QH.tnM (by simp) (by simp) hT h32 (Za3 rfl rfl rfl rfl (fun _ => rfl)) rfl (fun q hq => Zao hq)), ?_⟩
  conv => whnf
  (repeat' ((fail_if_success (show AWp _ _ _ (Code.region 1 _ _) _ _)); refine Zac ?_))
  (repeat' (refine Zab tok (by rfl) ?_; conv => whnf))
  refine .inr ⟨_, _, _, uG (QH.tnM (by simp) (by simp) hB h32 (Za3 rfl rfl rfl rfl (fun _ => Zbv (fun hq => Zao (by omega)))) rfl (fun q hq => (Zbv (fun hq => Zao (by omega))).trans (Zao hq))), ?_⟩
  conv => whnf
  ((repeat' ((fail_if_success (show AWp _ _ _ (Code.region 3 _ _) _ _)); (fail_if_success (show AWp _ _ _ (Code.region 5 _ _) _ _)); first | refine Zac ?_ | (refine Zar tok mix (by rfl) ?_; conv => whnf) | (refine Zag ?_; conv => whnf) | refine Zaf rfl (fun hb => ?_) (fun hb => ?_) | (refine @And.intro (Zaa _ _ _ _) _ ?_ ?_; rotate_left; (conv => whnf); rotate_right))); all_goals (try ((guard_target = Zaa _ _ _ _); refine Zae ?_; (all_goals (try simp only [Zaa, kzz, kz11, kz12, maxL, Zad] at *)); all_goals omega)))
  · clear hb
    refine Zay (weakW (m := m) (s := s) (L := [jB]) (tl := [(0, .bp jB 0), (2, .rp jF 5 (s.stack.length - 1) 0), (3, .bp (3, 0, 0) 0)]) (el := [((3, 0, 0), Za4 (Za6 b))]) ?_ ?_ (fun q hq => Zbf hq) (fun i hi _ => by rw [List.mem_singleton.1 hi]; exact ⟨rfl, rfl⟩)) ?_
    · exact .cons (.bp rfl rfl) (.cons (.rp rfl rfl rfl) (.cons (.bp rfl rfl) .nil))
    · exact .old rfl rfl (GB.one (GVs.imm rfl) (fun _ => rfl)) (Zcv rfl rfl rfl rfl (fun _ => rfl) rfl rfl rfl rfl rfl rfl rfl (fun q hq => Zcx hq))
    have hle : s.stack.length - 1 < s.stack.length := by omega
    have hat1 : (s.stack.getD (s.stack.length - 1) default).at_.toNat < b.ins.length := by rw [hft]; omega
    have hat0' : 0 ≤ (s.stack.getD (s.stack.length - 1) default).at_ := by rw [hft]; omega
    have hI' : HG Tryz.prog LW 113 (mem m s) [.bp jB 0, .rp jF 5 (s.stack.length - 1) 0, .agg (Zba (b.ins.getD (s.stack.getD (s.stack.length - 1) default).at_.toNat default))] (.bool true) (mem m s1) := by rw [hft]; exact hI
    have hle1 : s.stack.length - 1 < s1.stack.length := by omega
    have htp : s1.stack.getD (s.stack.length - 1) default = topF s1 := by rw [← hl]; rfl
    have hatt : 0 ≤ (s1.stack.getD (s.stack.length - 1) default).at_ ∧ (s1.stack.getD (s.stack.length - 1) default).at_ < 1000000 := by rw [htp]; exact ⟨hat0, hat⟩
    ((repeat' first | (refine Zar tok mix (by rfl) ?_; conv => whnf) | (refine @And.intro (Zaa _ _ _ _) _ ?_ ?_; rotate_left; (conv => whnf); rotate_right)); all_goals (try ((guard_target = Zaa _ _ _ _); refine Zae ?_; (all_goals (try simp only [Zaa, kzz, kz11, kz12, maxL, Zad] at *)); all_goals omega)))
    refine .inr ⟨_, _, _, uG (QH.tnM (by simp) (by simp) hI' h32 (Za3 rfl rfl rfl rfl (fun _ => rfl)) rfl (fun q hq => Zao hq)), ?_⟩
    conv => whnf
    (repeat' ((fail_if_success (show AWp _ _ _ (Code.region 4 _ _) _ _)); first | (refine Zag ?_; conv => whnf) | (refine Zak ?_; conv => whnf) | refine Zaf rfl (fun hb => ?_) (fun hb => ?_)))
    all_goals (try (exfalso; cases hb; done))
    clear hb
    ((repeat' first | (refine Zab tok (by rfl) ?_; conv => whnf) | (refine @And.intro (Zaa _ _ _ _) _ ?_ ?_; rotate_left; (conv => whnf); rotate_right)); all_goals (try ((guard_target = Zaa _ _ _ _); refine Zae ?_; (all_goals (try simp only [Zaa, kzz, kz11, kz12, maxL, Zad] at *)); all_goals omega)))
    refine fAV (x := Zbo s1.stack (s.stack.length - 1)) (y := .rs jT 1 0 (topF s1).regs.length) (Zbh (by omega) (by rw [hl])) ?_
    conv => whnf
    (repeat' (refine Zak ?_; conv => whnf))
    refine ⟨_, srcT jE jT, rfl, ?_⟩
    rw [← and_assoc]
    refine ⟨leaveG (s := s1) (g := goOn (topF s1)) (n' := s1.stack.length) (by omega) rfl rfl (.inr (.inl rfl)) (.inr (.inr rfl)) rfl ?_ rfl (Nat.le_refl _) (fun q hq => ?_) ?_ rfl (Zes _) rfl (Zb3 _) (fun q hq => Zbf (s := s1) hq), .tup .nil, fun i hi hp => keepT i (by rw [List.mem_singleton.1 hi]; exact .head _) hp⟩
    · exact Zer (s := Zb6 s1 (goOn (topF s1))) (Zdl (s := s1) (by omega)).symm rfl rfl rfl rfl
    · exact Zc8 (by omega)
    · rw [hl]
      refine Zdy.trans ?_
      rw [htp, Zal (by omega) (by omega)]
      rfl
  · exfalso
    rw [hft] at hb
    simp only [decide_eq_false_iff_not] at hb
    omega
end Go.Proofs.YtoelbgjpmpoolaaGreat
namespace Go.Proofs.YtoelbgjpmpoolaaGreat
open Go Dv
set_option maxRecDepth 10000
set_option linter.unusedSimpArgs false
theorem renN' {m : Zaj} {s s' : Mach} {f : FuncId} {args args' : List AV} {r : AV} (h : HG Tryz.prog [jB] f (mem m s) args r (mem m s')) (ha : GVs (srcL [(jF, some jN)]) (memN m s) (mem m s) args' args) : HG Tryz.prog [jB] f (memN m s) args' r (mem m s') := by
  refine h.ren (srcL [(jF, some jN)]) (Zev rfl (fun i hi => ?_)) (fun j b e => ?_) ha (fun i hi _ => by rw [List.mem_singleton.1 hi]; exact ⟨rfl, rfl⟩)
  · rw [List.mem_singleton.1 (show i ∈ [jN] from hi)]; exact .inl rfl
  · rcases Zch e with ⟨rfl, rfl⟩ | ⟨rfl, rfl⟩ | ⟨rfl, rfl⟩ | ⟨rfl, rfl⟩ | ⟨q, rfl, hq2, rfl⟩
    · exact HOk.mk rfl rfl (GB.one (cells22 rfl rfl rfl rfl) (fun e => by cases e))
    · exact HOk.mk rfl rfl (GB_fr (fun _ _ => rfl) rfl (fun q hq => by rw [Zd8, Za5 hq]; rfl) rfl)
    · exact HOk.mk rfl rfl (Zes _)
    · exact HOk.mk rfl rfl (Zb3 _)
    · exact HOk.mk rfl (Za5 (l := s.stack) hq2) (Zb3 _)
set_option maxHeartbeats 4000000 in
theorem c_mStepF (m : Zaj) (s s1 : Mach) (f : Zax) (hf : topF s = f) (h : 0 < s.stack.length) (h32 : s.stack.length ≤ 32) (hF : OkF m f) (he : endB m f = false)
    (hI : HG Tryz.prog LW 113 (mem m s) [.bp jB 0, .rp jF 5 (s.stack.length - 1) 0, .agg (Zba ((Zaq m f).ins.getD f.at_.toNat default))] (.bool false) (mem m s1)) :
    HG Tryz.prog [jB] 64 (mem m s) [.bp jB 0] (.tup []) (mem m s1) := by
  refine Za9 tok Tryz.func64 rfl (by decide +kernel) (Nat.le_of_ble_eq_true rfl) ?_
  have hmx : maxL = 4294967296 := rfl
  have hft : s.stack.getD (s.stack.length - 1) default = f := hf
  have hT := Zf8 m s h (by omega)
  have hB := Zdn m s (s.stack.length - 1) (by omega) (by rw [hft]; exact hF)
  rw [hft] at hB
  have hE : ¬ f.at_ = (Zaq m f).ins.length := fun e => by
    have : endB m f = true := decide_eq_true e
    rw [he] at this; cases this
  have hgen : ∃ b, Zaq m f = b := ⟨_, rfl⟩
  obtain ⟨b, hbe⟩ := hgen
  have a0 := hF.a0
  have a1 := hF.a1
  rw [hbe] at hB hE a1 hI
  (repeat' ((fail_if_success (show AWp _ _ _ (Code.region 0 _ _) _ _)); refine Zac ?_))
  (repeat' (refine Zab tok (by rfl) ?_; conv => whnf))
  refine .inr ⟨_, _, _, uG (QH.tnM (by simp) (by simp) hT h32 (Za3 rfl rfl rfl rfl (fun _ => rfl)) rfl (fun q hq => Zao hq)), ?_⟩
  conv => whnf
  (repeat' ((fail_if_success (show AWp _ _ _ (Code.region 1 _ _) _ _)); refine Zac ?_))
  (repeat' (refine Zab tok (by rfl) ?_; conv => whnf))
  refine .inr ⟨_, _, _, uG (QH.tnM (by simp) (by simp) hB h32 (Za3 rfl rfl rfl rfl (fun _ => Zbv (fun hq => Zao (by omega)))) rfl (fun q hq => (Zbv (fun hq => Zao (by omega))).trans (Zao hq))), ?_⟩
  conv => whnf
  ((repeat' ((fail_if_success (show AWp _ _ _ (Code.region 3 _ _) _ _)); (fail_if_success (show AWp _ _ _ (Code.region 5 _ _) _ _)); first | refine Zac ?_ | (refine Zar tok mix (by rfl) ?_; conv => whnf) | (refine Zag ?_; conv => whnf) | refine Zaf rfl (fun hb => ?_) (fun hb => ?_) | (refine @And.intro (Zaa _ _ _ _) _ ?_ ?_; rotate_left; (conv => whnf); rotate_right))); all_goals (try ((guard_target = Zaa _ _ _ _); refine Zae ?_; (all_goals (try simp only [Zaa, kzz, kz11, kz12, maxL, Zad] at *)); all_goals omega)))
  · clear hb
    refine Zay (weakW (m := m) (s := s) (L := [jB]) (tl := [(0, .bp jB 0), (2, .rp jF 5 (s.stack.length - 1) 0), (3, .bp (3, 0, 0) 0)]) (el := [((3, 0, 0), Za4 (Za6 b))]) ?_ ?_ (fun q hq => Zbf hq) (fun i hi _ => by rw [List.mem_singleton.1 hi]; exact ⟨rfl, rfl⟩)) ?_
    · exact .cons (.bp rfl rfl) (.cons (.rp rfl rfl rfl) (.cons (.bp rfl rfl) .nil))
    · exact .old rfl rfl (GB.one (GVs.imm rfl) (fun _ => rfl)) (Zcv rfl rfl rfl rfl (fun _ => rfl) rfl rfl rfl rfl rfl rfl rfl (fun q hq => Zcx hq))
    have hle : s.stack.length - 1 < s.stack.length := by omega
    have hat1 : (s.stack.getD (s.stack.length - 1) default).at_.toNat < b.ins.length := by rw [hft]; omega
    have hat0' : 0 ≤ (s.stack.getD (s.stack.length - 1) default).at_ := by rw [hft]; omega
    have hI' : HG Tryz.prog LW 113 (mem m s) [.bp jB 0, .rp jF 5 (s.stack.length - 1) 0, .agg (Zba (b.ins.getD (s.stack.getD (s.stack.length - 1) default).at_.toNat default))] (.bool false) (mem m s1) := by rw [hft]; exact hI
    ((repeat' first | (refine Zar tok mix (by rfl) ?_; conv => whnf) | (refine @And.intro (Zaa _ _ _ _) _ ?_ ?_; rotate_left; (conv => whnf); rotate_right)); all_goals (try ((guard_target = Zaa _ _ _ _); refine Zae ?_; (all_goals (try simp only [Zaa, kzz, kz11, kz12, maxL, Zad] at *)); all_goals omega)))
    refine .inr ⟨_, _, _, uG (QH.tnM (by simp) (by simp) hI' h32 (Za3 rfl rfl rfl rfl (fun _ => rfl)) rfl (fun q hq => Zao hq)), ?_⟩
    conv => whnf
    (repeat' ((fail_if_success (show AWp _ _ _ (Code.region 4 _ _) _ _)); first | (refine Zag ?_; conv => whnf) | (refine Zak ?_; conv => whnf) | refine Zaf rfl (fun hb => ?_) (fun hb => ?_)))
    all_goals (try (exfalso; cases hb; done))
    clear hb
    skip
    refine ⟨_, srcL [], rfl, ?_⟩
    rw [← and_assoc]
    exact ⟨Zdv (s := s1) rfl rfl rfl (Zcr rfl rfl rfl) rfl rfl rfl (fun q hq => Zbf hq), .tup .nil, fun i hi hp => Zc3 i (by rw [List.mem_singleton.1 hi]; exact .head _) hp⟩
  · exfalso
    rw [hft] at hb
    simp only [decide_eq_false_iff_not] at hb
    omega
set_option maxHeartbeats 4000000 in
theorem c_mStepC (m : Zaj) (s s1 : Mach) (f : Zax) (hf : topF s = f) (h : 0 < s.stack.length) (h32 : s.stack.length ≤ 32) (hF : OkF m f) (he : endB m f = false)
    (hI : HG Tryz.prog [jB] 113 (mem m s) [.bp jB 0, .rp jF 5 (s.stack.length - 1) 0, .agg (Zba ((Zaq m f).ins.getD f.at_.toNat default))] (.bool false) (mem m s1)) :
    HG Tryz.prog [jB] 64 (mem m s) [.bp jB 0] (.tup []) (mem m s1) := by
  refine Za9 tok Tryz.func64 rfl (by decide +kernel) (Nat.le_of_ble_eq_true rfl) ?_
  have hmx : maxL = 4294967296 := rfl
  have hft : s.stack.getD (s.stack.length - 1) default = f := hf
  have hT := Zf8 m s h (by omega)
  have hB := Zdn m s (s.stack.length - 1) (by omega) (by rw [hft]; exact hF)
  rw [hft] at hB
  have hE : ¬ f.at_ = (Zaq m f).ins.length := fun e => by
    have : endB m f = true := decide_eq_true e
    rw [he] at this; cases this
  have hgen : ∃ b, Zaq m f = b := ⟨_, rfl⟩
  obtain ⟨b, hbe⟩ := hgen
  have a0 := hF.a0
  have a1 := hF.a1
  rw [hbe] at hB hE a1 hI
  (repeat' ((fail_if_success (show AWp _ _ _ (Code.region 0 _ _) _ _)); refine Zac ?_))
  (repeat' (refine Zab tok (by rfl) ?_; conv => whnf))
  refine .inr ⟨_, _, _, uG (QH.tnM (by simp) (by simp) hT h32 (Za3 rfl rfl rfl rfl (fun _ => rfl)) rfl (fun q hq => Zao hq)), ?_⟩
  conv => whnf
  (repeat' ((fail_if_success (show AWp _ _ _ (Code.region 1 _ _) _ _)); refine Zac ?_))
  (repeat' (refine Zab tok (by rfl) ?_; conv => whnf))
  refine .inr ⟨_, _, _, uG (QH.tnM (by simp) (by simp) hB h32 (Za3 rfl rfl rfl rfl (fun _ => Zbv (fun hq => Zao (by omega)))) rfl (fun q hq => (Zbv (fun hq => Zao (by omega))).trans (Zao hq))), ?_⟩
  conv => whnf
  ((repeat' ((fail_if_success (show AWp _ _ _ (Code.region 3 _ _) _ _)); (fail_if_success (show AWp _ _ _ (Code.region 5 _ _) _ _)); first | refine Zac ?_ | (refine Zar tok mix (by rfl) ?_; conv => whnf) | (refine Zag ?_; conv => whnf) | refine Zaf rfl (fun hb => ?_) (fun hb => ?_) | (refine @And.intro (Zaa _ _ _ _) _ ?_ ?_; rotate_left; (conv => whnf); rotate_right))); all_goals (try ((guard_target = Zaa _ _ _ _); refine Zae ?_; (all_goals (try simp only [Zaa, kzz, kz11, kz12, maxL, Zad] at *)); all_goals omega)))
  · clear hb
    refine Zay (Weak.fam (L := [jB]) (tl := [(0, .bp jB 0), (2, .rp jN 5 (s.stack.length - 1) 0), (3, .bp (3, 0, 0) 0)]) (hl := [((3, 0, 0), Za4 (Za6 b))] ++ memNL m s) (F := famW s.stack) [(jN, some jF)] rfl (fun c hc => ?_) ?_ ?_ ?_ (fun i hi _ => by rw [List.mem_singleton.1 hi]; exact ⟨rfl, rfl⟩)) ?_
    · rw [List.mem_singleton.1 (show c ∈ [jF] from hc)]; exact .inl rfl
    · exact .cons (.bp rfl rfl) (.cons (.rp rfl rfl rfl) (.cons (.bp rfl rfl) .nil))
    · refine .old rfl rfl (GB.one (GVs.imm rfl) (fun _ => rfl)) ?_
      exact HLs_memN rfl rfl rfl rfl (fun _ => rfl) rfl rfl rfl rfl rfl rfl rfl rfl (fun q hq => Zcx hq)
    · exact Zgq (fun _ _ => rfl) (fun q hq => Zbf hq)
    have hle : s.stack.length - 1 < s.stack.length := by omega
    have hat1 : (s.stack.getD (s.stack.length - 1) default).at_.toNat < b.ins.length := by rw [hft]; omega
    have hat0' : 0 ≤ (s.stack.getD (s.stack.length - 1) default).at_ := by rw [hft]; omega
    have hI' : HG Tryz.prog [jB] 113 (memN m s) [.bp jB 0, .rp jN 5 (s.stack.length - 1) 0, .agg (Zba (b.ins.getD (s.stack.getD (s.stack.length - 1) default).at_.toNat default))] (.bool false) (mem m s1) := by rw [hft]; exact renN' hI (.cons (.bp rfl rfl) (.cons (.rp rfl rfl rfl) (.cons (.imm rfl) .nil)))
    ((repeat' first | (refine Zar tok mix (by rfl) ?_; conv => whnf) | (refine @And.intro (Zaa _ _ _ _) _ ?_ ?_; rotate_left; (conv => whnf); rotate_right)); all_goals (try ((guard_target = Zaa _ _ _ _); refine Zae ?_; (all_goals (try simp only [Zaa, kzz, kz11, kz12, maxL, Zad] at *)); all_goals omega)))
    refine .inr ⟨_, _, _, uG (QH.ddM (by simp) hI' h32 (memN_sub rfl rfl rfl rfl (fun _ => rfl)) rfl rfl (fun q hq => Zao hq)), ?_⟩
    conv => whnf
    (repeat' ((fail_if_success (show AWp _ _ _ (Code.region 4 _ _) _ _)); first | (refine Zag ?_; conv => whnf) | (refine Zak ?_; conv => whnf) | refine Zaf rfl (fun hb => ?_) (fun hb => ?_)))
    all_goals (try (exfalso; cases hb; done))
    clear hb
    skip
    refine ⟨_, srcL [], rfl, ?_⟩
    rw [← and_assoc]
    exact ⟨Zdv (s := s1) rfl rfl rfl (Zcr rfl rfl rfl) rfl rfl rfl (fun q hq => Zbf hq), .tup .nil, fun i hi hp => Zc3 i (by rw [List.mem_singleton.1 hi]; exact .head _) hp⟩
  · exfalso
    rw [hft] at hb
    simp only [decide_eq_false_iff_not] at hb
    omega
end Go.Proofs.YtoelbgjpmpoolaaGreat
namespace Go.Proofs.YtoelbgjpmpoolaaGreat
open Go Dv
set_option maxRecDepth 10000
set_option linter.unusedSimpArgs false
set_option maxHeartbeats 4000000 in
theorem c_mStep1 (m : Zaj) (s : Mach) (f : Zax) (b : Zbk) (hf : topF s = f) (hbe : Zaq m f = b) (h : 0 < s.stack.length) (h32 : s.stack.length ≤ 32) (hF : OkF m f) (he : endB m f = true) (hk : b.fin.kind = 1) (ha : 0 ≤ b.fin.a ∧ b.fin.a < f.regs.length) (hc : HG Tryz.prog LW 114 (mem m s) [.bp jB 0, .int .u16 (regA f b.fin.a)] (.tup []) (mem m (Zcb m s (regA f b.fin.a)))) :
    HG Tryz.prog [jB] 64 (mem m s) [.bp jB 0] (.tup []) (mem m (Zcb m s (regA f b.fin.a))) := by
  refine Za9 tok Tryz.func64 rfl (by decide +kernel) (Nat.le_of_ble_eq_true rfl) ?_
  have hmx : maxL = 4294967296 := rfl
  have hft : s.stack.getD (s.stack.length - 1) default = f := hf
  have hT := Zf8 m s h (by omega)
  have hB := Zdn m s (s.stack.length - 1) (by omega) (by rw [hft]; exact hF)
  rw [hft] at hB
  have hE : f.at_ = (Zaq m f).ins.length := of_decide_eq_true he
  have a0 := hF.a0
  have a1 := hF.a1
  rw [hbe] at hB hE a1
  (repeat' ((fail_if_success (show AWp _ _ _ (Code.region 0 _ _) _ _)); refine Zac ?_))
  (repeat' (refine Zab tok (by rfl) ?_; conv => whnf))
  refine .inr ⟨_, _, _, uG (QH.tnM (by simp) (by simp) hT h32 (Za3 rfl rfl rfl rfl (fun _ => rfl)) rfl (fun q hq => Zao hq)), ?_⟩
  conv => whnf
  (repeat' ((fail_if_success (show AWp _ _ _ (Code.region 1 _ _) _ _)); refine Zac ?_))
  (repeat' (refine Zab tok (by rfl) ?_; conv => whnf))
  refine .inr ⟨_, _, _, uG (QH.tnM (by simp) (by simp) hB h32 (Za3 rfl rfl rfl rfl (fun _ => Zbv (fun hq => Zao (by omega)))) rfl (fun q hq => (Zbv (fun hq => Zao (by omega))).trans (Zao hq))), ?_⟩
  conv => whnf
  ((repeat' ((fail_if_success (show AWp _ _ _ (Code.region 3 _ _) _ _)); (fail_if_success (show AWp _ _ _ (Code.region 5 _ _) _ _)); first | refine Zac ?_ | (refine Zar tok mix (by rfl) ?_; conv => whnf) | (refine Zag ?_; conv => whnf) | refine Zaf rfl (fun hb => ?_) (fun hb => ?_) | (refine @And.intro (Zaa _ _ _ _) _ ?_ ?_; rotate_left; (conv => whnf); rotate_right))); all_goals (try ((guard_target = Zaa _ _ _ _); refine Zae ?_; (all_goals (try simp only [Zaa, kzz, kz11, kz12, maxL, Zad] at *)); all_goals omega)))
  · exfalso
    rw [hft] at hb
    simp only [decide_eq_true_eq] at hb
    omega
  clear hb
  refine Zay (weakW (m := m) (s := s) (L := [jB]) (tl := [(0, .bp jB 0), (2, .rp jF 5 (s.stack.length - 1) 0), (3, .bp (3, 0, 0) 0)]) (el := [((3, 0, 0), Za4 (Za6 b))]) ?_ ?_ (fun q hq => Zbf hq) (fun i hi _ => by rw [List.mem_singleton.1 hi]; exact ⟨rfl, rfl⟩)) ?_
  · exact .cons (.bp rfl rfl) (.cons (.rp rfl rfl rfl) (.cons (.bp rfl rfl) .nil))
  · exact .old rfl rfl (GB.one (GVs.imm rfl) (fun _ => rfl)) (Zcv rfl rfl rfl rfl (fun _ => rfl) rfl rfl rfl rfl rfl rfl rfl (fun q hq => Zcx hq))
  have hle : s.stack.length - 1 < s.stack.length := by omega
  (repeat' ((fail_if_success (show AWp _ _ _ (Code.region 8 _ _) _ _)); (fail_if_success (show AWp _ _ _ (Code.region 9 _ _) _ _)); first | refine Zac ?_ | (refine Zab tok (by rfl) ?_; conv => whnf) | refine Zah ?_ | refine Zaf rfl (fun hb => ?_) (fun hb => ?_)))
  rotate_left
  · exfalso; simp only [decide_eq_false_iff_not] at hb; omega
  clear hb
  have haa : b.fin.a.toNat < (topF s).regs.length := by rw [hf]; omega
  have hc' : HG Tryz.prog LW 114 (mem m s) [.bp jB 0, .int .u16 ((topF s).regs.getD (0 + b.fin.a.toNat) 0)] (.tup []) (mem m (Zcb m s (regA f b.fin.a))) := by rw [Nat.zero_add, hf]; exact hc
  ((repeat' first | (refine Zar tok mix (by rfl) ?_; conv => whnf) | (refine @And.intro (Zaa _ _ _ _) _ ?_ ?_; rotate_left; (conv => whnf); rotate_right)); all_goals (try ((guard_target = Zaa _ _ _ _); refine Zae ?_; (all_goals (try simp only [Zaa, kzz, kz11, kz12, maxL, Zad] at *)); all_goals omega)))
  refine fAV (x := Zbo s.stack (s.stack.length - 1)) (y := .rs jT 1 0 (topF s).regs.length) (Zbh h rfl) ?_
  conv => whnf
  ((repeat' (refine @And.intro (Zaa _ _ _ _) _ ?_ ?_; rotate_left; (conv => whnf); rotate_right)); all_goals (try ((guard_target = Zaa _ _ _ _); refine Zae ?_; (all_goals (try simp only [Zaa, kzz, kz11, kz12, maxL, Zad] at *)); all_goals omega)))
  refine .inr ⟨_, _, _, uG (QH.tnM (by simp) (by simp) hc' h32 (Za3 rfl rfl rfl rfl (fun _ => rfl)) rfl (fun q hq => Zao hq)), ?_⟩
  conv => whnf
  skip
  refine ⟨_, srcL [], rfl, ?_⟩
  rw [← and_assoc]
  exact ⟨Zdv (s := Zcb m s (regA f b.fin.a)) rfl rfl rfl (Zcr rfl rfl rfl) rfl rfl rfl (fun q hq => Zbf hq), .tup .nil, fun i hi hp => Zc3 i (by rw [List.mem_singleton.1 hi]; exact .head _) hp⟩
set_option maxHeartbeats 4000000 in
theorem c_mStep5 (m : Zaj) (s : Mach) (f : Zax) (b : Zbk) (hf : topF s = f) (hbe : Zaq m f = b) (h : 0 < s.stack.length) (h32 : s.stack.length ≤ 32) (hF : OkF m f) (he : endB m f = true) (hk : b.fin.kind = 5) (ha : 0 ≤ b.fin.a ∧ b.fin.a < f.regs.length) (hc : HG Tryz.prog LW 117 (mem m s) [.bp jB 0, .int .u16 (regA f b.fin.a)] (.tup []) (mem m (Zb7 m s (regA f b.fin.a)))) :
    HG Tryz.prog [jB] 64 (mem m s) [.bp jB 0] (.tup []) (mem m (Zb7 m s (regA f b.fin.a))) := by
  refine Za9 tok Tryz.func64 rfl (by decide +kernel) (Nat.le_of_ble_eq_true rfl) ?_
  have hmx : maxL = 4294967296 := rfl
  have hft : s.stack.getD (s.stack.length - 1) default = f := hf
  have hT := Zf8 m s h (by omega)
  have hB := Zdn m s (s.stack.length - 1) (by omega) (by rw [hft]; exact hF)
  rw [hft] at hB
  have hE : f.at_ = (Zaq m f).ins.length := of_decide_eq_true he
  have a0 := hF.a0
  have a1 := hF.a1
  rw [hbe] at hB hE a1
  (repeat' ((fail_if_success (show AWp _ _ _ (Code.region 0 _ _) _ _)); refine Zac ?_))
  (repeat' (refine Zab tok (by rfl) ?_; conv => whnf))
  refine .inr ⟨_, _, _, uG (QH.tnM (by simp) (by simp) hT h32 (Za3 rfl rfl rfl rfl (fun _ => rfl)) rfl (fun q hq => Zao hq)), ?_⟩
  conv => whnf
  (repeat' ((fail_if_success (show AWp _ _ _ (Code.region 1 _ _) _ _)); refine Zac ?_))
  (repeat' (refine Zab tok (by rfl) ?_; conv => whnf))
  refine .inr ⟨_, _, _, uG (QH.tnM (by simp) (by simp) hB h32 (Za3 rfl rfl rfl rfl (fun _ => Zbv (fun hq => Zao (by omega)))) rfl (fun q hq => (Zbv (fun hq => Zao (by omega))).trans (Zao hq))), ?_⟩
  conv => whnf
  ((repeat' ((fail_if_success (show AWp _ _ _ (Code.region 3 _ _) _ _)); (fail_if_success (show AWp _ _ _ (Code.region 5 _ _) _ _)); first | refine Zac ?_ | (refine Zar tok mix (by rfl) ?_; conv => whnf) | (refine Zag ?_; conv => whnf) | refine Zaf rfl (fun hb => ?_) (fun hb => ?_) | (refine @And.intro (Zaa _ _ _ _) _ ?_ ?_; rotate_left; (conv => whnf); rotate_right))); all_goals (try ((guard_target = Zaa _ _ _ _); refine Zae ?_; (all_goals (try simp only [Zaa, kzz, kz11, kz12, maxL, Zad] at *)); all_goals omega)))
  · exfalso
    rw [hft] at hb
    simp only [decide_eq_true_eq] at hb
    omega
  clear hb
  refine Zay (weakW (m := m) (s := s) (L := [jB]) (tl := [(0, .bp jB 0), (2, .rp jF 5 (s.stack.length - 1) 0), (3, .bp (3, 0, 0) 0)]) (el := [((3, 0, 0), Za4 (Za6 b))]) ?_ ?_ (fun q hq => Zbf hq) (fun i hi _ => by rw [List.mem_singleton.1 hi]; exact ⟨rfl, rfl⟩)) ?_
  · exact .cons (.bp rfl rfl) (.cons (.rp rfl rfl rfl) (.cons (.bp rfl rfl) .nil))
  · exact .old rfl rfl (GB.one (GVs.imm rfl) (fun _ => rfl)) (Zcv rfl rfl rfl rfl (fun _ => rfl) rfl rfl rfl rfl rfl rfl rfl (fun q hq => Zcx hq))
  have hle : s.stack.length - 1 < s.stack.length := by omega
  (repeat' ((fail_if_success (show AWp _ _ _ (Code.region 8 _ _) _ _)); (fail_if_success (show AWp _ _ _ (Code.region 9 _ _) _ _)); first | refine Zac ?_ | (refine Zab tok (by rfl) ?_; conv => whnf) | refine Zah ?_ | refine Zaf rfl (fun hb => ?_) (fun hb => ?_)))
  · exfalso; simp only [decide_eq_true_eq] at hb; omega
  clear hb
  (repeat' ((fail_if_success (show AWp _ _ _ (Code.region 10 _ _) _ _)); (fail_if_success (show AWp _ _ _ (Code.region 11 _ _) _ _)); first | refine Zac ?_ | (refine Zab tok (by rfl) ?_; conv => whnf) | refine Zaf rfl (fun hb => ?_) (fun hb => ?_)))
  · exfalso; simp only [decide_eq_true_eq] at hb; omega
  clear hb
  (repeat' ((fail_if_success (show AWp _ _ _ (Code.region 12 _ _) _ _)); (fail_if_success (show AWp _ _ _ (Code.region 16 _ _) _ _)); first | refine Zac ?_ | (refine Zab tok (by rfl) ?_; conv => whnf) | refine Zaf rfl (fun hb => ?_) (fun hb => ?_)))
  · exfalso; simp only [decide_eq_true_eq] at hb; omega
  clear hb
  (repeat' ((fail_if_success (show AWp _ _ _ (Code.region 17 _ _) _ _)); (fail_if_success (show AWp _ _ _ (Code.region 18 _ _) _ _)); first | refine Zac ?_ | (refine Zab tok (by rfl) ?_; conv => whnf) | refine Zaf rfl (fun hb => ?_) (fun hb => ?_)))
  · exfalso; simp only [decide_eq_true_eq] at hb; omega
  clear hb
  (repeat' ((fail_if_success (show AWp _ _ _ (Code.region 19 _ _) _ _)); (fail_if_success (show AWp _ _ _ (Code.region 20 _ _) _ _)); first | refine Zac ?_ | (refine Zab tok (by rfl) ?_; conv => whnf) | refine Zaf rfl (fun hb => ?_) (fun hb => ?_)))
  rotate_left
  · exfalso; simp only [decide_eq_false_iff_not] at hb; omega
  clear hb
  have haa : b.fin.a.toNat < (topF s).regs.length := by rw [hf]; omega
  have hc' : HG Tryz.prog LW 117 (mem m s) [.bp jB 0, .int .u16 ((topF s).regs.getD (0 + b.fin.a.toNat) 0)] (.tup []) (mem m (Zb7 m s (regA f b.fin.a))) := by rw [Nat.zero_add, hf]; exact hc
  ((repeat' first | (refine Zar tok mix (by rfl) ?_; conv => whnf) | (refine @And.intro (Zaa _ _ _ _) _ ?_ ?_; rotate_left; (conv => whnf); rotate_right)); all_goals (try ((guard_target = Zaa _ _ _ _); refine Zae ?_; (all_goals (try simp only [Zaa, kzz, kz11, kz12, maxL, Zad] at *)); all_goals omega)))
  refine fAV (x := Zbo s.stack (s.stack.length - 1)) (y := .rs jT 1 0 (topF s).regs.length) (Zbh h rfl) ?_
  conv => whnf
  ((repeat' (refine @And.intro (Zaa _ _ _ _) _ ?_ ?_; rotate_left; (conv => whnf); rotate_right)); all_goals (try ((guard_target = Zaa _ _ _ _); refine Zae ?_; (all_goals (try simp only [Zaa, kzz, kz11, kz12, maxL, Zad] at *)); all_goals omega)))
  refine .inr ⟨_, _, _, uG (QH.tnM (by simp) (by simp) hc' h32 (Za3 rfl rfl rfl rfl (fun _ => rfl)) rfl (fun q hq => Zao hq)), ?_⟩
  conv => whnf
  skip
  refine ⟨_, srcL [], rfl, ?_⟩
  rw [← and_assoc]
  exact ⟨Zdv (s := Zb7 m s (regA f b.fin.a)) rfl rfl rfl (Zcr rfl rfl rfl) rfl rfl rfl (fun q hq => Zbf hq), .tup .nil, fun i hi hp => Zc3 i (by rw [List.mem_singleton.1 hi]; exact .head _) hp⟩
set_option maxHeartbeats 4000000 in
theorem c_mStep6 (m : Zaj) (s : Mach) (f : Zax) (b : Zbk) (hf : topF s = f) (hbe : Zaq m f = b) (h : 0 < s.stack.length) (h32 : s.stack.length ≤ 32) (hF : OkF m f) (he : endB m f = true) (hk : b.fin.kind = 6) (hc : HG Tryz.prog LW 117 (mem m s) [.bp jB 0, .int .u16 f.fly] (.tup []) (mem m (Zb7 m s f.fly))) :
    HG Tryz.prog [jB] 64 (mem m s) [.bp jB 0] (.tup []) (mem m (Zb7 m s f.fly)) := by
  refine Za9 tok Tryz.func64 rfl (by decide +kernel) (Nat.le_of_ble_eq_true rfl) ?_
  have hmx : maxL = 4294967296 := rfl
  have hft : s.stack.getD (s.stack.length - 1) default = f := hf
  have hT := Zf8 m s h (by omega)
  have hB := Zdn m s (s.stack.length - 1) (by omega) (by rw [hft]; exact hF)
  rw [hft] at hB
  have hE : f.at_ = (Zaq m f).ins.length := of_decide_eq_true he
  have a0 := hF.a0
  have a1 := hF.a1
  rw [hbe] at hB hE a1
  (repeat' ((fail_if_success (show AWp _ _ _ (Code.region 0 _ _) _ _)); refine Zac ?_))
  (repeat' (refine Zab tok (by rfl) ?_; conv => whnf))
  refine .inr ⟨_, _, _, uG (QH.tnM (by simp) (by simp) hT h32 (Za3 rfl rfl rfl rfl (fun _ => rfl)) rfl (fun q hq => Zao hq)), ?_⟩
  conv => whnf
  (repeat' ((fail_if_success (show AWp _ _ _ (Code.region 1 _ _) _ _)); refine Zac ?_))
  (repeat' (refine Zab tok (by rfl) ?_; conv => whnf))
  refine .inr ⟨_, _, _, uG (QH.tnM (by simp) (by simp) hB h32 (Za3 rfl rfl rfl rfl (fun _ => Zbv (fun hq => Zao (by omega)))) rfl (fun q hq => (Zbv (fun hq => Zao (by omega))).trans (Zao hq))), ?_⟩
  conv => whnf
  ((repeat' ((fail_if_success (show AWp _ _ _ (Code.region 3 _ _) _ _)); (fail_if_success (show AWp _ _ _ (Code.region 5 _ _) _ _)); first | refine Zac ?_ | (refine Zar tok mix (by rfl) ?_; conv => whnf) | (refine Zag ?_; conv => whnf) | refine Zaf rfl (fun hb => ?_) (fun hb => ?_) | (refine @And.intro (Zaa _ _ _ _) _ ?_ ?_; rotate_left; (conv => whnf); rotate_right))); all_goals (try ((guard_target = Zaa _ _ _ _); refine Zae ?_; (all_goals (try simp only [Zaa, kzz, kz11, kz12, maxL, Zad] at *)); all_goals omega)))
  · exfalso
    rw [hft] at hb
    simp only [decide_eq_true_eq] at hb
    omega
  clear hb
  refine Zay (weakW (m := m) (s := s) (L := [jB]) (tl := [(0, .bp jB 0), (2, .rp jF 5 (s.stack.length - 1) 0), (3, .bp (3, 0, 0) 0)]) (el := [((3, 0, 0), Za4 (Za6 b))]) ?_ ?_ (fun q hq => Zbf hq) (fun i hi _ => by rw [List.mem_singleton.1 hi]; exact ⟨rfl, rfl⟩)) ?_
  · exact .cons (.bp rfl rfl) (.cons (.rp rfl rfl rfl) (.cons (.bp rfl rfl) .nil))
  · exact .old rfl rfl (GB.one (GVs.imm rfl) (fun _ => rfl)) (Zcv rfl rfl rfl rfl (fun _ => rfl) rfl rfl rfl rfl rfl rfl rfl (fun q hq => Zcx hq))
  have hle : s.stack.length - 1 < s.stack.length := by omega
  (repeat' ((fail_if_success (show AWp _ _ _ (Code.region 8 _ _) _ _)); (fail_if_success (show AWp _ _ _ (Code.region 9 _ _) _ _)); first | refine Zac ?_ | (refine Zab tok (by rfl) ?_; conv => whnf) | refine Zah ?_ | refine Zaf rfl (fun hb => ?_) (fun hb => ?_)))
  · exfalso; simp only [decide_eq_true_eq] at hb; omega
  clear hb
  (repeat' ((fail_if_success (show AWp _ _ _ (Code.region 10 _ _) _ _)); (fail_if_success (show AWp _ _ _ (Code.region 11 _ _) _ _)); first | refine Zac ?_ | (refine Zab tok (by rfl) ?_; conv => whnf) | refine Zaf rfl (fun hb => ?_) (fun hb => ?_)))
  · exfalso; simp only [decide_eq_true_eq] at hb; omega
  clear hb
  (repeat' ((fail_if_success (show AWp _ _ _ (Code.region 12 _ _) _ _)); (fail_if_success (show AWp _ _ _ (Code.region 16 _ _) _ _)); first | refine Zac ?_ | (refine Zab tok (by rfl) ?_; conv => whnf) | refine Zaf rfl (fun hb => ?_) (fun hb => ?_)))
  · exfalso; simp only [decide_eq_true_eq] at hb; omega
  clear hb
  (repeat' ((fail_if_success (show AWp _ _ _ (Code.region 17 _ _) _ _)); (fail_if_success (show AWp _ _ _ (Code.region 18 _ _) _ _)); first | refine Zac ?_ | (refine Zab tok (by rfl) ?_; conv => whnf) | refine Zaf rfl (fun hb => ?_) (fun hb => ?_)))
  · exfalso; simp only [decide_eq_true_eq] at hb; omega
  clear hb
  (repeat' ((fail_if_success (show AWp _ _ _ (Code.region 19 _ _) _ _)); (fail_if_success (show AWp _ _ _ (Code.region 20 _ _) _ _)); first | refine Zac ?_ | (refine Zab tok (by rfl) ?_; conv => whnf) | refine Zaf rfl (fun hb => ?_) (fun hb => ?_)))
  · exfalso; simp only [decide_eq_true_eq] at hb; omega
  clear hb
  (repeat' ((fail_if_success (show AWp _ _ _ (Code.region 21 _ _) _ _)); first | (refine Zab tok (by rfl) ?_; conv => whnf) | (refine Zag ?_; conv => whnf) | refine Zaf rfl (fun hb => ?_) (fun hb => ?_)))
  rotate_left
  · exfalso; simp only [decide_eq_false_iff_not] at hb; omega
  clear hb
  have hc' : HG Tryz.prog LW 117 (mem m s) [.bp jB 0, .int .u16 (s.stack.getD (s.stack.length - 1) default).fly] (.tup []) (mem m (Zb7 m s f.fly)) := by rw [hft]; exact hc
  ((repeat' first | (refine Zab tok (by rfl) ?_; conv => whnf) | (refine @And.intro (Zaa _ _ _ _) _ ?_ ?_; rotate_left; (conv => whnf); rotate_right)); all_goals (try ((guard_target = Zaa _ _ _ _); refine Zae ?_; (all_goals (try simp only [Zaa, kzz, kz11, kz12, maxL, Zad] at *)); all_goals omega)))
  refine .inr ⟨_, _, _, uG (QH.tnM (by simp) (by simp) hc' h32 (Za3 rfl rfl rfl rfl (fun _ => rfl)) rfl (fun q hq => Zao hq)), ?_⟩
  conv => whnf
  skip
  refine ⟨_, srcL [], rfl, ?_⟩
  rw [← and_assoc]
  exact ⟨Zdv (s := Zb7 m s f.fly) rfl rfl rfl (Zcr rfl rfl rfl) rfl rfl rfl (fun q hq => Zbf hq), .tup .nil, fun i hi hp => Zc3 i (by rw [List.mem_singleton.1 hi]; exact .head _) hp⟩
set_option maxHeartbeats 4000000 in
theorem c_mStep4 (m : Zaj) (s : Mach) (f : Zax) (b : Zbk) (hf : topF s = f) (hbe : Zaq m f = b) (h : 0 < s.stack.length) (h32 : s.stack.length ≤ 32) (hF : OkF m f) (he : endB m f = true) (hk : b.fin.kind = 4) (hc : HG Tryz.prog [jB] 116 (mem m s) [.bp jB 0, iv b.fin.f, ints b.fin.args] (.tup []) (mem m (Zcl m s b.fin.f b.fin.args))) :
    HG Tryz.prog [jB] 64 (mem m s) [.bp jB 0] (.tup []) (mem m (Zcl m s b.fin.f b.fin.args)) := by
  refine Za9 tok Tryz.func64 rfl (by decide +kernel) (Nat.le_of_ble_eq_true rfl) ?_
  have hmx : maxL = 4294967296 := rfl
  have hft : s.stack.getD (s.stack.length - 1) default = f := hf
  have hT := Zf8 m s h (by omega)
  have hB := Zdn m s (s.stack.length - 1) (by omega) (by rw [hft]; exact hF)
  rw [hft] at hB
  have hE : f.at_ = (Zaq m f).ins.length := of_decide_eq_true he
  have a0 := hF.a0
  have a1 := hF.a1
  rw [hbe] at hB hE a1
  (repeat' ((fail_if_success (show AWp _ _ _ (Code.region 0 _ _) _ _)); refine Zac ?_))
  (repeat' (refine Zab tok (by rfl) ?_; conv => whnf))
  refine .inr ⟨_, _, _, uG (QH.tnM (by simp) (by simp) hT h32 (Za3 rfl rfl rfl rfl (fun _ => rfl)) rfl (fun q hq => Zao hq)), ?_⟩
  conv => whnf
  (repeat' ((fail_if_success (show AWp _ _ _ (Code.region 1 _ _) _ _)); refine Zac ?_))
  (repeat' (refine Zab tok (by rfl) ?_; conv => whnf))
  refine .inr ⟨_, _, _, uG (QH.tnM (by simp) (by simp) hB h32 (Za3 rfl rfl rfl rfl (fun _ => Zbv (fun hq => Zao (by omega)))) rfl (fun q hq => (Zbv (fun hq => Zao (by omega))).trans (Zao hq))), ?_⟩
  conv => whnf
  ((repeat' ((fail_if_success (show AWp _ _ _ (Code.region 3 _ _) _ _)); (fail_if_success (show AWp _ _ _ (Code.region 5 _ _) _ _)); first | refine Zac ?_ | (refine Zar tok mix (by rfl) ?_; conv => whnf) | (refine Zag ?_; conv => whnf) | refine Zaf rfl (fun hb => ?_) (fun hb => ?_) | (refine @And.intro (Zaa _ _ _ _) _ ?_ ?_; rotate_left; (conv => whnf); rotate_right))); all_goals (try ((guard_target = Zaa _ _ _ _); refine Zae ?_; (all_goals (try simp only [Zaa, kzz, kz11, kz12, maxL, Zad] at *)); all_goals omega)))
  · exfalso
    rw [hft] at hb
    simp only [decide_eq_true_eq] at hb
    omega
  clear hb
  refine Zay (Weak.fam (L := [jB]) (tl := [(0, .bp jB 0), (2, .rp jN 5 (s.stack.length - 1) 0), (3, .bp (3, 0, 0) 0)]) (hl := [((3, 0, 0), Za4 (Za6 b))] ++ memNL m s) (F := famW s.stack) [(jN, some jF)] rfl (fun c hc => ?_) ?_ ?_ ?_ (fun i hi _ => by rw [List.mem_singleton.1 hi]; exact ⟨rfl, rfl⟩)) ?_
  · rw [List.mem_singleton.1 (show c ∈ [jF] from hc)]; exact .inl rfl
  · exact .cons (.bp rfl rfl) (.cons (.rp rfl rfl rfl) (.cons (.bp rfl rfl) .nil))
  · refine .old rfl rfl (GB.one (GVs.imm rfl) (fun _ => rfl)) ?_
    exact HLs_memN rfl rfl rfl rfl (fun _ => rfl) rfl rfl rfl rfl rfl rfl rfl rfl (fun q hq => Zcx hq)
  · exact Zgq (fun _ _ => rfl) (fun q hq => Zbf hq)
  have hle : s.stack.length - 1 < s.stack.length := by omega
  (repeat' ((fail_if_success (show AWp _ _ _ (Code.region 8 _ _) _ _)); (fail_if_success (show AWp _ _ _ (Code.region 9 _ _) _ _)); first | refine Zac ?_ | (refine Zab tok (by rfl) ?_; conv => whnf) | refine Zah ?_ | refine Zaf rfl (fun hb => ?_) (fun hb => ?_)))
  · exfalso; simp only [decide_eq_true_eq] at hb; omega
  clear hb
  (repeat' ((fail_if_success (show AWp _ _ _ (Code.region 10 _ _) _ _)); (fail_if_success (show AWp _ _ _ (Code.region 11 _ _) _ _)); first | refine Zac ?_ | (refine Zab tok (by rfl) ?_; conv => whnf) | refine Zaf rfl (fun hb => ?_) (fun hb => ?_)))
  · exfalso; simp only [decide_eq_true_eq] at hb; omega
  clear hb
  (repeat' ((fail_if_success (show AWp _ _ _ (Code.region 12 _ _) _ _)); (fail_if_success (show AWp _ _ _ (Code.region 16 _ _) _ _)); first | refine Zac ?_ | (refine Zab tok (by rfl) ?_; conv => whnf) | refine Zaf rfl (fun hb => ?_) (fun hb => ?_)))
  · exfalso; simp only [decide_eq_true_eq] at hb; omega
  clear hb
  (repeat' ((fail_if_success (show AWp _ _ _ (Code.region 17 _ _) _ _)); (fail_if_success (show AWp _ _ _ (Code.region 18 _ _) _ _)); first | refine Zac ?_ | (refine Zab tok (by rfl) ?_; conv => whnf) | refine Zaf rfl (fun hb => ?_) (fun hb => ?_)))
  rotate_left
  · exfalso; simp only [decide_eq_false_iff_not] at hb; omega
  clear hb
  have hc' := renN' hc (.cons (.bp rfl rfl) (.cons (.imm rfl) (.cons (.imm rfl) .nil)))
  (repeat' (refine Zab tok (by rfl) ?_; conv => whnf))
  refine .inr ⟨_, _, _, uG (QH.ddM (by simp) hc' h32 (memN_sub rfl rfl rfl rfl (fun _ => rfl)) rfl rfl (fun q hq => Zao hq)), ?_⟩
  conv => whnf
  skip
  refine ⟨_, srcL [], rfl, ?_⟩
  rw [← and_assoc]
  exact ⟨Zdv (s := Zcl m s b.fin.f b.fin.args) rfl rfl rfl (Zcr rfl rfl rfl) rfl rfl rfl (fun q hq => Zbf hq), .tup .nil, fun i hi hp => Zc3 i (by rw [List.mem_singleton.1 hi]; exact .head _) hp⟩
end Go.Proofs.YtoelbgjpmpoolaaGreat
namespace Go.Proofs.YtoelbgjpmpoolaaGreat
open Go Dv
set_option maxRecDepth 10000
set_option linter.unusedSimpArgs false
set_option maxHeartbeats 4000000 in
theorem c_mStep2 (m : Zaj) (s : Mach) (f : Zax) (b : Zbk) (hf : topF s = f) (hbe : Zaq m f = b) (h : 0 < s.stack.length) (h32 : s.stack.length ≤ 32) (hF : OkF m f) (he : endB m f = true) (hk : b.fin.kind = 2) :
    HG Tryz.prog [jB] 64 (mem m s) [.bp jB 0] (.tup []) (mem m (Zb6 s (goF b f))) := by
  refine Za9 tok Tryz.func64 rfl (by decide +kernel) (Nat.le_of_ble_eq_true rfl) ?_
  have hmx : maxL = 4294967296 := rfl
  have hft : s.stack.getD (s.stack.length - 1) default = f := hf
  have hT := Zf8 m s h (by omega)
  have hB := Zdn m s (s.stack.length - 1) (by omega) (by rw [hft]; exact hF)
  rw [hft] at hB
  have hE : f.at_ = (Zaq m f).ins.length := of_decide_eq_true he
  have a0 := hF.a0
  have a1 := hF.a1
  rw [hbe] at hB hE a1
  (repeat' ((fail_if_success (show AWp _ _ _ (Code.region 0 _ _) _ _)); refine Zac ?_))
  (repeat' (refine Zab tok (by rfl) ?_; conv => whnf))
  refine .inr ⟨_, _, _, uG (QH.tnM (by simp) (by simp) hT h32 (Za3 rfl rfl rfl rfl (fun _ => rfl)) rfl (fun q hq => Zao hq)), ?_⟩
  conv => whnf
  (repeat' ((fail_if_success (show AWp _ _ _ (Code.region 1 _ _) _ _)); refine Zac ?_))
  (repeat' (refine Zab tok (by rfl) ?_; conv => whnf))
  refine .inr ⟨_, _, _, uG (QH.tnM (by simp) (by simp) hB h32 (Za3 rfl rfl rfl rfl (fun _ => Zbv (fun hq => Zao (by omega)))) rfl (fun q hq => (Zbv (fun hq => Zao (by omega))).trans (Zao hq))), ?_⟩
  conv => whnf
  ((repeat' ((fail_if_success (show AWp _ _ _ (Code.region 3 _ _) _ _)); (fail_if_success (show AWp _ _ _ (Code.region 5 _ _) _ _)); first | refine Zac ?_ | (refine Zar tok mix (by rfl) ?_; conv => whnf) | (refine Zag ?_; conv => whnf) | refine Zaf rfl (fun hb => ?_) (fun hb => ?_) | (refine @And.intro (Zaa _ _ _ _) _ ?_ ?_; rotate_left; (conv => whnf); rotate_right))); all_goals (try ((guard_target = Zaa _ _ _ _); refine Zae ?_; (all_goals (try simp only [Zaa, kzz, kz11, kz12, maxL, Zad] at *)); all_goals omega)))
  · exfalso
    rw [hft] at hb
    simp only [decide_eq_true_eq] at hb
    omega
  clear hb
  refine Zay (weakW (m := m) (s := s) (L := [jB]) (tl := [(0, .bp jB 0), (2, .rp jF 5 (s.stack.length - 1) 0), (3, .bp (3, 0, 0) 0)]) (el := [((3, 0, 0), Za4 (Za6 b))]) ?_ ?_ (fun q hq => Zbf hq) (fun i hi _ => by rw [List.mem_singleton.1 hi]; exact ⟨rfl, rfl⟩)) ?_
  · exact .cons (.bp rfl rfl) (.cons (.rp rfl rfl rfl) (.cons (.bp rfl rfl) .nil))
  · exact .old rfl rfl (GB.one (GVs.imm rfl) (fun _ => rfl)) (Zcv rfl rfl rfl rfl (fun _ => rfl) rfl rfl rfl rfl rfl rfl rfl (fun q hq => Zcx hq))
  have hle : s.stack.length - 1 < s.stack.length := by omega
  (repeat' ((fail_if_success (show AWp _ _ _ (Code.region 8 _ _) _ _)); (fail_if_success (show AWp _ _ _ (Code.region 9 _ _) _ _)); first | refine Zac ?_ | (refine Zab tok (by rfl) ?_; conv => whnf) | refine Zah ?_ | refine Zaf rfl (fun hb => ?_) (fun hb => ?_)))
  · exfalso; simp only [decide_eq_true_eq] at hb; omega
  clear hb
  (repeat' ((fail_if_success (show AWp _ _ _ (Code.region 10 _ _) _ _)); (fail_if_success (show AWp _ _ _ (Code.region 11 _ _) _ _)); first | refine Zac ?_ | (refine Zab tok (by rfl) ?_; conv => whnf) | refine Zaf rfl (fun hb => ?_) (fun hb => ?_)))
  rotate_left
  · exfalso; simp only [decide_eq_false_iff_not] at hb; omega
  clear hb
  have hG := c_Go (topF s) b.fin.to
  have hGo : goF b f = { topF s with block := b.fin.to, at_ := 0 } := by unfold goF; rw [if_neg (fun e => by omega), hf]
  refine Ze4 tok mix (by rfl) [0, 1, 2, 3, 4, 5, 7] 30 (by rfl) (by rfl) (by rfl) ?_
  conv => whnf
  (repeat' first
    | (refine fAV (x := Zbo s.stack (s.stack.length - 1)) (y := .rs jT 1 0 (topF s).regs.length) (Zbh h rfl) ?_; (conv => whnf))
    | (refine @And.intro (Zaa _ _ _ _) _ ?_ ?_; rotate_left; (conv => whnf); rotate_right)
    | (guard_target = And _ _; refine @And.intro (gOp _ _ _ _ _ _ _ _ _) _ (by (conv => whnf); first | exact ⟨rfl, rfl⟩ | (refine fAV (x := Zbo s.stack (s.stack.length - 1)) (y := .rs jT 1 0 (topF s).regs.length) (Zbh h rfl) ?_; (conv => whnf); exact ⟨rfl, rfl⟩)) ?_; conv => whnf)
    | (guard_target = And _ _; refine And.intro ?_ ?_ <;> (conv => whnf)))
  all_goals (try ((guard_target = Zaa _ _ _ _); refine Zae ?_; (all_goals (try simp only [Zaa, kzz, kz11, kz12, maxL, Zad] at *)); all_goals omega))
  all_goals (try (show AV.agg [_, _, _, Zbo s.stack (s.stack.length - 1), _] = AV.agg [_, _, _, .rs jT 1 0 (topF s).regs.length, _]; rw [Zbh h rfl]; done))
  refine .inr ⟨_, _, _, uG (QH.lendF (rd := [jT]) hG (.cons (.agg (.cons (.imm rfl) (.cons (.imm rfl) (.cons (.imm rfl) (.cons (.row rfl (.head _) rfl rfl (fun q hq => rfl)) (.cons (.imm rfl) .nil)))))) (.cons (.imm rfl) .nil)) (fun i hi => by rw [Zdi hi]; rfl) rfl (fun j b e => by
    obtain ⟨rfl, rfl⟩ := lendOne j b e
    exact fun i hi => rfl)), ?_⟩
  conv => whnf
  (repeat' first
    | (refine fAV (x := Zbo s.stack (s.stack.length - 1)) (y := .rs jT 1 0 (topF s).regs.length) (Zbh h rfl) ?_; (conv => whnf))
    | (refine @And.intro (Zaa _ _ _ _) _ ?_ ?_; rotate_left; (conv => whnf); rotate_right)
    | (guard_target = And _ _; refine @And.intro (gOp _ _ _ _ _ _ _ _ _) _ (by (conv => whnf); first | exact ⟨rfl, rfl⟩ | (refine fAV (x := Zbo s.stack (s.stack.length - 1)) (y := .rs jT 1 0 (topF s).regs.length) (Zbh h rfl) ?_; (conv => whnf); exact ⟨rfl, rfl⟩)) ?_; conv => whnf)
    | (guard_target = And _ _; refine And.intro ?_ ?_ <;> (conv => whnf)))
  all_goals (try ((guard_target = Zaa _ _ _ _); refine Zae ?_; (all_goals (try simp only [Zaa, kzz, kz11, kz12, maxL, Zad] at *)); all_goals omega))
  all_goals (try (show AV.agg [_, _, _, Zbo s.stack (s.stack.length - 1), _] = AV.agg [_, _, _, .rs jT 1 0 (topF s).regs.length, _]; rw [Zbh h rfl]; done))
  skip
  refine ⟨_, srcT jE r0, rfl, ?_⟩
  rw [← and_assoc]
  refine ⟨leaveG (s := s) (g := { topF s with block := b.fin.to, at_ := 0 }) (n' := s.stack.length) h (by rw [hGo]) rfl (.inr (.inl rfl)) (.inl rfl) rfl ?_ rfl (Nat.le_refl _) (fun q hq => ?_) ?_ rfl (Zes _) rfl (Zb3 _) (fun q hq => ?_), .tup .nil, fun i hi hp => keepT i (by rw [List.mem_singleton.1 hi]; exact .head _) hp⟩
  · exact Zer (s := Zb6 s (goF b f)) (Zdl (s := s) h).symm rfl rfl rfl rfl
  · exact Zc8 (by omega)
  · exact Zdy
  · refine Zff (d := []) (u := oneR (topF s).regs) rfl rfl ?_
    exact Za5 hq
set_option maxHeartbeats 4000000 in
theorem c_mStep3 (m : Zaj) (s : Mach) (f : Zax) (b : Zbk) (hf : topF s = f) (hbe : Zaq m f = b) (h : 0 < s.stack.length) (h32 : s.stack.length ≤ 32) (hF : OkF m f) (he : endB m f = true) (hk : b.fin.kind = 3) (ha : 0 ≤ b.fin.a ∧ b.fin.a < f.regs.length) :
    HG Tryz.prog [jB] 64 (mem m s) [.bp jB 0] (.tup []) (mem m (Zb6 s (goF b f))) := by
  refine Za9 tok Tryz.func64 rfl (by decide +kernel) (Nat.le_of_ble_eq_true rfl) ?_
  have hmx : maxL = 4294967296 := rfl
  have hft : s.stack.getD (s.stack.length - 1) default = f := hf
  have hT := Zf8 m s h (by omega)
  have hB := Zdn m s (s.stack.length - 1) (by omega) (by rw [hft]; exact hF)
  rw [hft] at hB
  have hE : f.at_ = (Zaq m f).ins.length := of_decide_eq_true he
  have a0 := hF.a0
  have a1 := hF.a1
  rw [hbe] at hB hE a1
  (repeat' ((fail_if_success (show AWp _ _ _ (Code.region 0 _ _) _ _)); refine Zac ?_))
  (repeat' (refine Zab tok (by rfl) ?_; conv => whnf))
  refine .inr ⟨_, _, _, uG (QH.tnM (by simp) (by simp) hT h32 (Za3 rfl rfl rfl rfl (fun _ => rfl)) rfl (fun q hq => Zao hq)), ?_⟩
  conv => whnf
  (repeat' ((fail_if_success (show AWp _ _ _ (Code.region 1 _ _) _ _)); refine Zac ?_))
  (repeat' (refine Zab tok (by rfl) ?_; conv => whnf))
  refine .inr ⟨_, _, _, uG (QH.tnM (by simp) (by simp) hB h32 (Za3 rfl rfl rfl rfl (fun _ => Zbv (fun hq => Zao (by omega)))) rfl (fun q hq => (Zbv (fun hq => Zao (by omega))).trans (Zao hq))), ?_⟩
  conv => whnf
  ((repeat' ((fail_if_success (show AWp _ _ _ (Code.region 3 _ _) _ _)); (fail_if_success (show AWp _ _ _ (Code.region 5 _ _) _ _)); first | refine Zac ?_ | (refine Zar tok mix (by rfl) ?_; conv => whnf) | (refine Zag ?_; conv => whnf) | refine Zaf rfl (fun hb => ?_) (fun hb => ?_) | (refine @And.intro (Zaa _ _ _ _) _ ?_ ?_; rotate_left; (conv => whnf); rotate_right))); all_goals (try ((guard_target = Zaa _ _ _ _); refine Zae ?_; (all_goals (try simp only [Zaa, kzz, kz11, kz12, maxL, Zad] at *)); all_goals omega)))
  · exfalso
    rw [hft] at hb
    simp only [decide_eq_true_eq] at hb
    omega
  clear hb
  refine Zay (weakW (m := m) (s := s) (L := [jB]) (tl := [(0, .bp jB 0), (2, .rp jF 5 (s.stack.length - 1) 0), (3, .bp (3, 0, 0) 0)]) (el := [((3, 0, 0), Za4 (Za6 b))]) ?_ ?_ (fun q hq => Zbf hq) (fun i hi _ => by rw [List.mem_singleton.1 hi]; exact ⟨rfl, rfl⟩)) ?_
  · exact .cons (.bp rfl rfl) (.cons (.rp rfl rfl rfl) (.cons (.bp rfl rfl) .nil))
  · exact .old rfl rfl (GB.one (GVs.imm rfl) (fun _ => rfl)) (Zcv rfl rfl rfl rfl (fun _ => rfl) rfl rfl rfl rfl rfl rfl rfl (fun q hq => Zcx hq))
  have hle : s.stack.length - 1 < s.stack.length := by omega
  (repeat' ((fail_if_success (show AWp _ _ _ (Code.region 8 _ _) _ _)); (fail_if_success (show AWp _ _ _ (Code.region 9 _ _) _ _)); first | refine Zac ?_ | (refine Zab tok (by rfl) ?_; conv => whnf) | refine Zah ?_ | refine Zaf rfl (fun hb => ?_) (fun hb => ?_)))
  · exfalso; simp only [decide_eq_true_eq] at hb; omega
  clear hb
  (repeat' ((fail_if_success (show AWp _ _ _ (Code.region 10 _ _) _ _)); (fail_if_success (show AWp _ _ _ (Code.region 11 _ _) _ _)); first | refine Zac ?_ | (refine Zab tok (by rfl) ?_; conv => whnf) | refine Zaf rfl (fun hb => ?_) (fun hb => ?_)))
  · exfalso; simp only [decide_eq_true_eq] at hb; omega
  clear hb
  (repeat' ((fail_if_success (show AWp _ _ _ (Code.region 12 _ _) _ _)); (fail_if_success (show AWp _ _ _ (Code.region 16 _ _) _ _)); first | refine Zac ?_ | (refine Zab tok (by rfl) ?_; conv => whnf) | refine Zaf rfl (fun hb => ?_) (fun hb => ?_)))
  rotate_left
  · exfalso; simp only [decide_eq_false_iff_not] at hb; omega
  clear hb
  have haa : b.fin.a.toNat < (topF s).regs.length := by rw [hf]; omega
  ((repeat' first | refine Zac ?_ | (refine Zab tok (by rfl) ?_; conv => whnf) | (refine Zar tok mix (by rfl) ?_; conv => whnf) | (refine @And.intro (Zaa _ _ _ _) _ ?_ ?_; rotate_left; (conv => whnf); rotate_right)); all_goals (try ((guard_target = Zaa _ _ _ _); refine Zae ?_; (all_goals (try simp only [Zaa, kzz, kz11, kz12, maxL, Zad] at *)); all_goals omega)))
  refine fAV (x := Zbo s.stack (s.stack.length - 1)) (y := .rs jT 1 0 (topF s).regs.length) (Zbh h rfl) ?_
  conv => whnf
  ((repeat' ((fail_if_success (show AWp _ _ _ (Code.region 14 _ _) _ _)); (fail_if_success (show AWp _ _ _ (Code.region 15 _ _) _ _)); first | (refine Zag ?_; conv => whnf) | refine Zaf rfl (fun hb => ?_) (fun hb => ?_) | (refine @And.intro (Zaa _ _ _ _) _ ?_ ?_; rotate_left; (conv => whnf); rotate_right))); all_goals (try ((guard_target = Zaa _ _ _ _); refine Zae ?_; (all_goals (try simp only [Zaa, kzz, kz11, kz12, maxL, Zad] at *)); all_goals omega)))
  · have hz : ¬ regA f b.fin.a = 0 := by
      unfold regA
      rw [Nat.zero_add, hf] at hb
      simpa using hb
    clear hb
    have hG := c_Go (topF s) b.fin.to
    have hGo : goF b f = { topF s with block := b.fin.to, at_ := 0 } := by unfold goF; rw [if_neg (fun e => hz e.2), hf]
    ((repeat' first | (refine Zab tok (by rfl) ?_; conv => whnf) | (refine @And.intro (Zaa _ _ _ _) _ ?_ ?_; rotate_left; (conv => whnf); rotate_right)); all_goals (try ((guard_target = Zaa _ _ _ _); refine Zae ?_; (all_goals (try simp only [Zaa, kzz, kz11, kz12, maxL, Zad] at *)); all_goals omega)))
    refine fAV (x := Zbo s.stack (s.stack.length - 1)) (y := .rs jT 1 0 (topF s).regs.length) (Zbh h rfl) ?_
    conv => whnf
    skip
    refine .inr ⟨_, _, _, uG (QH.lendF (rd := [jT]) hG (.cons (.agg (.cons (.imm rfl) (.cons (.imm rfl) (.cons (.imm rfl) (.cons (.row rfl (.head _) rfl rfl (fun q hq => rfl)) (.cons (.imm rfl) .nil)))))) (.cons (.imm rfl) .nil)) (fun i hi => by rw [Zdi hi]; rfl) rfl (fun j b e => by
      obtain ⟨rfl, rfl⟩ := lendOne j b e
      exact fun i hi => rfl)), ?_⟩
    conv => whnf
    ((repeat' (refine @And.intro (Zaa _ _ _ _) _ ?_ ?_; rotate_left; (conv => whnf); rotate_right)); all_goals (try ((guard_target = Zaa _ _ _ _); refine Zae ?_; (all_goals (try simp only [Zaa, kzz, kz11, kz12, maxL, Zad] at *)); all_goals omega)))
    refine ⟨_, srcT jE r0, rfl, ?_⟩
    rw [← and_assoc]
    refine ⟨leaveG (s := s) (g := { topF s with block := b.fin.to, at_ := 0 }) (n' := s.stack.length) h (by rw [hGo]) rfl (.inr (.inl rfl)) (.inl rfl) rfl ?_ rfl (Nat.le_refl _) (fun q hq => ?_) ?_ rfl (Zes _) rfl (Zb3 _) (fun q hq => ?_), .tup .nil, fun i hi hp => keepT i (by rw [List.mem_singleton.1 hi]; exact .head _) hp⟩
    · exact Zer (s := Zb6 s (goF b f)) (Zdl (s := s) h).symm rfl rfl rfl rfl
    · exact Zc8 (by omega)
    · exact Zdy
    · refine Zff (d := []) (u := oneR (topF s).regs) rfl rfl ?_
      exact Za5 hq
  · have hz : regA f b.fin.a = 0 := by
      unfold regA
      rw [Nat.zero_add, hf] at hb
      simpa using hb
    clear hb
    have hG := c_Go (topF s) b.fin.els
    have hGo : goF b f = { topF s with block := b.fin.els, at_ := 0 } := by unfold goF; rw [if_pos ⟨hk, hz⟩, hf]
    ((repeat' first | (refine Zab tok (by rfl) ?_; conv => whnf) | (refine @And.intro (Zaa _ _ _ _) _ ?_ ?_; rotate_left; (conv => whnf); rotate_right)); all_goals (try ((guard_target = Zaa _ _ _ _); refine Zae ?_; (all_goals (try simp only [Zaa, kzz, kz11, kz12, maxL, Zad] at *)); all_goals omega)))
    refine fAV (x := Zbo s.stack (s.stack.length - 1)) (y := .rs jT 1 0 (topF s).regs.length) (Zbh h rfl) ?_
    conv => whnf
    skip
    refine .inr ⟨_, _, _, uG (QH.lendF (rd := [jT]) hG (.cons (.agg (.cons (.imm rfl) (.cons (.imm rfl) (.cons (.imm rfl) (.cons (.row rfl (.head _) rfl rfl (fun q hq => rfl)) (.cons (.imm rfl) .nil)))))) (.cons (.imm rfl) .nil)) (fun i hi => by rw [Zdi hi]; rfl) rfl (fun j b e => by
      obtain ⟨rfl, rfl⟩ := lendOne j b e
      exact fun i hi => rfl)), ?_⟩
    conv => whnf
    ((repeat' (refine @And.intro (Zaa _ _ _ _) _ ?_ ?_; rotate_left; (conv => whnf); rotate_right)); all_goals (try ((guard_target = Zaa _ _ _ _); refine Zae ?_; (all_goals (try simp only [Zaa, kzz, kz11, kz12, maxL, Zad] at *)); all_goals omega)))
    refine ⟨_, srcT jE r0, rfl, ?_⟩
    rw [← and_assoc]
    refine ⟨leaveG (s := s) (g := { topF s with block := b.fin.els, at_ := 0 }) (n' := s.stack.length) h (by rw [hGo]) rfl (.inr (.inl rfl)) (.inl rfl) rfl ?_ rfl (Nat.le_refl _) (fun q hq => ?_) ?_ rfl (Zes _) rfl (Zb3 _) (fun q hq => ?_), .tup .nil, fun i hi hp => keepT i (by rw [List.mem_singleton.1 hi]; exact .head _) hp⟩
    · exact Zer (s := Zb6 s (goF b f)) (Zdl (s := s) h).symm rfl rfl rfl rfl
    · exact Zc8 (by omega)
    · exact Zdy
    · refine Zff (d := []) (u := oneR (topF s).regs) rfl rfl ?_
      exact Za5 hq
end Go.Proofs.YtoelbgjpmpoolaaGreat
namespace Go.Proofs.YtoelbgjpmpoolaaGreat
open Go Dv
set_option maxRecDepth 10000
set_option linter.unusedSimpArgs false
theorem withM_two {s : Mach} {f g : Zax} (h : 0 < s.stack.length) : Zb6 (Zb6 s f) g = Zb6 s g := by
  unfold Zb6
  simp only [List.length_append, List.length_take, List.length_singleton]
  congr 2
  rw [List.take_append, List.take_take, List.length_take]
  have e1 : min (s.stack.length - 1) s.stack.length = s.stack.length - 1 := by omega
  rw [e1]
  have e2 : s.stack.length - 1 + 1 - 1 - (s.stack.length - 1) = 0 := by omega
  rw [e2]
  have e3 : min (s.stack.length - 1 + 1 - 1) (s.stack.length - 1) = s.stack.length - 1 := by omega
  rw [e3]; simp
theorem top_withM {s : Mach} {f : Zax} (h : 0 < s.stack.length) : topF (Zb6 s f) = f := by
  unfold topF; rw [with_len h]; exact with_top h
abbrev HGstep (m : Zaj) (s s1 : Mach) : Prop := HG Tryz.prog [jB] 64 (mem m s) [.bp jB 0] (.tup []) (mem m s1)
theorem c_mStepI {m : Zaj} {s : Mach} (hr : Zbj m = true) (h : OkM m s) (hp : 0 < s.stack.length) (hev : s.events.length < 1000000) (he : endB m (topF s) = false) : HGstep m s (insM m s (topF s) (Zbg m (topF s))) := by
  have hF := h.fr _ (Zfs hp)
  have hI := (Zgn hr hF he).2
  have h64 := (Zft hr hF).1
  have a0 := hF.a0
  have a1 := hF.a1
  have hR := hF.regs
  have hl := h.len
  have no8 : ∀ n, 8 < n → (Zbg m (topF s)).op = n → ¬ (Zbg m (topF s)).op ≤ 8 := fun n _ e => by omega
  have r8 : ∀ (h1 : 1 ≤ (Zbg m (topF s)).op) (h8 : (Zbg m (topF s)).op ≤ 8) (hd : 0 ≤ (Zbg m (topF s)).dst ∧ (Zbg m (topF s)).dst < (topF s).regs.length) (ha : 1 < (Zbg m (topF s)).op → 0 ≤ (Zbg m (topF s)).a ∧ (Zbg m (topF s)).a < (topF s).regs.length) (hb' : 2 < (Zbg m (topF s)).op → 0 ≤ (Zbg m (topF s)).b ∧ (Zbg m (topF s)).b < (topF s).regs.length), HGstep m s (insM m s (topF s) (Zbg m (topF s))) := fun h1 h8 hd ha hb' =>
    c_mStepF m s _ (topF s) rfl hp hl hF he (c_mIns8 m s (topF s) (Zbg m (topF s)) rfl hp hl a0 (by omega) h1 h8 hd ha hb')
  have run : ∀ s1 g, s1.stack.length = s.stack.length → HG Tryz.prog LW 113 (mem m s) [.bp jB 0, .rp jF 5 (s.stack.length - 1) 0, .agg (Zba (Zbg m (topF s)))] (.bool true) (mem m s1) → topF s1 = g → g.at_ = (topF s).at_ → HGstep m s (Zb6 s1 (goOn g)) := fun s1 g e hc e2 e3 => by
    subst e2
    exact c_mStepT m s s1 (topF s) rfl hp hl hF he e (by omega) (by omega) hc
  rcases hI with h1 | h1 | h1 | h1 | h1 | h1 | h1
  · have hd := (Zad _ _).1 h1.2.1
    exact r8 (by omega) (by omega) (by rw [hR]; exact hd) (fun h => by omega) (fun h => by omega)
  · have hd := (Zad _ _).1 h1.2.1
    have ha := (Zad _ _).1 h1.2.2.1
    rcases h1.1 with ho | ho
    · exact r8 (by omega) (by omega) (by rw [hR]; exact hd) (fun h => by rw [hR]; exact ha) (fun h => by omega)
    · have hM : insM m s (topF s) (Zbg m (topF s)) = if 16 ≤ (topF s).regs.getD (Zbg m (topF s)).a.toNat 0 then endM s 4 0 else Zb6 s (goOn (frW (topF s) (Zbg m (topF s)).dst (s.cells.getD (cellN (topF s) (Zbg m (topF s))) 0))) := by
        unfold insM; rw [if_neg (by omega), if_neg (by omega), if_pos ho]
      rw [hM]
      split
      · rename_i h16
        exact c_mStepF m s _ (topF s) rfl hp hl hF he (c_mIns9n m s (Zbg m (topF s)) ho hp hl (by rw [hR]; exact ha) h16)
      · rename_i h16
        have := run _ _ (with_len hp) (c_mIns9y m s (Zbg m (topF s)) _ ho hp hl (by rw [hR]; exact ha) (by rw [hR]; exact hd) (by omega) rfl) (top_withM hp) rfl
        rw [withM_two hp] at this
        exact this
  · have hd := (Zad _ _).1 h1.2.1
    have ha := (Zad _ _).1 h1.2.2.1
    have hb := (Zad _ _).1 h1.2.2.2.1
    exact r8 (by omega) (by omega) (by rw [hR]; exact hd) (fun h => by rw [hR]; exact ha) (fun h => by rw [hR]; exact hb)
  · have ho := h1.1
    have ha := (Zad _ _).1 h1.2.2.1
    have hb := (Zad _ _).1 h1.2.2.2.1
    have hM : insM m s (topF s) (Zbg m (topF s)) = if 16 ≤ (topF s).regs.getD (Zbg m (topF s)).a.toNat 0 then endM s 4 0 else Zb6 (stM s (cellN (topF s) (Zbg m (topF s))) ((topF s).regs.getD (Zbg m (topF s)).b.toNat 0)) (goOn (topF s)) := by
      unfold insM; rw [if_neg (by omega), if_neg (by omega), if_neg (by omega), if_pos ho]; rfl
    rw [hM]
    split
    · rename_i h16
      exact c_mStepF m s _ (topF s) rfl hp hl hF he (c_mIns10n m s (Zbg m (topF s)) ho hp hl (by rw [hR]; exact ha) h16)
    · rename_i h16
      exact run _ _ rfl (c_mIns10y m s (Zbg m (topF s)) _ ho hp hl (by rw [hR]; exact ha) (by rw [hR]; exact hb) h.cells (by omega) rfl) rfl rfl
  · have hA := argsB_n h1.2.2.2.2.2
    have hM : insM m s (topF s) (Zbg m (topF s)) = Zcl m s (Zbg m (topF s)).f (Zbg m (topF s)).args := by unfold insM; rw [if_pos h1.1]
    rw [hM]
    exact c_mStepC m s _ (topF s) rfl hp hl hF he (c_mIns11 m s (Zbg m (topF s)) _ h1.1 hl (c_mCall m s _ _ hr hp hl hA.1.1 hA.1.2 hA.2.1 (fun p hp' => by rw [hR]; exact hA.2.2 p hp')))
  · have ho := h1.1
    have ha := (Zad _ _).1 h1.2.2.1
    have hM : insM m s (topF s) (Zbg m (topF s)) = Zb6 (evM s ((topF s).regs.getD (Zbg m (topF s)).a.toNat 0)) (goOn (topF s)) := by
      unfold insM; rw [if_neg (by omega), if_neg (by omega), if_neg (by omega), if_neg (by omega), if_pos ho]; rfl
    rw [hM]
    exact run _ _ rfl (c_mIns12 m s (Zbg m (topF s)) ho hp (by rw [hR]; exact ha) hev) rfl rfl
  · have ho := h1.1
    have hd := (Zad _ _).1 h1.2.1
    have hM : insM m s (topF s) (Zbg m (topF s)) = if s.inputs.length = 0 then endM s 6 0 else Zb6 (inM s) (goOn (frW (topF s) (Zbg m (topF s)).dst (s.inputs.getD 0 0))) := by
      unfold insM; rw [if_neg (by omega), if_neg (by omega), if_neg (by omega), if_neg (by omega), if_neg (by omega), if_pos ho]; rfl
    rw [hM]
    split
    · rename_i hz
      exact c_mStepF m s _ (topF s) rfl hp hl hF he (c_mIns13a m s (Zbg m (topF s)) ho hl hz)
    · rename_i hz
      have := run _ _ (with_len (s := inM s) hp) (c_mIns13b m s (Zbg m (topF s)) ho hp hz h.inp.2 (by rw [hR]; exact hd) hev) (top_withM (s := inM s) hp) rfl
      rw [withM_two (s := inM s) hp] at this
      exact this
theorem c_mStepOk {m : Zaj} {s : Mach} (hr : Zbj m = true) (h : OkM m s) (hev : s.events.length < 1000000) (hd : s.done = 0) : HGstep m s (Zeo m s) := by
  have hp := h.pos hd
  have hF := h.fr _ (Zfs hp)
  have hE := (Zft hr hF).2
  have hl := h.len
  have hR := hF.regs
  rw [show Zeo m s = stepE m s (topF s) (Zaq m (topF s)) from if_pos hd]
  unfold stepE
  cases he : endB m (topF s) with
  | false => rw [if_pos rfl]; exact c_mStepI hr h hp hev he
  | true =>
    rw [if_neg (by decide)]
    have hT : ∀ w, HG Tryz.prog LW 117 (mem m s) [.bp jB 0, .int .u16 w] (.tup []) (mem m (Zb7 m s w)) := fun w => c_mThr m s w hr hp hl (fun i hi => h.fr _ (Zcp _ hi))
    have hA : ∀ w, HG Tryz.prog LW 114 (mem m s) [.bp jB 0, .int .u16 w] (.tup []) (mem m (Zcb m s w)) := fun w => by
      refine c_mAns m s w hp hl (fun h2 => (Zgk h h2).1) (fun h2 => ?_) (fun h2 he => ?_) (fun h2 he => ?_)
      · have hF := (Zgk h h2).1
        have := (Zft hr hF).1
        have := hF.a1
        omega
      · exact ((callF_dst hr (Zgk h h2).1 (Zgk h h2).2).1 he).1
      · exact (callF_dst hr (Zgk h h2).1 (Zgk h h2).2).2 he
    have k1 := c_mStep1 m s (topF s) _ rfl rfl hp hl hF he
    have k2 := c_mStep2 m s (topF s) _ rfl rfl hp hl hF he
    have k3 := c_mStep3 m s (topF s) _ rfl rfl hp hl hF he
    have k4 := c_mStep4 m s (topF s) _ rfl rfl hp hl hF he
    have k5 := c_mStep5 m s (topF s) _ rfl rfl hp hl hF he
    have k6 := c_mStep6 m s (topF s) _ rfl rfl hp hl hF he
    rcases hE with e | e | e | e | e
    · rcases e.1 with e1 | e1
      · rw [if_pos e1]; exact k1 e1 (by rw [hR]; exact (Zad _ _).1 e.2.1) (hA _)
      · rw [if_neg (by omega), if_neg (by omega), if_pos e1]; exact k5 e1 (by rw [hR]; exact (Zad _ _).1 e.2.1) (hT _)
    · rw [if_neg (by omega), if_neg (by omega), if_neg (by omega), if_neg (by omega)]; exact k2 e.1
    · rw [if_neg (by omega), if_neg (by omega), if_neg (by omega), if_neg (by omega)]; exact k3 e.1 (by rw [hR]; exact (Zad _ _).1 e.2.1)
    · have hA := argsB_n e.2.2.2.1
      rw [if_neg (by omega), if_pos e.1]; exact k4 e.1 (c_mCall m s _ _ hr hp hl hA.1.1 hA.1.2 hA.2.1 (fun p hp' => by rw [hR]; exact hA.2.2 p hp'))
    · rw [if_neg (by omega), if_neg (by omega), if_neg (by omega), if_pos e.1]; exact k6 e.1 (hT _)
end Go.Proofs.YtoelbgjpmpoolaaGreat
namespace Go.Proofs.YtoelbgjpmpoolaaGreat
open Go Dv
set_option maxRecDepth 10000
set_option linter.unusedSimpArgs false
def newC (F : Dv.Id) (inputs : List Int) : List AV := [.rs F 5 0 1, .int .u16 0, .int .u16 0, .int .u16 0, .int .u16 0, .int .u16 0, .int .u16 0, .int .u16 0, .int .u16 0, .int .u16 0, .int .u16 0, .int .u16 0, .int .u16 0, .int .u16 0, .int .u16 0, .int .u16 0, .int .u16 0, u16s inputs, .nsl, iv 0, .int .u16 0]
def newL (m : Zaj) (inputs : List Int) : List (Dv.Id × Zam) := [(jN, Zdh (newM m inputs).stack), (jT, regB (frN m 0 []).regs)]
set_option maxHeartbeats 4000000 in
theorem c_mNew (m : Zaj) (inputs : List Int) (hr : Zbj m = true) : HF Tryz.prog 31 [.agg (Zbn m), u16s inputs] (.tup [.agg (newC jN inputs), iv 0]) (orH (Zaz (newL m inputs)) noH) := by
  refine Zfq tok Tryz.func31 rfl (by decide +kernel) (Nat.le_of_ble_eq_true rfl) ?_
  have hmx : maxL = 4294967296 := rfl
  have h0 := right0 hr
  have hN := c_fNew m 0 [] hr (by omega) (by omega) (by simp only [List.length_nil]; exact h0.2.symm)
  refine Zau 1 (fun hl => ?_)
  have hl0 : inputs.length ≤ maxL := hl.1
  clear hl
  (repeat' first | refine Zac ?_ | (refine Zab tok (by rfl) ?_; conv => whnf))
  refine .inr ⟨_, _, _, uG (QH.lendF (rd := []) hN (.cons (.imm rfl) (.cons (.imm rfl) (.cons .nsl .nil))) (fun i hi => by rw [Zdi hi]; rfl) rfl (fun j b e => by
    obtain ⟨rfl, rfl⟩ := lendOne j b e
    exact fun i hi => rfl)), ?_⟩
  conv => whnf
  (repeat' ((fail_if_success (show AWp _ _ _ (Code.region 3 _ _) _ _)); (fail_if_success (show AWp _ _ _ (Code.region 4 _ _) _ _)); first | refine Zac ?_ | (refine Zab tok (by rfl) ?_; conv => whnf) | (refine Zag ?_; conv => whnf) | refine Zaf rfl (fun hb => ?_) (fun hb => ?_)))
  · exfalso; cases hb
  clear hb
  refine Ze4 tok mix (by rfl) [0, 2] 30 (by rfl) (by rfl) (by rfl) ?_
  conv => whnf
  (repeat' first
    | (refine @And.intro (Zaa _ _ _ _) _ ?_ ?_; rotate_left; (conv => whnf); rotate_right)
    | (guard_target = And _ _; refine @And.intro (gOp _ _ _ _ _ _ _ _ _) _ (by (conv => whnf); exact ⟨rfl, rfl⟩) ?_; conv => whnf)
    | (guard_target = And _ _; refine And.intro ?_ ?_ <;> (conv => whnf))
    | (refine .inl ⟨_, _, _, uG (QC.fo (rd := []) (Zfd inputs) (Ress.imms rfl) (.inl rfl) rfl), ?_⟩; (conv => whnf)))
  all_goals (try ((guard_target = Zaa _ _ _ _); skip; all_goals omega))
  all_goals
    (repeat' (refine Zak ?_; conv => whnf))
    refine ⟨_, srcL [(jN, some (18, 0, 0)), (jT, some r0)], rfl, ?_⟩
    rw [← and_assoc]
    refine ⟨leaveR [(jN, some (18, 0, 0)), (jT, some r0)] rfl (fun c hc => ?_) (.old rfl rfl (GB.row (Nat.le_refl _) (fun q hq => ?_) (fun e => by cases e)) (.old rfl rfl (Zb3 _) .nil)) (fun j b e => by cases e), .tup (.cons (.agg (.cons (.rs rfl rfl rfl rfl) (.cons (.imm rfl) (.cons (.imm rfl) (.cons (.imm rfl) (.cons (.imm rfl) (.cons (.imm rfl) (.cons (.imm rfl) (.cons (.imm rfl) (.cons (.imm rfl) (.cons (.imm rfl) (.cons (.imm rfl) (.cons (.imm rfl) (.cons (.imm rfl) (.cons (.imm rfl) (.cons (.imm rfl) (.cons (.imm rfl) (.cons (.imm rfl) (.cons (GV.frz (fun j hj e => ?_) rfl (by omega) rfl (fun x hx => by rw [Nat.zero_add]; exact .cons (.imm rfl) .nil) (fun x hx => rfl)) (.cons (.imm rfl) (.cons (.imm rfl) (.cons (.imm rfl) .nil)))))))))))))))))))))) (.cons (.imm rfl) .nil))⟩
    · rcases List.mem_cons.1 (show c ∈ [(18, 0, 0), r0] from hc) with rfl | hc
      · exact .inl rfl
      · rw [List.mem_singleton.1 hc]; exact .inl rfl
    · have hq0 : q = 0 := by have : q < 1 := hq; omega
      subst hq0
      exact .cons (.imm rfl) (.cons (.imm rfl) (.cons (.imm rfl) (.cons (.cc rfl rfl (.rs rfl rfl rfl rfl)) (.cons (.imm rfl) .nil))))
    · cases e1 : idEq jN j with
      | true => rw [← Za1.1 e1] at e; cases e
      | false =>
        cases e2 : idEq jT j with
        | true => rw [← Za1.1 e2] at e; cases e
        | false =>
          have hj' : (orH (Zaz (newL m inputs)) noH j).isSome = true := hj
          unfold orH newL at hj'
          simp only [Zaz, e1, e2, cond_false, noH] at hj'
          cases hj'
end Go.Proofs.YtoelbgjpmpoolaaGreat
namespace Go.Proofs.YtoelbgjpmpoolaaGreat
open Go Dv
set_option maxRecDepth 10000
set_option linter.unusedSimpArgs false
theorem c_CloneFrames (l : List Zax) : FO Tryz.prog 78 [frs l] 5 l.length (fun i => Zbz (l.getD i default)) := by
  refine Zfr tok Tryz.func78 rfl (by decide +kernel) (Nat.le_of_ble_eq_true rfl) ?_
  refine Zau 0 (fun hl => ?_)
  have hl0 : l.length ≤ maxL := hl.1
  ((repeat' first | refine Zac ?_ | (refine Zab tok (by rfl) ?_; conv => whnf) | (refine Zag ?_; conv => whnf) | (refine Zak ?_; conv => whnf) | refine Zaf rfl (fun hb => ?_) (fun hb => ?_) | (refine @And.intro (Zaa _ _ _ _) _ ?_ ?_; rotate_left; (conv => whnf); rotate_right) | (refine fun (bn : Bool) (hbn : (0 < _ → bn = _)) => ?_; conv => whnf)); all_goals (try ((guard_target = Zaa _ _ _ _); refine Zae ?_; (first | refine And.intro Zfv ?_ | skip); (all_goals (try simp only [Zaa, kzz, kz11, kz12, maxL, Zad] at *)); all_goals omega)))
  · refine ⟨_, rfl, RelO.nsl' ?_⟩
    rcases Nat.eq_zero_or_pos l.length with h | h
    · exact h
    · rw [hbn h] at hb; cases hb
  · refine ⟨_, rfl, RelO.rs rfl (Nat.le_refl _) (by simp) (fun i hi => ?_)⟩
    show appR 0 (rowOf 5 []) (fun i => Zbz (l.getD i default)) i = _
    exact Zem
def famG (l : List Zax) (k : Nat) : Zan := famC 945 (fun z q => bif Nat.beq z 0 && Nat.blt q k then some (regB (l.getD q default).regs) else none)
theorem famG_some {l : List Zax} {k : Nat} {j : Dv.Id} {b : Zam} (h : famG l k j = some b) : ∃ q, j = (945, 0, q) ∧ q < k ∧ b = regB (l.getD q default).regs := by
  obtain ⟨z, q, rfl, h3⟩ := famC_some h
  cases e : (Nat.beq z 0 && Nat.blt q k) with
  | false => rw [e] at h3; cases h3
  | true =>
    rw [e] at h3
    rw [Bool.and_eq_true, Nat.blt_eq] at e
    have hz : z = 0 := Nat.eq_of_beq_eq_true e.1
    subst hz
    exact ⟨q, rfl, e.2, (Option.some.inj h3).symm⟩
theorem famG_at {l : List Zax} {k q : Nat} (h : q < k) : famG l k (945, 0, q) = some (regB (l.getD q default).regs) := by
  show (bif Nat.beq 0 0 && Nat.blt q k then some (regB (l.getD q default).regs) else none) = _
  rw [show (Nat.beq 0 0 && Nat.blt q k) = true from by rw [Bool.and_eq_true, Nat.blt_eq]; exact ⟨rfl, h⟩]; rfl
def cpR (l : List Zax) (i q : Nat) : AV := sel (Nat.blt q i) (.rs (945, 0, q) 1 0 (l.getD q default).regs.length) (u16s (l.getD q default).regs)
def cpF (l : List Zax) (i q : Nat) : List AV := [iv (l.getD q default).f, iv (l.getD q default).block, iv (l.getD q default).at_, cpR l i q, .int .u16 (l.getD q default).fly]
def rowCp (l : List Zax) (i : Nat) : Zam := .row false 5 l.length (cpF l i)
def cpB (F E : Dv.Id) (s : Mach) : List AV := [.rs F 5 0 s.stack.length, cw s.cells 0, cw s.cells 1, cw s.cells 2, cw s.cells 3, cw s.cells 4, cw s.cells 5, cw s.cells 6, cw s.cells 7, cw s.cells 8, cw s.cells 9, cw s.cells 10, cw s.cells 11, cw s.cells 12, cw s.cells 13, cw s.cells 14, cw s.cells 15, u16s s.inputs, .rs E 1 0 s.events.length, iv s.done, .int .u16 s.value]
def cpH (s : Mach) : Zan := orH (Zaz [(jN, rowCp s.stack s.stack.length), (jE, evB s.events)]) (famG s.stack s.stack.length)
theorem GVs_cpB {src : Dv.Id → Option Dv.Id} {h h' : Zan} {F F' E E' : Dv.Id} {s : Mach} (h1 : GV src h h' (.rs F 5 0 s.stack.length) (.rs F' 5 0 s.stack.length)) (h2 : GV src h h' (.rs E 1 0 s.events.length) (.rs E' 1 0 s.events.length)) : GVs src h h' (cpB F E s) (cpB F' E' s) :=
  .cons h1 (.cons (.imm rfl) (.cons (.imm rfl) (.cons (.imm rfl) (.cons (.imm rfl) (.cons (.imm rfl) (.cons (.imm rfl) (.cons (.imm rfl) (.cons (.imm rfl) (.cons (.imm rfl) (.cons (.imm rfl) (.cons (.imm rfl) (.cons (.imm rfl) (.cons (.imm rfl) (.cons (.imm rfl) (.cons (.imm rfl) (.cons (.imm rfl) (.cons (.imm rfl) (.cons h2 (.cons (.imm rfl) (.cons (.imm rfl) .nil))))))))))))))))))))
theorem srcG_eq {k k' : Nat} {o : Option Dv.Id} : srcL [((945, k', k), o)] (945, k', k) = o := by
  show (bif idEq (945, k', k) (945, k', k) then _ else _) = _
  rw [Za1.2 rfl]; rfl
theorem srcG_ne {k q : Nat} {o : Option Dv.Id} (h : q ≠ k) : srcL [((945, 0, k), o)] (945, 0, q) = some (945, 0, q) := by
  show (bif idEq (945, 0, k) (945, 0, q) then _ else _) = _
  rw [Zbu.2 (fun e => h (congrArg (fun x => x.2.2) e).symm)]; rfl
set_option maxHeartbeats 4000000 in
theorem c_mCopyH (s : Mach) : HF Tryz.prog 43 [.agg (Zds s)] (.agg (cpB jN jE s)) (cpH s) := by
  refine Zfq tok Tryz.func43 rfl (by decide +kernel) (Nat.le_of_ble_eq_true rfl) ?_
  refine Zau 0 (fun hl => ?_)
  have hl0 : s.stack.length ≤ maxL := hl.1.1
  have hmx : maxL = 4294967296 := rfl
  clear hl
  (repeat' ((fail_if_success (show AWp _ _ _ (Code.region 1 _ _) _ _)); first | refine Zac ?_ | (refine Zab tok (by rfl) ?_; conv => whnf)))
  refine Ze4 tok mix (by rfl) [0, 1, 3, 4, 6, 7, 9, 11, 13] 40 (by rfl) (by rfl) (by rfl) ?_
  conv => whnf
  (repeat' first
    | (refine @And.intro (Zaa _ _ _ _) _ ?_ ?_; rotate_left; (conv => whnf); rotate_right)
    | (guard_target = And _ _; refine @And.intro (gOp _ _ _ _ _ _ _ _ _) _ (by (conv => whnf); exact ⟨rfl, rfl⟩) ?_; conv => whnf)
    | (guard_target = And _ _; refine And.intro ?_ ?_ <;> (conv => whnf))
    | (refine .inl ⟨_, _, _, uG (QC.fo (rd := []) (c_CloneFrames s.stack) (Ress.imms rfl) (.inl rfl) rfl), ?_⟩; (conv => whnf))
    | (refine .inl ⟨_, _, _, uG (QC.fo (rd := []) (Zfd s.inputs) (Ress.imms rfl) (.inl rfl) rfl), ?_⟩; (conv => whnf))
    | (refine .inl ⟨_, _, _, uG (QC.fo (rd := []) (c_CloneInts s.events) (Ress.imms rfl) (.inl rfl) rfl), ?_⟩; (conv => whnf)))
  all_goals (try ((guard_target = Zaa _ _ _ _); skip; all_goals omega))
  (repeat' ((fail_if_success (show AWp _ _ _ (Code.region 3 _ _) _ _)); first | refine Zac ?_ | (refine Zab tok (by rfl) ?_; conv => whnf) | refine Zah ?_))
  refine Za0 (fun k : Nat => mkF [(1, .bp (1, 0, 0) 0), (2, .bp (2, 0, 0) 0), (18, iv s.stack.length), (19, iv k)] [((1, 0, 0), .row false 21 1 (fun _ => cpB (6, 0, 0) (12, 0, 0) s)), ((2, 0, 0), Za4 zMach), ((6, 0, 0), rowCp s.stack k), ((12, 0, 0), evB s.events)] (famG s.stack k)) (fun k => k ≤ s.stack.length) (fun k => s.stack.length - k) 0 (Nat.zero_le _) ?_ ?_
  · refine Weak.fam [] rfl (fun i hi => by cases hi) ?_ ?_ (fun j b e => by obtain ⟨q, _, h, _⟩ := famG_some e; omega) (fun i hi => by cases hi)
    · (repeat' first | exact TLg.nil | refine TLg.cons (GV.imm rfl) ?_ | refine TLg.cons (GV.bp rfl rfl) ?_)
      all_goals rfl
    · refine .old rfl rfl (GB.one ?_ (fun e => by cases e)) (.old rfl rfl (GB.one (GVs.imm rfl) (fun _ => rfl)) (.old rfl rfl (GB.row (Nat.le_refl _) (fun q hq => ?_) (fun e => by cases e)) (.old rfl rfl (Zes _) .nil)))
      · refine .cons (.rs rfl rfl rfl rfl) (.cons (.imm rfl) (.cons (.imm rfl) (.cons (.imm rfl) (.cons (.imm rfl) (.cons (.imm rfl) (.cons (.imm rfl) (.cons (.imm rfl) (.cons (.imm rfl) (.cons (.imm rfl) (.cons (.imm rfl) (.cons (.imm rfl) (.cons (.imm rfl) (.cons (.imm rfl) (.cons (.imm rfl) (.cons (.imm rfl) (.cons (.imm rfl) (.cons (GV.frz (fun j hj e => ?_) rfl (by omega) rfl (fun x hx => by rw [Nat.zero_add x]; exact .cons (.imm rfl) .nil) (fun x hx => rfl)) (.cons (.rs rfl rfl rfl rfl) (.cons (.imm rfl) (.cons (.imm rfl) .nil))))))))))))))))))))
        have e' : j = (9, 0, 0) := Option.some.inj e
        subst e'
        cases hj
      · exact .cons (.imm rfl) (.cons (.imm rfl) (.cons (.imm rfl) (.cons (.cc rfl (Zbl (Nat.zero_le _)) (.imm rfl)) (.cons (.imm rfl) .nil))))
  intro k hk
  (repeat' ((fail_if_success (show AWp _ _ _ (Code.region 5 _ _) _ _)); (fail_if_success (show AWp _ _ _ (Code.region 7 _ _) _ _)); first | refine Zac ?_ | (refine Zab tok (by rfl) ?_; conv => whnf) | refine Zah ?_ | (refine Zag ?_; conv => whnf) | (refine Za2 ?_; conv => whnf) | refine Zaf rfl (fun hb => ?_) (fun hb => ?_)))
  · have hkl : k < s.stack.length := by simp only [decide_eq_true_eq] at hb; omega
    clear hb
    have hsel : cpR s.stack k (0 + k) = u16s (s.stack.getD k default).regs := by rw [Nat.zero_add]; exact Zbl (Nat.le_refl _)
    refine Ze4 tok mix (by rfl) [0, 1, 2, 3, 4, 5, 6, 7, 10, 11] 30 (by rfl) (by rfl) (by rfl) ?_
    conv => whnf
    (repeat' first
      | (refine fAV (x := cpR s.stack k (0 + k)) (y := u16s (s.stack.getD k default).regs) hsel ?_; (conv => whnf))
      | (refine @And.intro (Zaa _ _ _ _) _ ?_ ?_; rotate_left; (conv => whnf); rotate_right)
      | (guard_target = And _ _; refine @And.intro (gOp _ _ _ _ _ _ _ _ _) _ (by (conv => whnf); first | exact ⟨rfl, rfl⟩ | (refine fAV (x := cpR s.stack k (0 + k)) (y := u16s (s.stack.getD k default).regs) hsel ?_; (conv => whnf); exact ⟨rfl, rfl⟩)) ?_; conv => whnf)
      | (guard_target = And _ _; refine And.intro ?_ ?_ <;> (conv => whnf))
      | (refine .inl ⟨_, _, _, uG (QC.fo (rd := []) (Zfd (s.stack.getD k default).regs) (Ress.imms rfl) (.inl rfl) rfl), ?_⟩; (conv => whnf)))
    all_goals (try rfl)
    all_goals (try ((guard_target = Zaa _ _ _ _); refine Zae ?_; (all_goals (try simp only [Zaa, kzz, kz11, kz12, maxL, Zad] at *)); all_goals omega))
    (repeat' (refine Zab tok (by rfl) ?_; conv => whnf))
    refine ⟨k + 1, hkl, by omega, ?_⟩
    refine Weak.fam [((945, 0, k), some (31, 0, 0))] rfl (fun c hc => by simp only [tgts, List.mem_singleton] at hc; subst hc; exact .inl rfl) ?_ ?_ (fun j b e => ?_) (fun i hi => by cases hi)
    · (repeat' first | exact TLg.nil | refine TLg.cons (GV.imm rfl) ?_ | refine TLg.cons (GV.bp rfl rfl) ?_ | refine TLg.cons (GV.int ?_) ?_)
      all_goals first | rfl | (simp (disch := omega) only [Zal]; omega)
    · refine .old rfl rfl (GB.one (GVs_cpB (.rs rfl rfl rfl rfl) (.rs rfl rfl rfl rfl)) (fun e => by cases e)) (.old rfl rfl (GB.one (GVs.imm rfl) (fun _ => rfl)) (.old rfl rfl (GB.row (Nat.le_refl _) (fun q hq => ?_) (fun e => by cases e)) (.old rfl rfl (Zes _) .nil)))
      show GVs _ _ _ (updR (cpF s.stack k) (0 + k) [iv (s.stack.getD (0 + k) default).f, iv (s.stack.getD (0 + k) default).block, iv (s.stack.getD (0 + k) default).at_, .rs (31, 0, 0) 1 0 (s.stack.getD k default).regs.length, .int .u16 (s.stack.getD (0 + k) default).fly] q) (cpF s.stack (k + 1) q)
      rw [Nat.zero_add k]
      by_cases e : q = k
      · subst e
        rw [Zdy]
        exact .cons (.imm rfl) (.cons (.imm rfl) (.cons (.imm rfl) (.cons (.cc rfl (Zbd (Nat.lt_succ_self _)) (.rs (famG_at (Nat.lt_succ_self _)) srcG_eq rfl rfl)) (.cons (.imm rfl) .nil))))
      · rw [Zc8 (Ne.symm e)]
        refine .cons (.imm rfl) (.cons (.imm rfl) (.cons (.imm rfl) (.cons ?_ (.cons (.imm rfl) .nil))))
        by_cases e2 : q < k
        · exact .cc (Zbd e2) (Zbd (Nat.lt_succ_of_lt e2)) (.rs (famG_at (Nat.lt_succ_of_lt e2)) (srcG_ne e) rfl rfl)
        · exact .cc (Zbl (by omega)) (Zbl (by omega)) (.imm rfl)
    · obtain ⟨q, rfl, hq, rfl⟩ := famG_some e
      by_cases e : q = k
      · subst e
        exact HOk.mk srcG_eq rfl (Zb3 _)
      · exact HOk.mk (srcG_ne e) (show famG s.stack k (945, 0, q) = _ from famG_at (by omega)) (Zb3 _)
  · have hkl : k = s.stack.length := by simp only [decide_eq_false_iff_not] at hb; omega
    clear hb
    subst hkl
    (repeat' first | (refine Zab tok (by rfl) ?_; conv => whnf) | (refine Zak ?_; conv => whnf))
    refine ⟨_, srcL [(jN, some (6, 0, 0)), (jE, some (12, 0, 0))], rfl, ?_⟩
    rw [← and_assoc]
    refine ⟨leaveR [(jN, some (6, 0, 0)), (jE, some (12, 0, 0))] rfl (fun c hc => ?_) (.old rfl rfl (GB.row (Nat.le_refl _) (fun q hq => ?_) (fun e => by cases e)) (.old rfl rfl (Zes _) .nil)) (fun j b e => ?_), .agg (GVs_cpB (.rs rfl rfl rfl rfl) (.rs rfl rfl rfl rfl))⟩
    · rcases List.mem_cons.1 (show c ∈ [(6, 0, 0), (12, 0, 0)] from hc) with rfl | hc
      · exact .inl rfl
      · rw [List.mem_singleton.1 hc]; exact .inl rfl
    · exact .cons (.imm rfl) (.cons (.imm rfl) (.cons (.imm rfl) (.cons (.cc (Zbd hq) (Zbd hq) (.rs (famG_at hq) rfl rfl rfl)) (.cons (.imm rfl) .nil))))
    · obtain ⟨q, rfl, hq, rfl⟩ := famG_some e
      exact HOk.mk rfl (show famG s.stack s.stack.length (945, 0, q) = _ from famG_at hq) (Zb3 _)
end Go.Proofs.YtoelbgjpmpoolaaGreat
namespace Go.Proofs.YtoelbgjpmpoolaaGreat
open Go Dv
set_option maxRecDepth 10000
set_option linter.unusedSimpArgs false
abbrev noH0 : Zan := fun _ => none
theorem GV.rel {src : Dv.Id → Option Dv.Id} {h : Zan} {x y : AV} (g : GV src h noH0 x y) : Rel h x y := fun X ι w v s hv => by
  have h1 := g X ι w v s hv
  have e : plc src noH0 ι = ι0 := funext fun j => rfl
  rw [e] at h1
  exact Zbs keep_out y v (Sub.refl _) h1
theorem frz_frs {src : Dv.Id → Option Dv.Id} {h h' : Zan} {F : Dv.Id} {l : List Zax} {imm : Bool} {f : Nat → List AV} {R : Nat → Dv.Id} (hd : ∀ j, (h' j).isSome = true → src j ≠ some F) (hr : ∀ q, q < l.length → ∀ j, (h' j).isSome = true → src j ≠ some (R q)) (hF : h F = some (.row imm 5 l.length f))
    (hf : ∀ q, q < l.length → ∃ y, f q = [iv (l.getD q default).f, iv (l.getD q default).block, iv (l.getD q default).at_, y, .int .u16 (l.getD q default).fly] ∧ y = .rs (R q) 1 0 (l.getD q default).regs.length ∧ h (R q) = some (regB (l.getD q default).regs)) : GV src h h' (.rs F 5 0 l.length) (frs l) := by
  refine GV.frz hd hF (by omega) rfl (fun x hx => ?_) (fun x hx => rfl)
  obtain ⟨y, e1, e2, e3⟩ := hf x hx
  rw [Nat.zero_add x, e1]
  refine .cons (.imm rfl) (.cons (.imm rfl) (.cons (.imm rfl) (.cons ?_ (.cons (.imm rfl) .nil))))
  rw [e2]
  exact GV.frz (hr x hx) e3 (by omega) rfl (fun z hz => by rw [Nat.zero_add z]; exact .cons (.imm rfl) .nil) (fun z hz => rfl)
theorem c_mCopy (s : Mach) : FC Tryz.prog 43 [.agg (Zds s)] (.agg (Zds s)) := by
  refine HF.fc (c_mCopyH s) (GV.rel (src := fun _ => none) (.agg ?_))
  refine .cons (frz_frs (R := fun q => (945, 0, q)) (fun _ h => by cases h) (fun _ _ _ h => by cases h) rfl (fun q hq => ⟨_, rfl, Zbd hq, famG_at hq⟩)) (.cons (.imm rfl) (.cons (.imm rfl) (.cons (.imm rfl) (.cons (.imm rfl) (.cons (.imm rfl) (.cons (.imm rfl) (.cons (.imm rfl) (.cons (.imm rfl) (.cons (.imm rfl) (.cons (.imm rfl) (.cons (.imm rfl) (.cons (.imm rfl) (.cons (.imm rfl) (.cons (.imm rfl) (.cons (.imm rfl) (.cons (.imm rfl) (.cons (.imm rfl) (.cons (GV.frz (fun _ h => by cases h) rfl (by omega) rfl (fun z hz => by rw [Nat.zero_add z]; exact .cons (.imm rfl) .nil) (fun z hz => rfl)) (.cons (.imm rfl) (.cons (.imm rfl) .nil))))))))))))))))))))
end Go.Proofs.YtoelbgjpmpoolaaGreat
namespace Go.Proofs.YtoelbgjpmpoolaaGreat
open Go Dv
set_option maxRecDepth 10000
set_option linter.unusedSimpArgs false
theorem c_mStepN {m : Zaj} {s : Mach} (hr : Zbj m = true) (h : OkM m s) (hev : s.events.length < 1000000) (hd : s.done = 0) : HG Tryz.prog [jB] 64 (memN m s) [.bp jB 0] (.tup []) (mem m (Zeo m s)) :=
  renN (c_mStepOk hr h hev hd) (.cons (.bp rfl rfl) .nil)
def regN' (l : List Zax) (q : Nat) : Dv.Id := bif Nat.blt q (l.length - 1) then (945, 0, q) else jT
theorem GVs_frzM {src : Dv.Id → Option Dv.Id} {h h' : Zan} {m : Zaj} {s : Mach} {F : Dv.Id} (hd : ∀ j i, (h' j).isSome = true → src j = some i → i ≠ F ∧ i ≠ jE ∧ i ≠ jT ∧ ∀ q, i ≠ (945, 0, q)) (h1 : h F = some (Zdh s.stack)) (h2 : h jE = some (evB s.events)) (h3 : h jT = some (regB (topF s).regs)) (h4 : ∀ q, q < s.stack.length - 1 → h (945, 0, q) = some (regB (s.stack.getD q default).regs)) :
    GVs src h h' (macX F m s) (Zds s ++ [Zf3 m.funcs]) := by
  refine .cons ?_ (.cons (.imm rfl) (.cons (.imm rfl) (.cons (.imm rfl) (.cons (.imm rfl) (.cons (.imm rfl) (.cons (.imm rfl) (.cons (.imm rfl) (.cons (.imm rfl) (.cons (.imm rfl) (.cons (.imm rfl) (.cons (.imm rfl) (.cons (.imm rfl) (.cons (.imm rfl) (.cons (.imm rfl) (.cons (.imm rfl) (.cons (.imm rfl) (.cons (.imm rfl) (.cons (GV.frz (fun j hj e => (hd j _ hj e).2.1 rfl) h2 (by omega) rfl (fun z hz => by rw [Nat.zero_add z]; exact .cons (.imm rfl) .nil) (fun z hz => rfl)) (.cons (.imm rfl) (.cons (.imm rfl) (.cons (.imm rfl) .nil)))))))))))))))))))))
  refine frz_frs (R := regN' s.stack) (fun j hj e => (hd j _ hj e).1 rfl) (fun q hq j hj e => ?_) h1 (fun q hq => ⟨_, rfl, ?_, ?_⟩)
  · have := hd j _ hj e
    unfold regN' at this
    cases e2 : Nat.blt q (s.stack.length - 1) with
    | true => rw [e2] at this; exact this.2.2.2 q rfl
    | false => rw [e2] at this; exact this.2.2.1 rfl
  · unfold Zbo regN'
    by_cases e : q < s.stack.length - 1
    · rw [Zbd e, show Nat.blt q (s.stack.length - 1) = true from by rw [Nat.blt_eq]; exact e]; rfl
    · rw [Zbl (by omega), show Nat.blt q (s.stack.length - 1) = false from by rw [Bool.eq_false_iff]; intro h; rw [Nat.blt_eq] at h; omega]; rfl
  · unfold regN'
    by_cases e : q < s.stack.length - 1
    · rw [show Nat.blt q (s.stack.length - 1) = true from by rw [Nat.blt_eq]; exact e]
      exact h4 q e
    · rw [show Nat.blt q (s.stack.length - 1) = false from by rw [Bool.eq_false_iff]; intro h; rw [Nat.blt_eq] at h; omega]
      show h jT = _
      rw [h3]; unfold topF; rw [show s.stack.length - 1 = q by omega]
theorem newL_names {m : Zaj} {inputs : List Int} {i : Dv.Id} (h : (orH (Zaz (newL m inputs)) noH i).isSome = true) : i = jN ∨ i = jT := by
  cases e1 : idEq jN i with
  | true => exact .inl (Za1.1 e1).symm
  | false =>
    cases e2 : idEq jT i with
    | true => exact .inr (Za1.1 e2).symm
    | false =>
      unfold orH newL at h
      simp only [Zaz, e1, e2, cond_false, noH] at h
      cases h
set_option maxHeartbeats 4000000 in
theorem c_mRun (m : Zaj) (inputs : List Int) (n : Int) (hr : Zbj m = true) (hi : (∀ x ∈ inputs, 0 ≤ x ∧ x ≤ 65535) ∧ inputs.length < 1000000) (hn : n < 900000) : FC Tryz.prog 28 [.agg (Zbn m), u16s inputs, iv n] (.tup [.agg (Zds (runM m inputs n.toNat)), iv 0]) := by
  refine Zaw tok Tryz.func28 rfl (by decide +kernel) (Nat.le_of_ble_eq_true rfl) ?_
  have hmx : maxL = 4294967296 := rfl
  (repeat' first | refine Zac ?_ | (refine Zab tok (by rfl) ?_; conv => whnf))
  refine .inr ⟨_, _, _, uG (QH.ofF (c_mNew m inputs hr) rfl (fun i hi => ?_)), ?_⟩
  · rcases newL_names hi with rfl | rfl <;> rfl
  conv => whnf
  (repeat' ((fail_if_success (show AWp _ _ _ (Code.region 3 _ _) _ _)); (fail_if_success (show AWp _ _ _ (Code.region 4 _ _) _ _)); first | refine Zac ?_ | (refine Zab tok (by rfl) ?_; conv => whnf) | (refine Zag ?_; conv => whnf) | refine Zaf rfl (fun hb => ?_) (fun hb => ?_)))
  · exfalso
    have : ¬ (1048576 : Int) < n := by omega
    simp [this] at hb
  clear hb
  (repeat' ((fail_if_success (show AWp _ _ _ (Code.region 5 _ _) _ _)); first | refine Zac ?_ | (refine Zab tok (by rfl) ?_; conv => whnf)))
  refine AWp_max tok 1 rfl (by rfl) rfl rfl rfl rfl rfl ?_; conv => whnf
  refine ⟨_, _, _, rfl, rfl, rfl, ?_⟩
  conv => whnf
  (repeat' ((fail_if_success (show AWp _ _ _ (Code.region 6 _ _) _ _)); refine Zah ?_))
  refine Za0 (fun i : Nat => mkF [(2, iv n), (3, .bp (3, 0, 0) 0), (6, .bp (6, 0, 0) 0), (10, .bp jB 0), (29, iv n.toNat), (30, iv i)] ([((3, 0, 0), Za4 (Zbn m)), ((6, 0, 0), Za4 zMach)] ++ memNL m (runM m inputs i)) (famW (runM m inputs i).stack)) (fun i => i ≤ n.toNat) (fun i => n.toNat - i) 0 (Nat.zero_le _) ?_ ?_
  · refine Weak.fam (L := []) (tl := [(2, iv n), (3, .bp (3, 0, 0) 0), (6, .bp (6, 0, 0) 0), (10, .bp jB 0), (29, iv n.toNat), (30, iv 0)]) (hl := [((3, 0, 0), Za4 (Zbn m)), ((6, 0, 0), Za4 zMach)] ++ memNL m (runM m inputs 0)) (F := famW (runM m inputs 0).stack) [(jB, some (27, 0, 0)), (jE, none)] rfl (fun c hc => ?_) ?_ ?_ ?_ (fun i hi => by cases hi)
    · rw [List.mem_singleton.1 (show c ∈ [(27, 0, 0)] from hc)]; exact .inl rfl
    · exact .cons (.imm rfl) (.cons (.bp rfl rfl) (.cons (.bp rfl rfl) (.cons (.bp rfl rfl) (.cons (.int (by omega)) (.cons (.imm rfl) .nil)))))
    · refine .old rfl rfl (GB.one (GVs.imm rfl) (fun _ => rfl)) (.old rfl rfl (GB.one (GVs.imm rfl) (fun _ => rfl)) (.old rfl rfl (GB.one ?_ (fun e => by cases e)) (.old rfl rfl (GB_fr (fun q hq => by have : q < 1 - 1 := hq; omega) rfl (fun q hq => by have : q < 1 - 1 := hq; omega) rfl) (.new rfl (.old rfl rfl (Zb3 _) .nil)))))
      exact .cons (.rs rfl rfl rfl rfl) (.cons (.imm rfl) (.cons (.imm rfl) (.cons (.imm rfl) (.cons (.imm rfl) (.cons (.imm rfl) (.cons (.imm rfl) (.cons (.imm rfl) (.cons (.imm rfl) (.cons (.imm rfl) (.cons (.imm rfl) (.cons (.imm rfl) (.cons (.imm rfl) (.cons (.imm rfl) (.cons (.imm rfl) (.cons (.imm rfl) (.cons (.imm rfl) (.cons (.imm rfl) (.cons (.nil rfl rfl rfl) (.cons (.imm rfl) (.cons (.imm rfl) (.cons (.imm rfl) .nil)))))))))))))))))))))
    · exact fun j b e => by
        obtain ⟨q, _, hq, _⟩ := famW_some e
        have : q < 1 - 1 := hq
        omega
  intro i hi2
  have hok := okM_run hr hi i
  have hev := ev_run (m := m) (inputs := inputs) i
  generalize hs : runM m inputs i = s at hok hev
  (repeat' ((fail_if_success (show AWp _ _ _ (Code.region 8 _ _) _ _)); (fail_if_success (show AWp _ _ _ (Code.region 10 _ _) _ _)); first | refine Zac ?_ | (refine Zab tok (by rfl) ?_; conv => whnf) | refine Zah ?_ | (refine Zag ?_; conv => whnf) | (refine Za2 ?_; conv => whnf) | refine Zaf rfl (fun hb => ?_) (fun hb => ?_)))
  · rename_i hlt
    have hd : ¬ s.done = 0 := by simpa using hb
    have he : runM m inputs n.toNat = s := by
      have := run_done (m := m) (inputs := inputs) (i := i) (by rw [hs]; exact hd) (n.toNat - i)
      rw [show i + (n.toNat - i) = n.toNat by omega, hs] at this
      exact this
    rw [he]
    clear hb
    refine Zay (Weak.fam (L := []) (tl := [(3, .bp (3, 0, 0) 0), (6, .bp (6, 0, 0) 0), (10, .bp jB 0)]) (hl := [((3, 0, 0), Za4 (Zbn m)), ((6, 0, 0), Za4 zMach)] ++ [(jB, .row false 22 1 (fun _ => Zds s ++ [Zf3 m.funcs]))]) (F := noH) [] rfl (fun c hc => by cases hc) ?_ ?_ noF (fun i hi => by cases hi)) ?_
    · (repeat' first | exact TLg.nil | refine TLg.cons (GV.bp rfl rfl) ?_)
    · refine .old rfl rfl (GB.one (GVs.imm rfl) (fun _ => rfl)) (.old rfl rfl (GB.one (GVs.imm rfl) (fun _ => rfl)) (.old rfl rfl (GB.one (GVs_frzM (fun j i hj e => ?_) rfl rfl rfl (fun q hq => ?_)) (fun e => by cases e)) .nil))
      · have e' : j = i := Option.some.inj e
        subst e'
        exact ⟨(fun e2 => by subst e2; cases hj), (fun e2 => by subst e2; cases hj), (fun e2 => by subst e2; cases hj), (fun q e2 => by subst e2; cases hj)⟩
      · show famW s.stack (945, 0, q) = _
        exact Za5 hq
    (repeat' (refine Zab tok (by rfl) ?_; conv => whnf))
    refine .inl ⟨_, _, _, uG (QC.fc (c_mCopy s) rfl), ?_⟩
    conv => whnf
    (repeat' (refine Zak ?_; conv => whnf))
    exact ⟨_, rfl, Rel.tup (.cons (Rel.agg (Rels.imm rfl)) (.cons (Rel.int rfl) .nil))⟩
  · rename_i hlt
    have hlt : i < n.toNat := by simp only [decide_eq_true_eq] at hlt; omega
    have hd : s.done = 0 := by simpa using hb
    clear hb
    (repeat' (refine Zab tok (by rfl) ?_; conv => whnf))
    refine .inr ⟨_, _, _, uG (QH.ddM (by simp) (c_mStepN hr hok (by omega) hd) hok.len (memN_sub rfl rfl rfl rfl (fun _ => rfl)) rfl rfl (fun q hq => Zao hq)), ?_⟩
    conv => whnf
    (repeat' (refine Zab tok (by rfl) ?_; conv => whnf))
    refine ⟨i + 1, hlt, by omega, ?_⟩
    have hs1 : runM m inputs (i + 1) = Zeo m s := by show Zeo m (runM m inputs i) = _; rw [hs]
    rw [hs1]
    refine Weak.fam (L := []) (tl := [(2, iv n), (3, .bp (3, 0, 0) 0), (6, .bp (6, 0, 0) 0), (10, .bp jB 0), (29, iv n.toNat), (30, iv (i + 1))]) (hl := [((3, 0, 0), Za4 (Zbn m)), ((6, 0, 0), Za4 zMach)] ++ memNL m (Zeo m s)) (F := famW (Zeo m s).stack) [(jN, some jF)] rfl (fun c hc => ?_) ?_ ?_ ?_ (fun i hi => by cases hi)
    · rw [List.mem_singleton.1 (show c ∈ [jF] from hc)]; exact .inl rfl
    · exact .cons (.imm rfl) (.cons (.bp rfl rfl) (.cons (.bp rfl rfl) (.cons (.bp rfl rfl) (.cons (.imm rfl) (.cons (.int (Zal (by omega) (by omega))) .nil)))))
    · refine .old rfl rfl (GB.one (GVs.imm rfl) (fun _ => rfl)) (.old rfl rfl (GB.one (GVs.imm rfl) (fun _ => rfl)) ?_)
      exact HLs_memN rfl rfl rfl rfl (fun _ => rfl) rfl rfl rfl rfl rfl rfl rfl rfl (fun q hq => Zcx hq)
    · refine Zgq (fun _ _ => rfl) (fun q hq => ?_)
      exact Zbf hq
  · have he : runM m inputs n.toNat = s := by
      have : i = n.toNat := by simp only [decide_eq_false_iff_not] at hb; omega
      rw [← this, hs]
    rw [he]
    clear hb
    refine Zay (Weak.fam (L := []) (tl := [(3, .bp (3, 0, 0) 0), (6, .bp (6, 0, 0) 0), (10, .bp jB 0)]) (hl := [((3, 0, 0), Za4 (Zbn m)), ((6, 0, 0), Za4 zMach)] ++ [(jB, .row false 22 1 (fun _ => Zds s ++ [Zf3 m.funcs]))]) (F := noH) [] rfl (fun c hc => by cases hc) ?_ ?_ noF (fun i hi => by cases hi)) ?_
    · (repeat' first | exact TLg.nil | refine TLg.cons (GV.bp rfl rfl) ?_)
    · refine .old rfl rfl (GB.one (GVs.imm rfl) (fun _ => rfl)) (.old rfl rfl (GB.one (GVs.imm rfl) (fun _ => rfl)) (.old rfl rfl (GB.one (GVs_frzM (fun j i hj e => ?_) rfl rfl rfl (fun q hq => ?_)) (fun e => by cases e)) .nil))
      · have e' : j = i := Option.some.inj e
        subst e'
        exact ⟨(fun e2 => by subst e2; cases hj), (fun e2 => by subst e2; cases hj), (fun e2 => by subst e2; cases hj), (fun q e2 => by subst e2; cases hj)⟩
      · show famW s.stack (945, 0, q) = _
        exact Za5 hq
    (repeat' (refine Zab tok (by rfl) ?_; conv => whnf))
    refine .inl ⟨_, _, _, uG (QC.fc (c_mCopy s) rfl), ?_⟩
    conv => whnf
    (repeat' (refine Zak ?_; conv => whnf))
    exact ⟨_, rfl, Rel.tup (.cons (Rel.agg (Rels.imm rfl)) (.cons (Rel.int rfl) .nil))⟩
end Go.Proofs.YtoelbgjpmpoolaaGreat
namespace Go.Proofs.YtoelbgjpmpoolaaGreat
open Go Dv
set_option maxRecDepth 10000
set_option linter.unusedSimpArgs false
theorem c_WordsEq (l : List Int) : FC Tryz.prog 65 [u16s l, u16s l] (.bool true) := by
  refine Zaw tok Tryz.func65 rfl (by decide +kernel) (Nat.le_of_ble_eq_true rfl) ?_
  refine Zau 0 (fun hl => ?_)
  have hl0 : l.length ≤ maxL := hl.1
  have hmx : maxL = 4294967296 := rfl
  clear hl
  (repeat' ((fail_if_success (show AWp _ _ _ (Code.region 2 _ _) _ _)); (fail_if_success (show AWp _ _ _ (Code.region 3 _ _) _ _)); first | refine Zac ?_ | (refine Zab tok (by rfl) ?_; conv => whnf) | (refine Zag ?_; conv => whnf) | refine Zaf rfl (fun hb => ?_) (fun hb => ?_)))
  · exfalso; simp at hb
  clear hb
  (repeat' ((fail_if_success (show AWp _ _ _ (Code.region 4 _ _) _ _)); first | (refine Zab tok (by rfl) ?_; conv => whnf) | refine Zah ?_))
  refine Za0 (fun i : Nat => mkS [(0, u16s l), (1, u16s l), (5, iv i)] []) (fun i => i ≤ l.length) (fun i => l.length - i) 0 (Nat.zero_le _) ?_ ?_
  · refine Weak.list [] rfl (by rfl) ?_ .nil
    ((repeat' first | exact TLes.nil | refine TLes.cons (TLe.eq rfl) ?_); skip)
  intro i hi
  (repeat' ((fail_if_success (show AWp _ _ _ (Code.region 6 _ _) _ _)); (fail_if_success (show AWp _ _ _ (Code.region 8 _ _) _ _)); first | refine Zac ?_ | (refine Zab tok (by rfl) ?_; conv => whnf) | refine Zah ?_ | (refine Zag ?_; conv => whnf) | (refine Za2 ?_; conv => whnf) | refine Zaf rfl (fun hb => ?_) (fun hb => ?_)))
  · have hil : i < l.length := by simp only [decide_eq_true_eq] at hb; omega
    clear hb
    ((repeat' first | refine Zac ?_ | (refine Zab tok (by rfl) ?_; conv => whnf) | (refine Zar tok mix (by rfl) ?_; conv => whnf) | (refine Zag ?_; conv => whnf) | (refine Zak ?_; conv => whnf) | refine Zaf rfl (fun hb => ?_) (fun hb => ?_) | (refine @And.intro (Zaa _ _ _ _) _ ?_ ?_; rotate_left; (conv => whnf); rotate_right)); all_goals (try ((guard_target = Zaa _ _ _ _); refine Zae ?_; (all_goals (try simp only [Zaa, kzz, kz11, kz12, maxL, Zad] at *)); all_goals omega)))
    · exfalso; simp at hb
    clear hb
    refine ⟨i + 1, hil, by omega, ?_⟩
    refine Weak.list [] rfl (by rfl) ?_ .nil
    ((repeat' first | exact TLes.nil | refine TLes.cons (TLe.eq rfl) ?_ | refine TLes.cons (TLe.int ?_) ?_); (all_goals first | ((try (simp only [Zaa, kzz, kz11, kz12, maxL, Zad] at *)); exact Zal (by omega) (by omega)) | skip))
  · (repeat' first | (refine Zab tok (by rfl) ?_; conv => whnf) | (refine Zak ?_; conv => whnf))
    exact ⟨_, rfl, Rel.bool rfl⟩
theorem c_FrSameEq (f : Zax) : FC Tryz.prog 66 [.agg (Zbz f), .agg (Zbz f)] (.bool true) := by
  refine Zaw tok Tryz.func66 rfl (by decide +kernel) (Nat.le_of_ble_eq_true rfl) ?_
  refine Zau 0 (fun hl => ?_)
  have hl0 : f.regs.length ≤ maxL := hl.2.2.2.1.1
  have hmx : maxL = 4294967296 := rfl
  clear hl
  (repeat' ((fail_if_success (show AWp _ _ _ (Code.region 2 _ _) _ _)); (fail_if_success (show AWp _ _ _ (Code.region 3 _ _) _ _)); first | refine Zac ?_ | (refine Zab tok (by rfl) ?_; conv => whnf) | (refine Zag ?_; conv => whnf) | refine Zaf rfl (fun hb => ?_) (fun hb => ?_)))
  · exfalso; simp at hb
  clear hb
  (repeat' ((fail_if_success (show AWp _ _ _ (Code.region 4 _ _) _ _)); first | (refine Zab tok (by rfl) ?_; conv => whnf) | refine Zah ?_))
  refine Za0 (fun i : Nat => mkS [(2, .bp (2, 0, 0) 0), (3, .bp (3, 0, 0) 0), (5, iv i)] [((2, 0, 0), Za4 (Zbz f)), ((3, 0, 0), Za4 (Zbz f))]) (fun i => i ≤ f.regs.length) (fun i => f.regs.length - i) 0 (Nat.zero_le _) ?_ ?_
  · refine Weak.list [((2, 0, 0), .old (2, 0, 0), Za4 (Zbz f)), ((3, 0, 0), .old (3, 0, 0), Za4 (Zbz f))] rfl (by rfl) ?_ (.old rfl (BLe.refl _) (.old rfl (BLe.refl _) .nil))
    ((repeat' first | exact TLes.nil | refine TLes.cons (TLe.eq rfl) ?_); skip)
  intro i hi
  (repeat' ((fail_if_success (show AWp _ _ _ (Code.region 6 _ _) _ _)); (fail_if_success (show AWp _ _ _ (Code.region 8 _ _) _ _)); first | refine Zac ?_ | (refine Zab tok (by rfl) ?_; conv => whnf) | refine Zah ?_ | (refine Zag ?_; conv => whnf) | (refine Za2 ?_; conv => whnf) | refine Zaf rfl (fun hb => ?_) (fun hb => ?_)))
  · have hil : i < f.regs.length := by simp only [decide_eq_true_eq] at hb; omega
    clear hb
    ((repeat' first | refine Zac ?_ | (refine Zab tok (by rfl) ?_; conv => whnf) | (refine Zar tok mix (by rfl) ?_; conv => whnf) | (refine Zag ?_; conv => whnf) | (refine Zak ?_; conv => whnf) | refine Zaf rfl (fun hb => ?_) (fun hb => ?_) | (refine @And.intro (Zaa _ _ _ _) _ ?_ ?_; rotate_left; (conv => whnf); rotate_right)); all_goals (try ((guard_target = Zaa _ _ _ _); refine Zae ?_; (all_goals (try simp only [Zaa, kzz, kz11, kz12, maxL, Zad] at *)); all_goals omega)))
    · exfalso; simp at hb
    clear hb
    refine ⟨i + 1, hil, by omega, ?_⟩
    refine Weak.list [((2, 0, 0), .old (2, 0, 0), Za4 (Zbz f)), ((3, 0, 0), .old (3, 0, 0), Za4 (Zbz f))] rfl (by rfl) ?_ (.old rfl (BLe.refl _) (.old rfl (BLe.refl _) .nil))
    ((repeat' first | exact TLes.nil | refine TLes.cons (TLe.eq rfl) ?_ | refine TLes.cons (TLe.int ?_) ?_); (all_goals first | ((try (simp only [Zaa, kzz, kz11, kz12, maxL, Zad] at *)); exact Zal (by omega) (by omega)) | skip))
  · (repeat' first | (refine Zab tok (by rfl) ?_; conv => whnf) | (refine Zak ?_; conv => whnf))
    exact ⟨_, rfl, Rel.bool rfl⟩
set_option maxHeartbeats 4000000 in
theorem c_MSameEq (s : Mach) : FC Tryz.prog 29 [.agg (Zds s), .agg (Zds s)] (.bool true) := by
  refine Zaw tok Tryz.func29 rfl (by decide +kernel) (Nat.le_of_ble_eq_true rfl) ?_
  refine Zau 0 (fun hl => ?_)
  have hl0 : s.stack.length ≤ maxL := hl.1.1
  have hmx : maxL = 4294967296 := rfl
  clear hl
  have hI := c_rInts s.events s.events
  rw [decide_eq_true rfl] at hI
  (repeat' first | refine Zac ?_ | (refine Zab tok (by rfl) ?_; conv => whnf))
  refine .inl ⟨_, _, _, uG (QC.fc (c_WordsEq s.inputs) rfl), ?_⟩
  conv => whnf
  skip
  refine .inl ⟨_, _, _, uG (QC.fc hI rfl), ?_⟩
  conv => whnf
  (repeat' ((fail_if_success (show AWp _ _ _ (Code.region 2 _ _) _ _)); (fail_if_success (show AWp _ _ _ (Code.region 3 _ _) _ _)); first | refine Zac ?_ | (refine Zag ?_; conv => whnf) | refine Zaf rfl (fun hb => ?_) (fun hb => ?_)))
  · exfalso; simp at hb
  clear hb
  (repeat' ((fail_if_success (show AWp _ _ _ (Code.region 4 _ _) _ _)); first | (refine Zab tok (by rfl) ?_; conv => whnf) | refine Zah ?_))
  refine Za0 (fun i : Nat => mkS [(2, .bp (2, 0, 0) 0), (3, .bp (3, 0, 0) 0), (5, iv i)] [((2, 0, 0), Za4 (Zds s)), ((3, 0, 0), Za4 (Zds s))]) (fun i => i ≤ s.stack.length) (fun i => s.stack.length - i) 0 (Nat.zero_le _) ?_ ?_
  · refine Weak.list [((2, 0, 0), .old (2, 0, 0), Za4 (Zds s)), ((3, 0, 0), .old (3, 0, 0), Za4 (Zds s))] rfl (by rfl) ?_ (.old rfl (BLe.refl _) (.old rfl (BLe.refl _) .nil))
    ((repeat' first | exact TLes.nil | refine TLes.cons (TLe.eq rfl) ?_); skip)
  intro i hi
  (repeat' ((fail_if_success (show AWp _ _ _ (Code.region 6 _ _) _ _)); (fail_if_success (show AWp _ _ _ (Code.region 8 _ _) _ _)); first | refine Zac ?_ | (refine Zab tok (by rfl) ?_; conv => whnf) | refine Zah ?_ | (refine Zag ?_; conv => whnf) | (refine Za2 ?_; conv => whnf) | refine Zaf rfl (fun hb => ?_) (fun hb => ?_)))
  · have hil : i < s.stack.length := by simp only [decide_eq_true_eq] at hb; omega
    clear hb
    ((repeat' first | (refine Zar tok mix (by rfl) ?_; conv => whnf) | (refine @And.intro (Zaa _ _ _ _) _ ?_ ?_; rotate_left; (conv => whnf); rotate_right)); all_goals (try ((guard_target = Zaa _ _ _ _); refine Zae ?_; (all_goals (try simp only [Zaa, kzz, kz11, kz12, maxL, Zad] at *)); all_goals omega)))
    refine .inl ⟨_, _, _, uG (QC.fc (c_FrSameEq (s.stack.getD i default)) rfl), ?_⟩
    conv => whnf
    (repeat' first | refine Zac ?_ | (refine Zab tok (by rfl) ?_; conv => whnf) | (refine Zag ?_; conv => whnf) | (refine Zak ?_; conv => whnf) | refine Zaf rfl (fun hb => ?_) (fun hb => ?_))
    · exfalso; cases hb
    clear hb
    refine ⟨i + 1, hil, by omega, ?_⟩
    refine Weak.list [((2, 0, 0), .old (2, 0, 0), Za4 (Zds s)), ((3, 0, 0), .old (3, 0, 0), Za4 (Zds s))] rfl (by rfl) ?_ (.old rfl (BLe.refl _) (.old rfl (BLe.refl _) .nil))
    ((repeat' first | exact TLes.nil | refine TLes.cons (TLe.eq rfl) ?_ | refine TLes.cons (TLe.int ?_) ?_); (all_goals first | ((try (simp only [Zaa, kzz, kz11, kz12, maxL, Zad] at *)); exact Zal (by omega) (by omega)) | skip))
  · (repeat' first | (refine Zab tok (by rfl) ?_; conv => whnf) | (refine Zak ?_; conv => whnf))
    exact ⟨_, rfl, Rel.bool rfl⟩
end Go.Proofs.YtoelbgjpmpoolaaGreat
namespace Go.Proofs.YtoelbgjpmpoolaaGreat
open Go Dv
set_option maxRecDepth 10000
set_option linter.unusedSimpArgs false
theorem FC.arg {P : Program} {f : FuncId} {args args' : List AV} {r : AV} (h : FC P f args' r) (ha : ∀ (X : Nat → Prop) (w : World) (vals : List Value), Vs w X args ι0 vals → Vs w X args' ι0 vals) : FC P f args r :=
  ⟨h.1, fun X w vals hX hV => h.2 X w vals hX (ha X w vals hV)⟩
theorem V_nsl {w : World} {own : Nat → Prop} {ι : Zai} {sz : Nat} {f : Nat → List AV} {v : Value} (hv : V w own .nsl ι v) : V w own (.sl sz 0 f) ι v := by
  simp only [V] at hv ⊢
  exact ⟨none, 0, hv, Nat.le_refl _, Nat.zero_le _, .inl trivial⟩
inductive NS : List AV → List AV → Prop where
  | nil : NS [] []
  | e {x : AV} {xs ys : List AV} (h : NS xs ys) : NS (x :: xs) (x :: ys)
  | n {sz : Nat} {f : Nat → List AV} {xs ys : List AV} (h : NS xs ys) : NS (.nsl :: xs) (.sl sz 0 f :: ys)
theorem NS.Vs {w : World} {own : Nat → Prop} {ι : Zai} : ∀ {xs ys : List AV} {vs : List Value}, NS xs ys → Dv.Vs w own xs ι vs → Dv.Vs w own ys ι vs
  | _, _, _, .nil, h => h
  | _, _, _, .e hr, h => by
      simp only [Dv.Vs] at h ⊢
      obtain ⟨v, r, e, h1, h2⟩ := h
      exact ⟨v, r, e, h1, hr.Vs h2⟩
  | _, _, _, .n hr, h => by
      simp only [Dv.Vs] at h ⊢
      obtain ⟨v, r, e, h1, h2⟩ := h
      exact ⟨v, r, e, V_nsl h1, hr.Vs h2⟩
end Go.Proofs.YtoelbgjpmpoolaaGreat
namespace Go.Proofs.YtoelbgjpmpoolaaGreat
open Go Dv
set_option maxRecDepth 10000
set_option linter.unusedSimpArgs false
theorem top_pop {s : Mach} (h2 : 1 < s.stack.length) : topF (popM s) = s.stack.getD (s.stack.length - 2) default := by
  unfold topF; rw [Zc4]; show (s.stack.take (s.stack.length - 1)).getD (s.stack.length - 1 - 1) default = _
  rw [Zcm _ (by omega)]; rfl
end Go.Proofs.YtoelbgjpmpoolaaGreat
namespace Go.Proofs.YtoelbgjpmpoolaaGreat
open Go Dv
set_option maxRecDepth 10000
set_option linter.unusedSimpArgs false
set_option linter.unusedVariables false
theorem toNat_nx {a : Int} (h : 0 ≤ a) : (a + 1).toNat = a.toNat + 1 := by omega
structure FrInv (m : Zaj) (Q : Zax → Prop) : Prop where
  new : ∀ (n : Int) (args : List Int), 0 ≤ n → n < m.funcs.length → Q (frN m n args)
  reck : ∀ f, OkF m f → endB m f = false → Q f → (Zbg m f).op ≤ 8 → (reckV f (Zbg m f)).2 = true → Q { frW f (Zbg m f).dst (reckV f (Zbg m f)).1 with at_ := f.at_ + 1 }
  put : ∀ f w, OkF m f → endB m f = false → Q f → ((Zbg m f).op = 9 ∨ (Zbg m f).op = 11 ∨ (Zbg m f).op = 13) → Q { frW f (Zbg m f).dst w with at_ := f.at_ + 1 }
  on : ∀ f, OkF m f → endB m f = false → Q f → ((Zbg m f).op = 10 ∨ (Zbg m f).op = 12) → Q (goOn f)
  go : ∀ f, OkF m f → endB m f = true → Q f → ((Zaq m f).fin.kind = 2 ∨ (Zaq m f).fin.kind = 3) → Q (goF (Zaq m f) f)
  to : ∀ f w, OkF m f → endB m f = true → Q f → (Zaq m f).fin.kind = 4 → Q { frW f (Zaq m f).fin.dst w with block := (Zaq m f).fin.to, at_ := 0 }
  land : ∀ f w, OkF m f → endB m f = true → Q f → (Zaq m f).fin.kind = 4 → Q (landF m f (Zaq m f).fin.pad w)
section
variable {m : Zaj} {Q : Zax → Prop}
theorem Zfp {s : Mach} (h : ∀ f ∈ s.stack, Q f) {f : Zax} (hf : Q f) : ∀ g ∈ (Zb6 s f).stack, Q g := fun g hg => by
  rcases List.mem_append.1 hg with hg | hg
  · exact h g (List.mem_of_mem_take hg)
  · rw [List.mem_singleton.1 hg]; exact hf
theorem all_take {s : Mach} (h : ∀ f ∈ s.stack, Q f) (k : Nat) : ∀ g ∈ (Ze7 s k).stack, Q g := fun g hg => h g (List.mem_of_mem_take hg)
theorem all_called (hQ : FrInv m Q) {s : Mach} (h : ∀ f ∈ s.stack, Q f) {n : Int} {l : List Int} (h0 : 0 ≤ n) (h1 : n < m.funcs.length) : ∀ g ∈ (Zcl m s n l).stack, Q g := by
  unfold Zcl
  split
  · exact h
  · intro g hg
    rcases List.mem_append.1 hg with hg | hg
    · exact h g hg
    · rw [List.mem_singleton.1 hg]; exact hQ.new _ _ h0 h1
theorem all_answered (hr : Zbj m = true) (hQ : FrInv m Q) {s : Mach} (hs : OkM m s) (h : ∀ f ∈ s.stack, Q f) {w : Int} (hp : 0 < s.stack.length) : ∀ g ∈ (Zcb m s w).stack, Q g := by
  unfold Zcb
  split
  · exact all_take h _
  · rename_i h1
    obtain ⟨hF, hC⟩ := Zgk hs (by omega)
    have hq : Q (topF (popM s)) := by
      refine h _ ?_
      rw [top_pop (by omega)]
      exact Zcp _ (by omega)
    refine Zfp (all_take h _) ?_
    unfold answF
    split
    · rename_i he; exact hQ.to _ w hF he hq (hC.fin he)
    · rename_i he
      have he : endB m (topF (popM s)) = false := by simpa using he
      exact hQ.put _ w hF he hq (.inr (.inl (hC.ins he)))
theorem all_thrown (hr : Zbj m = true) (hQ : FrInv m Q) {s : Mach} (hs : OkM m s) (h : ∀ f ∈ s.stack, Q f) {w : Int} (hp : 0 < s.stack.length) : ∀ g ∈ (Zb7 m s w).stack, Q g := by
  unfold Zb7
  dsimp only
  split
  · rename_i hany
    rw [List.any_eq_true] at hany
    obtain ⟨i, hi, hic⟩ := hany
    rw [List.mem_range] at hi
    obtain ⟨hK1, hK2⟩ := Zf6 (p := Zb2 m (popM s).stack w true) (n := (popM s).stack.length - 1) ⟨i, by omega, catch_more hic⟩
    generalize Ze1 (Zb2 m (popM s).stack w true) ((popM s).stack.length - 1) = K at hK1 hK2
    have hpl := Zc4 (s := s)
    have e : (popM s).stack.getD K default = s.stack.getD K default := Zcm _ (by omega)
    unfold Zb2 at hK1
    rw [e] at hK1 ⊢
    have hm : s.stack.getD K default ∈ s.stack := Zcp _ (by omega)
    have hc : endB m (s.stack.getD K default) = true ∧ (Zaq m (s.stack.getD K default)).fin.kind = 4 := by
      unfold Zd5 at hK1
      simp only [Bool.and_eq_true, decide_eq_true_eq] at hK1
      exact ⟨hK1.1, hK1.2.1⟩
    exact Zfp (all_take (s := popM s) (all_take h _) _) (hQ.land _ w (hs.fr _ hm) hc.1 (h _ hm) hc.2)
  · exact all_take h _
theorem all_ins (hr : Zbj m = true) (hQ : FrInv m Q) {s : Mach} (hs : OkM m s) (h : ∀ f ∈ s.stack, Q f) (hp : 0 < s.stack.length) (he : endB m (topF s) = false) : ∀ g ∈ (insM m s (topF s) (Zbg m (topF s))).stack, Q g := by
  have hF := hs.fr _ (Zfs hp)
  have hq := h _ (Zfs hp)
  have hI := (Zgn hr hF he).2
  unfold insM
  split
  · rename_i h11
    have hA : argsB m (Zda m (topF s)) (Zbg m (topF s)).f (Zbg m (topF s)).args = true := by
      rcases hI with h | h | h | h | h | h | h
      · omega
      · omega
      · omega
      · omega
      · exact h.2.2.2.2.2
      · omega
      · omega
    have := argsB_n hA
    exact all_called hQ h this.1.1 this.1.2
  split
  · rename_i h8
    split
    · rename_i hok
      refine Zfp h ?_
      have hv : (reckV (topF s) (Zbg m (topF s))).2 = true := by unfold Zdc at hok; split at hok; assumption; cases hok
      unfold Zdc
      rw [if_pos hv]
      exact hQ.reck _ hF he hq h8 hv
    · exact h
  split
  · rename_i h9
    split
    · exact h
    · exact Zfp h (hQ.put _ _ hF he hq (.inl h9))
  split
  · rename_i h10
    split
    · exact h
    · exact Zfp (s := { s with cells := _ }) h (hQ.on _ hF he hq (.inl h10))
  split
  · rename_i h12
    exact Zfp (s := { s with events := _ }) h (hQ.on _ hF he hq (.inr h12))
  split
  · rename_i h13
    split
    · exact h
    · exact Zfp (s := { s with inputs := _, events := _ }) h (hQ.put _ _ hF he hq (.inr (.inr h13)))
  · exfalso
    rcases hI with h | h | h | h | h | h | h <;> omega
theorem all_step (hr : Zbj m = true) (hQ : FrInv m Q) {s : Mach} (hs : OkM m s) (h : ∀ f ∈ s.stack, Q f) : ∀ g ∈ (Zeo m s).stack, Q g := by
  unfold Zeo
  split
  · rename_i hd
    have hp := hs.pos hd
    have hF := hs.fr _ (Zfs hp)
    have hq := h _ (Zfs hp)
    have hE := (Zft hr hF).2
    unfold stepE
    split
    · rename_i he; exact all_ins hr hQ hs h hp he
    rename_i he
    have he : endB m (topF s) = true := by simpa using he
    split
    · exact all_answered hr hQ hs h hp
    split
    · rename_i h1 h4
      have hA : argsB m (Zda m (topF s)) (Zaq m (topF s)).fin.f (Zaq m (topF s)).fin.args = true := by
        rcases hE with h | h | h | h | h
        · omega
        · omega
        · omega
        · exact h.2.2.2.1
        · omega
      have := argsB_n hA
      exact all_called hQ h this.1.1 this.1.2
    split
    · exact all_thrown hr hQ hs h hp
    split
    · exact all_thrown hr hQ hs h hp
    · rename_i h1 h4 h5 h6
      exact Zfp h (hQ.go _ hF he hq (by rcases hE with h | h | h | h | h <;> omega))
  · exact h
theorem all_run (hr : Zbj m = true) (hQ : FrInv m Q) {inputs : List Int} (hi : (∀ x ∈ inputs, 0 ≤ x ∧ x ≤ 65535) ∧ inputs.length < 1000000) : ∀ k, ∀ g ∈ (runM m inputs k).stack, Q g
  | 0 => fun g hg => by
      rw [List.mem_singleton.1 (show g ∈ [frN m 0 []] from hg)]
      exact hQ.new _ _ (by omega) (by have := (right0 hr).1; omega)
  | k + 1 => all_step hr hQ (okM_run hr hi k) (all_run hr hQ hi k)
end
end Go.Proofs.YtoelbgjpmpoolaaGreat
namespace Go.Proofs.YtoelbgjpmpoolaaGreat
open Go Dv
set_option maxRecDepth 10000
set_option linter.unusedSimpArgs false
def Zfe (l : List Zbk) : Zam := .row true 14 l.length (fun q => Za6 (l.getD q default))
def funR1 (l : List Func) (c : Nat → AV) : Zam := .row false 3 l.length (fun j => [iv (l.getD j default).params, iv (l.getD j default).regs, c j])
def Zfu (l : List Func) (p : Nat → Bool) : Zan := famC 1000 (fun j z => bif Nat.beq z 0 && (Nat.blt j l.length && p j) then some (Zfe (l.getD j default).blocks) else none)
def mem1 (l : List Func) (j : Nat) : AV := .rs (1000, j, 0) 14 0 (l.getD j default).blocks.length
def modH1 (l : List Func) : Zan := orH (Zaz [((900, 0, 0), funR1 l (mem1 l))]) (Zfu l (fun _ => true))
theorem Zed {l : List Func} {p : Nat → Bool} {j : Dv.Id} {b : Zam} (h : Zfu l p j = some b) : ∃ i, j = (1000, i, 0) ∧ i < l.length ∧ p i = true ∧ b = Zfe (l.getD i default).blocks := by
  obtain ⟨a, z, rfl, h3⟩ := famC_some h
  cases e : (Nat.beq z 0 && (Nat.blt a l.length && p a)) with
  | false => rw [e] at h3; cases h3
  | true =>
    rw [e] at h3
    rw [Bool.and_eq_true, Bool.and_eq_true, Nat.blt_eq] at e
    have := Nat.eq_of_beq_eq_true e.1
    subst this
    exact ⟨a, rfl, e.2.1, e.2.2, (Option.some.inj h3).symm⟩
theorem Zde {l : List Func} {p : Nat → Bool} {i : Nat} (h : i < l.length) (hp : p i = true) : Zfu l p (1000, i, 0) = some (Zfe (l.getD i default).blocks) := by
  show (bif (Nat.beq 0 0 && (Nat.blt i l.length && p i)) then _ else none) = _
  have : (Nat.beq 0 0 && (Nat.blt i l.length && p i)) = true := by
    rw [Bool.and_eq_true, Bool.and_eq_true, Nat.blt_eq]; exact ⟨rfl, h, hp⟩
  rw [this]; rfl
theorem Zgw {src : Dv.Id → Option Dv.Id} {h h' : Zan} (l : List Zbk) : GB src h h' (Zfe l) (Zfe l) := GB.rowI (Nat.le_refl _) (fun _ _ => ⟨rfl, rfl⟩)
theorem copyH_sub (fs : List Func) (j : Dv.Id) (b : Zam) (e : modH1 fs j = some b) : (j = (900, 0, 0) ∧ b = funR1 fs (mem1 fs)) ∨ ∃ i, j = (1000, i, 0) ∧ i < fs.length ∧ b = Zfe (fs.getD i default).blocks := by
  rcases orH_some e with e | ⟨_, e⟩
  · simp only [Zaz] at e
    cases e2 : idEq (900, 0, 0) j with
    | false => rw [e2] at e; cases e
    | true => have := Za1.1 e2; subst this; rw [e2] at e; cases e; exact .inl ⟨rfl, rfl⟩
  · obtain ⟨i, rfl, h1, _, h2⟩ := Zed e
    exact .inr ⟨i, rfl, h1, h2⟩
theorem modH1_at {l : List Func} {i : Nat} (h : i < l.length) : modH1 l (1000, i, 0) = some (Zfe (l.getD i default).blocks) := (show Zfu l (fun _ => true) (1000, i, 0) = _ from Zde h rfl)
theorem c_Copy1 (fs : List Func) : HF Tryz.prog 49 [.agg (Zbn ⟨fs⟩)] (.agg [.rs (900, 0, 0) 3 0 fs.length]) (modH1 fs) := by
  refine (c_Copy fs).weak (fun j => some j) (fun j j' i _ _ h1 h2 => some_inj j j' i h1 h2) (fun j b e => ?_) (.agg (.cons (.rs (b := funR1 fs (mem1 fs)) rfl rfl rfl rfl) .nil))
  rcases copyH_sub fs j b e with ⟨rfl, rfl⟩ | ⟨i, rfl, hi, rfl⟩
  · refine HOk.mk rfl (b0 := funR fs fs.length (fun _ => .any)) rfl (GB.row (Nat.le_refl _) (fun j hj => .cons (.imm rfl) (.cons (.imm rfl) (.cons ?_ .nil))) (fun e => by cases e))
    exact .cc (Zbd hj) rfl (.rs (modH1_at hj) rfl rfl rfl)
  · refine HOk.mk rfl (b0 := blkR i (fs.getD i default).blocks (fs.getD i default).blocks.length (fun _ => .any)) (show treeF fs fs.length 0 (1000, i, 0) = _ from Zbt hi) (GB.row (Nat.le_refl _) (fun q hq => ?_) (fun _ _ _ => rfl))
    refine .cons (.imm rfl) (.cons (.imm rfl) (.cons (.imm rfl) (.cons (.imm rfl) (.cons (.imm rfl) (.cons ?_ (GVs.imm rfl))))))
    refine .cc (Zbd hq) rfl (.frz (k := ((fs.getD i default).blocks.getD q default).ins.length) (f := fun j => Zba (((fs.getD i default).blocks.getD q default).ins.getD j default)) (imm := true) (fun j hj e => ?_) (show treeF fs fs.length 0 (1001, i, q) = _ from Zbi (.inl ⟨hi, hq⟩)) (Nat.le_of_eq (Nat.zero_add _)) rfl (fun x hx => GVs.eqI rfl (by rw [Nat.zero_add])) (fun _ _ => rfl))
    cases e
    cases hj
end Go.Proofs.YtoelbgjpmpoolaaGreat
namespace Go.Proofs.YtoelbgjpmpoolaaGreat
open Go Dv
set_option maxRecDepth 10000
set_option linter.unusedSimpArgs false
section
variable (B : Zbk → Zbk)
def mapB (l : List Zbk) (k : Nat) : List Zbk := (List.range l.length).map fun q => if q < k then B (l.getD q default) else l.getD q default
def mapF (f : Func) (k : Nat) : Func := { f with blocks := mapB B f.blocks k }
def curL (l : List Func) (n : Nat) : List Func := (List.range l.length).map fun j => if j < n then mapF B (l.getD j default) (l.getD j default).blocks.length else l.getD j default
def Zb1 (m : Zaj) : Zaj := ⟨m.funcs.map fun f => { f with blocks := f.blocks.map B }⟩
end
theorem range_getD {α : Type} (d : α) (f : Nat → α) {n i : Nat} (h : i < n) : ((List.range n).map f).getD i d = f i := by
  simp [List.getD_eq_getElem?_getD, h]
theorem Zfl {B : Zbk → Zbk} (l : List Zbk) (k : Nat) : (mapB B l k).length = l.length := by simp [mapB]
theorem mapB_at {B : Zbk → Zbk} {l : List Zbk} {k q : Nat} (h : q < l.length) : (mapB B l k).getD q default = if q < k then B (l.getD q default) else l.getD q default := range_getD _ _ h
theorem Zdd {B : Zbk → Zbk} (l : List Func) (k : Nat) : (curL B l k).length = l.length := by simp [curL]
theorem curL_at {B : Zbk → Zbk} {l : List Func} {k q : Nat} (h : q < l.length) : (curL B l k).getD q default = if q < k then mapF B (l.getD q default) (l.getD q default).blocks.length else l.getD q default := range_getD _ _ h
theorem mapB_all {B : Zbk → Zbk} (l : List Zbk) : mapB B l l.length = l.map B := by
  refine Zby default (by simp [mapB]) (fun i hi => ?_)
  rw [Zfl] at hi
  rw [mapB_at hi, if_pos hi, Zb4 (d := default) (l := l.map B) (by simpa using hi), Zb4 _ hi]; simp
theorem curL_all {B : Zbk → Zbk} (l : List Func) : curL B l l.length = (Zb1 B ⟨l⟩).funcs := by
  refine Zby default (by simp [curL, Zb1]) (fun i hi => ?_)
  rw [Zdd] at hi
  rw [curL_at hi, if_pos hi]
  simp only [Zb1]
  rw [Zb4 (d := default) (l := l.map _) (by simpa using hi), List.getElem_map, mapF, mapB_all, Zb4 _ hi]
theorem curL_zero {B : Zbk → Zbk} (l : List Func) : curL B l 0 = l := by
  refine Zby default (by simp [curL]) (fun i hi => ?_)
  rw [Zdd] at hi
  rw [curL_at hi, if_neg (Nat.not_lt_zero i)]
theorem curL_blen {B : Zbk → Zbk} {l : List Func} {k q : Nat} (h : q < l.length) : ((curL B l k).getD q default).blocks.length = (l.getD q default).blocks.length := by
  rw [curL_at h]; split
  · simp [mapF, Zfl]
  · rfl
theorem curL_sig {B : Zbk → Zbk} {l : List Func} {k q : Nat} (h : q < l.length) : ((curL B l k).getD q default).params = (l.getD q default).params ∧ ((curL B l k).getD q default).regs = (l.getD q default).regs := by
  rw [curL_at h]; split <;> exact ⟨rfl, rfl⟩
def rdM (l : List Func) : List Dv.Id := (900, 0, 0) :: (List.range l.length).map fun j => (1000, j, 0)
theorem rdM_head (l : List Func) : (900, 0, 0) ∈ rdM l := by simp [rdM]
theorem rdM_at {l : List Func} {j : Nat} (h : j < l.length) : (1000, j, 0) ∈ rdM l := by simp [rdM, h]
theorem modH1_dom {l : List Func} {i : Dv.Id} (h : (modH1 l i).isSome = true) : i = (900, 0, 0) ∨ ∃ j, i = (1000, j, 0) := by
  cases e : modH1 l i with
  | none => rw [e] at h; cases h
  | some b =>
    rcases copyH_sub l i b e with ⟨h1, _⟩ | ⟨j, h1, _⟩
    · exact .inl h1
    · exact .inr ⟨j, h1⟩
theorem rel_mod {h : Zan} {l l' : List Func} (hl : l'.length = l.length) (hs : ∀ j, j < l.length → (l'.getD j default).params = (l.getD j default).params ∧ (l'.getD j default).regs = (l.getD j default).regs ∧ (l'.getD j default).blocks.length = (l.getD j default).blocks.length)
    (h900 : h (900, 0, 0) = some (funR1 l (mem1 l))) (h1000 : ∀ j, j < l.length → h (1000, j, 0) = some (Zfe (l'.getD j default).blocks)) : Rel h (.agg [.rs (900, 0, 0) 3 0 l.length]) (.agg (Zbn ⟨l'⟩)) := by
  refine Rel.agg (Rels.cons ?_ Rels.nil)
  show Rel h _ (.sl 3 l'.length _)
  rw [hl]
  refine Rel.rs (imm := false) (k := l.length) (f := fun j => [iv (l.getD j default).params, iv (l.getD j default).regs, mem1 l j]) h900 (Nat.le_of_eq (Nat.zero_add _)) (fun i hi => ?_)
  obtain ⟨h1, h2, h3⟩ := hs i hi
  rw [Nat.zero_add]
  refine Rels.cons (Rel.int h1.symm) (Rels.cons (Rel.int h2.symm) (Rels.cons ?_ Rels.nil))
  show Rel h (.rs (1000, i, 0) 14 0 (l.getD i default).blocks.length) (.sl 14 (l'.getD i default).blocks.length _)
  rw [← h3]
  refine Rel.rs (imm := true) (k := (l'.getD i default).blocks.length) (f := fun q => Za6 ((l'.getD i default).blocks.getD q default)) (h1000 i hi) (Nat.le_of_eq (Nat.zero_add _)) (fun q hq => ?_)
  rw [Nat.zero_add]
  exact Rels.imm rfl
theorem ress_mod {h : Zan} {l : List Func} (h900 : h (900, 0, 0) = some (funR1 l (mem1 l))) (h1000 : ∀ j, j < l.length → h (1000, j, 0) = some (Zfe (l.getD j default).blocks)) : Ress h (rdM l) [.agg [.rs (900, 0, 0) 3 0 l.length]] [.agg (Zbn ⟨l⟩)] :=
  .cons (.agg (.cons (.rsN (imm := false) (f := fun j => [iv (l.getD j default).params, iv (l.getD j default).regs, mem1 l j]) h900 (rdM_head l) (Nat.le_of_eq (Nat.zero_add _)) rfl (fun i hi => by
    rw [Nat.zero_add]
    exact .cons (.imm rfl) (.cons (.imm rfl) (.cons (.rsN (imm := true) (f := fun q => Za6 ((l.getD i default).blocks.getD q default)) (h1000 i hi) (rdM_at hi) (Nat.le_of_eq (Nat.zero_add _)) rfl (fun q hq => by rw [Nat.zero_add]; exact Ress.imms rfl)) .nil)))) .nil)) .nil
theorem GB_fun1 {src : Dv.Id → Option Dv.Id} {h h' : Zan} {l : List Func} {c c' : Nat → AV} (hc : ∀ q, q < l.length → GV src h h' (c q) (c' q)) : GB src h h' (funR1 l c) (funR1 l c') :=
  GB.row (Nat.le_refl _) (fun q hq => .cons (.imm rfl) (.cons (.imm rfl) (.cons (hc q hq) .nil))) (fun e => by cases e)
theorem nbeq {q i : Nat} (h : q ≠ i) : (!(Nat.beq q i)) = true := by
  cases e : Nat.beq q i with
  | false => rfl
  | true => exact absurd (Nat.eq_of_beq_eq_true e) h
def errM (m : Zaj) : Int := if Zbj m = true then 0 else 1
def doneM (B : Zbk → Zbk) (m : Zaj) : Zaj := if Zbj m = true then Zb1 B m else m
theorem keep1 {src : Dv.Id → Option Dv.Id} {h h' : Zan} {fs : List Func} {i q m : Nat} {b b2 : Zam} (h1 : q ≠ i → h' (1000, q, 0) = some b) (hs : src (1000, q, 0) = some (1000, q, 0)) (h2 : h' (901, 0, 0) = some b2) (hs2 : src (901, 0, 0) = some (901, 0, 0)) :
    GV src h h' (sel (Nat.beq q i) (.rs (901, 0, 0) 14 0 m) (mem1 fs q)) (sel (Nat.beq q i) (.rs (901, 0, 0) 14 0 m) (mem1 fs q)) := by
  by_cases e : q = i
  · subst e
    exact .cc Zei Zei (.rs h2 hs2 rfl rfl)
  · exact .cc (sel_ne e) (sel_ne e) (.rs (h1 e) hs rfl rfl)
end Go.Proofs.YtoelbgjpmpoolaaGreat
namespace Go.Proofs.YtoelbgjpmpoolaaGreat
open Go Dv
set_option maxRecDepth 10000
set_option linter.unusedSimpArgs false
section
variable {B : Zbk → Zbk}
theorem map_getD {l : List Zbk} {i : Nat} (h : i < l.length) : (l.map B).getD i default = B (l.getD i default) := by
  rw [List.getD_eq_getElem?_getD, List.getElem?_map, List.getElem?_eq_getElem h, Zb4 default h]; rfl
theorem map_out {l : List Zbk} {i : Nat} (h : ¬ i < l.length) : (l.map B).getD i default = l.getD i default := by
  rw [List.getD_eq_getElem?_getD, List.getElem?_eq_none (by simp; omega), List.getD_eq_getElem?_getD, List.getElem?_eq_none (by omega)]
theorem pass_at {m : Zaj} {k : Nat} (h : k < m.funcs.length) : (Zb1 B m).funcs.getD k default = { m.funcs.getD k default with blocks := (m.funcs.getD k default).blocks.map B } := by
  show (m.funcs.map _).getD k default = _
  rw [List.getD_eq_getElem?_getD, List.getElem?_map, List.getElem?_eq_getElem h, Zb4 default h]; rfl
theorem pass_len (m : Zaj) : (Zb1 B m).funcs.length = m.funcs.length := by simp [Zb1]
theorem args_pass (m : Zaj) (f : Func) (n : Int) (l : List Int) : argsB (Zb1 B m) { f with blocks := f.blocks.map B } n l = argsB m f n l := by
  unfold argsB
  rw [pass_len]
  cases h : inn n m.funcs.length with
  | false => rfl
  | true =>
    have := (Zad _ _).1 h
    rw [pass_at (by omega)]
theorem land_pass {l : List Zbk} (hl : ∀ b ∈ l, (B b).landing = b.landing) (i : Nat) : ((l.map B).getD i default).landing = (l.getD i default).landing := by
  by_cases h : i < l.length
  · rw [map_getD h]; exact hl _ (Zcp _ h)
  · rw [map_out h]
theorem goal_pass {f : Func} (hl : ∀ b ∈ f.blocks, (B b).landing = b.landing) (n : Int) : goalB { f with blocks := f.blocks.map B } n = goalB f n := by
  unfold goalB
  simp only [List.length_map]
  rw [land_pass hl]
theorem blk_pass {m : Zaj} {f : Func} (hl : ∀ b ∈ f.blocks, (B b).landing = b.landing) (b : Zbk) : blkB (Zb1 B m) { f with blocks := f.blocks.map B } b = blkB m f b := by
  have hI : ∀ x, InsP (Zb1 B m) { f with blocks := f.blocks.map B } x ↔ InsP m f x := fun x => by
    unfold InsP; rw [args_pass]
  have hE : ∀ x, EndP (Zb1 B m) { f with blocks := f.blocks.map B } x ↔ EndP m f x := fun x => by
    unfold EndP; rw [args_pass, goal_pass hl, goal_pass hl]
    simp only [List.length_map]
    rw [land_pass hl]
  have hP : PadP { f with blocks := f.blocks.map B } b ↔ PadP f b := Iff.rfl
  unfold blkB
  congr 1
  · rw [decide_eq_decide, hE, hP]
  · congr 1; funext x; rw [decide_eq_decide]; exact hI x
theorem right_pass {m : Zaj} (hr : Zbj m = true) (hB : ∀ f b, funcB m f = true → blkB m f b = true → (B b).landing = b.landing ∧ blkB m f (B b) = true) : Zbj (Zb1 B m) = true := by
  have hr' := hr
  unfold Zbj at hr ⊢
  rw [Bool.and_eq_true, decide_eq_true_eq, List.all_eq_true] at hr ⊢
  obtain ⟨⟨h1, h2, h3⟩, h4⟩ := hr
  refine ⟨⟨by rw [pass_len]; exact h1, by rw [pass_len]; exact h2, ?_⟩, fun f hf => ?_⟩
  · rw [pass_at (by omega)]; exact h3
  · obtain ⟨g, hg, rfl⟩ := List.mem_map.1 hf
    have hF := h4 g hg
    have hFb : ∀ b ∈ g.blocks, blkB m g b = true := by
      have := hF; unfold funcB at this; rw [Bool.and_eq_true, List.all_eq_true] at this; exact this.2
    have hl : ∀ b ∈ g.blocks, (B b).landing = b.landing := fun b hb => (hB g b hF (hFb b hb)).1
    have hP := okF_funP hF
    unfold funcB
    rw [Bool.and_eq_true, decide_eq_true_eq, List.all_eq_true]
    refine ⟨?_, fun b hb => ?_⟩
    · unfold FunP at hP ⊢
      simp only [List.length_map]
      rw [land_pass hl]; exact hP
    · rw [blk_pass hl]
      obtain ⟨c, hc, rfl⟩ := List.mem_map.1 hb
      exact (hB g c hF (hFb c hc)).2
theorem funOf_pass {m : Zaj} {f : Zax} (h : OkF m f) : Zda (Zb1 B m) f = { Zda m f with blocks := (Zda m f).blocks.map B } := pass_at (by have := h.f0; have := h.f1; omega)
theorem Zec {m : Zaj} {f : Zax} (h : OkF m f) : Zaq (Zb1 B m) f = B (Zaq m f) := by
  unfold Zaq
  rw [funOf_pass h]
  exact map_getD (by have := h.b0; have := h.b1; omega)
theorem frN_pass {m : Zaj} {n : Int} {args : List Int} (h0 : 0 ≤ n) (h1 : n < m.funcs.length) : frN (Zb1 B m) n args = frN m n args := by
  unfold frN; rw [pass_at (by omega)]
theorem called_pass {m : Zaj} {s : Mach} {n : Int} {l : List Int} (h0 : 0 ≤ n) (h1 : n < m.funcs.length) : Zcl (Zb1 B m) s n l = Zcl m s n l := by
  unfold Zcl; rw [frN_pass h0 h1]
end
end Go.Proofs.YtoelbgjpmpoolaaGreat
namespace Go.Proofs.YtoelbgjpmpoolaaGreat
open Go Dv
set_option maxRecDepth 10000
set_option linter.unusedSimpArgs false
end Go.Proofs.YtoelbgjpmpoolaaGreat
namespace Go.Proofs.YtoelbgjpmpoolaaGreat
open Go Dv
set_option maxRecDepth 10000
set_option linter.unusedSimpArgs false
end Go.Proofs.YtoelbgjpmpoolaaGreat
namespace Go.Proofs.YtoelbgjpmpoolaaGreat
open Go Dv
set_option maxRecDepth 10000
set_option linter.unusedSimpArgs false
end Go.Proofs.YtoelbgjpmpoolaaGreat
namespace Go.Proofs.YtoelbgjpmpoolaaGreat
open Go Dv
set_option maxRecDepth 10000
set_option linter.unusedSimpArgs false
end Go.Proofs.YtoelbgjpmpoolaaGreat
namespace Go.Proofs.YtoelbgjpmpoolaaGreat
open Go Dv
set_option maxRecDepth 10000
set_option linter.unusedSimpArgs false
theorem end4 {m : Zaj} {f : Func} {b : Zbk} (h : blkB m f b = true) (hk : b.fin.kind = 4) : inn b.fin.dst f.regs = true ∧ argsB m f b.fin.f b.fin.args = true ∧ goalB f b.fin.to = true := by
  unfold blkB at h; rw [Bool.and_eq_true, decide_eq_true_eq] at h
  rcases h.1.2.2 with e | e | e | e | e
  · omega
  · omega
  · omega
  · exact ⟨e.2.2.1, e.2.2.2.1, e.2.2.2.2.1⟩
  · omega
end Go.Proofs.YtoelbgjpmpoolaaGreat
namespace Go.Proofs.YtoelbgjpmpoolaaGreat
open Go Dv
set_option maxRecDepth 10000
set_option linter.unusedSimpArgs false
theorem ins_pass {B : Zbk → Zbk} {m : Zaj} {s : Mach} {f : Zax} {x : Ins} (h : x.op = 11 → 0 ≤ x.f ∧ x.f < m.funcs.length) : insM (Zb1 B m) s f x = insM m s f x := by
  unfold insM
  by_cases h11 : x.op = 11
  · rw [if_pos h11, if_pos h11]
    exact called_pass (h h11).1 (h h11).2
  · rw [if_neg h11, if_neg h11]
section
variable {m : Zaj} {O : List Bool}
end
end Go.Proofs.YtoelbgjpmpoolaaGreat
namespace Go.Proofs.YtoelbgjpmpoolaaGreat
open Go Dv
set_option maxRecDepth 10000
set_option linter.unusedSimpArgs false
structure SameB (B : Zbk → Zbk) (m : Zaj) (Q : Zax → Prop) : Prop where
  len : ∀ b, (B b).ins.length = b.ins.length
  pad : ∀ b, (B b).pad = b.pad
  mid : ∀ f s, OkF m f → endB m f = false → Q f → insM m s f ((B (Zaq m f)).ins.getD f.at_.toNat default) = insM m s f (Zbg m f)
  call : ∀ f, OkF m f → endB m f = false → ((Zbg m f).op = 11 ∨ ((B (Zaq m f)).ins.getD f.at_.toNat default).op = 11) → (B (Zaq m f)).ins.getD f.at_.toNat default = Zbg m f
  fin : ∀ f, OkF m f → endB m f = true → Q f → (Zaq m f).fin.kind ≠ 3 → (B (Zaq m f)).fin = (Zaq m f).fin
  br : ∀ f, OkF m f → endB m f = true → Q f → (Zaq m f).fin.kind = 3 → ((B (Zaq m f)).fin.kind = 2 ∨ (B (Zaq m f)).fin.kind = 3) ∧ goF (B (Zaq m f)) f = goF (Zaq m f) f
section
variable {B : Zbk → Zbk} {m : Zaj} {Q : Zax → Prop}
theorem sameB_end (hS : SameB B m Q) {f : Zax} (h : OkF m f) : endB (Zb1 B m) f = endB m f := by
  unfold endB; rw [Zec h, hS.len]
theorem sameB_padL (hS : SameB B m Q) (l : List Zbk) (i : Nat) : ((l.map B).getD i default).pad = (l.getD i default).pad := by
  by_cases h : i < l.length
  · rw [map_getD h]; exact hS.pad _
  · rw [map_out h]
theorem sameB_insOf {f : Zax} (h : OkF m f) : Zbg (Zb1 B m) f = (B (Zaq m f)).ins.getD f.at_.toNat default := by
  unfold Zbg; rw [Zec h]
theorem sameB_answ (hS : SameB B m Q) {f : Zax} (h : OkF m f) (hc : CallF m f) (hq : Q f) (w : Int) : answF (Zb1 B m) f w = answF m f w := by
  unfold answF
  rw [sameB_end hS h]
  by_cases he : endB m f = true
  · rw [if_pos he, if_pos he, Zec h, hS.fin f h he hq (by rw [hc.fin he]; decide)]
  · have he : endB m f = false := by simpa using he
    rw [if_neg (by rw [he]; simp), if_neg (by rw [he]; simp)]
    show { frW f (Zbg (Zb1 B m) f).dst w with at_ := f.at_ + 1 } = { frW f (Zbg m f).dst w with at_ := f.at_ + 1 }
    rw [sameB_insOf h, hS.call f h he (.inl (hc.ins he))]
theorem sameB_catch (hS : SameB B m Q) {f : Zax} (h : OkF m f) (hc : CallF m f) (hq : Q f) (w : Int) (c : Bool) : Zd5 (Zb1 B m) f w c = Zd5 m f w c := by
  unfold Zd5
  rw [sameB_end hS h]
  by_cases he : endB m f = true
  · have hf := hS.fin f h he hq (by rw [hc.fin he]; decide)
    have hpe : padF (Zb1 B m) f = padF m f := by
      unfold padF; rw [Zec h, hf, funOf_pass h]; exact sameB_padL hS _ _
    rw [Zec h, hf, hpe]
  · have he : endB m f = false := by simpa using he
    rw [he]; rfl
theorem sameB_land (hS : SameB B m Q) {f : Zax} (h : OkF m f) (hc : CallF m f) (hq : Q f) (he : endB m f = true) (w : Int) : landF (Zb1 B m) f (Zaq (Zb1 B m) f).fin.pad w = landF m f (Zaq m f).fin.pad w := by
  have hf := hS.fin f h he hq (by rw [hc.fin he]; decide)
  unfold landF
  rw [Zec h, hf]
  have : (padOf (Zb1 B m) f (Zaq m f).fin.pad).pad = (padOf m f (Zaq m f).fin.pad).pad := by
    show ((Zda (Zb1 B m) f).blocks.getD _ default).pad = ((Zda m f).blocks.getD _ default).pad
    rw [funOf_pass h]; exact sameB_padL hS _ _
  rw [this]
theorem sameB_thrown (hS : SameB B m Q) {s : Mach} (hs : OkM m s) (hq : ∀ f ∈ s.stack, Q f) (hl : 0 < s.stack.length) (w : Int) : Zb7 (Zb1 B m) s w = Zb7 m s w := by
  have hpl := Zc4 (s := s)
  have e1 : ∀ i, i < (popM s).stack.length → (popM s).stack.getD i default = s.stack.getD i default := fun i hi => Zcm _ (by omega)
  have hmem : ∀ i, i < (popM s).stack.length → s.stack.getD i default ∈ s.stack := fun i hi => Zcp _ (by omega)
  have hC : ∀ i, i < (popM s).stack.length → ∀ c, Zb2 (Zb1 B m) (popM s).stack w c i = Zb2 m (popM s).stack w c i := fun i hi c => by
    unfold Zb2; rw [e1 i hi]
    exact sameB_catch hS (hs.fr _ (hmem i hi)) (hs.ca _ (top_take (by omega))) (hq _ (hmem i hi)) w c
  unfold Zb7
  dsimp only
  rw [any_congr (fun i hi => hC i hi false)]
  split
  · rename_i hany
    rw [List.any_eq_true] at hany
    obtain ⟨i, hi, hic⟩ := hany
    rw [List.mem_range] at hi
    obtain ⟨hK1, hK2⟩ := Zf6 (p := Zb2 m (popM s).stack w true) (n := (popM s).stack.length - 1) ⟨i, by omega, catch_more hic⟩
    rw [downK_congr (fun i hi => hC i (by omega) true)]
    generalize Ze1 (Zb2 m (popM s).stack w true) ((popM s).stack.length - 1) = K at hK1 hK2
    have hKl : K < (popM s).stack.length := by omega
    unfold Zb2 at hK1
    rw [e1 K hKl] at hK1 ⊢
    have hc : endB m (s.stack.getD K default) = true := by
      unfold Zd5 at hK1
      simp only [Bool.and_eq_true] at hK1
      exact hK1.1
    rw [sameB_land hS (hs.fr _ (hmem K hKl)) (hs.ca _ (top_take (by omega))) (hq _ (hmem K hKl)) hc]
  · rfl
theorem sameB_step (hr : Zbj m = true) (hS : SameB B m Q) {s : Mach} (hs : OkM m s) (hq : ∀ f ∈ s.stack, Q f) : Zeo (Zb1 B m) s = Zeo m s := by
  by_cases hd : s.done = 0
  · have hl := hs.pos hd
    have hF := hs.fr _ (Zfs hl)
    have hQ := hq _ (Zfs hl)
    have e1 : Zeo m s = stepE m s (topF s) (Zaq m (topF s)) := if_pos hd
    have e2 : Zeo (Zb1 B m) s = stepE (Zb1 B m) s (topF s) (Zaq (Zb1 B m) (topF s)) := if_pos hd
    have hE := (Zft hr hF).2
    rw [e1, e2]
    unfold stepE
    rw [sameB_end hS hF]
    by_cases he : endB m (topF s) = true
    · rw [if_neg (show ¬ endB m (topF s) = false by rw [he]; simp), if_neg (show ¬ endB m (topF s) = false by rw [he]; simp), Zec hF]
      by_cases h3 : (Zaq m (topF s)).fin.kind = 3
      · obtain ⟨k1, k2⟩ := hS.br _ hF he hQ h3
        rw [if_neg (show ¬ (B (Zaq m (topF s))).fin.kind = 1 by omega), if_neg (show ¬ (B (Zaq m (topF s))).fin.kind = 4 by omega), if_neg (show ¬ (B (Zaq m (topF s))).fin.kind = 5 by omega), if_neg (show ¬ (B (Zaq m (topF s))).fin.kind = 6 by omega),
          if_neg (show ¬ (Zaq m (topF s)).fin.kind = 1 by omega), if_neg (show ¬ (Zaq m (topF s)).fin.kind = 4 by omega), if_neg (show ¬ (Zaq m (topF s)).fin.kind = 5 by omega), if_neg (show ¬ (Zaq m (topF s)).fin.kind = 6 by omega), k2]
      · have hf := hS.fin _ hF he hQ h3
        rw [hf]
        by_cases h1 : (Zaq m (topF s)).fin.kind = 1
        · rw [if_pos h1, if_pos h1]
          unfold Zcb
          split
          · rfl
          · rename_i hn
            obtain ⟨k1, k2⟩ := Zgk hs (by omega)
            rw [sameB_answ hS k1 k2 (hq _ (by rw [top_pop (by omega)]; exact Zcp _ (by omega)))]
        rw [if_neg h1, if_neg h1]
        by_cases h4 : (Zaq m (topF s)).fin.kind = 4
        · rw [if_pos h4, if_pos h4]
          have hn := argsB_n (end4 (okF_blk hr hF hF.b0 hF.b1) h4).2.1
          exact called_pass hn.1.1 hn.1.2
        rw [if_neg h4, if_neg h4]
        by_cases h5 : (Zaq m (topF s)).fin.kind = 5
        · rw [if_pos h5, if_pos h5]
          exact sameB_thrown hS hs hq hl _
        rw [if_neg h5, if_neg h5]
        by_cases h6 : (Zaq m (topF s)).fin.kind = 6
        · rw [if_pos h6, if_pos h6]
          exact sameB_thrown hS hs hq hl _
        rw [if_neg h6, if_neg h6]
        unfold goF
        rw [hf]
    · have he : endB m (topF s) = false := by simpa using he
      rw [if_pos he, if_pos he]
      show insM (Zb1 B m) s (topF s) (Zbg (Zb1 B m) (topF s)) = insM m s (topF s) (Zbg m (topF s))
      rw [sameB_insOf hF, ← hS.mid _ s hF he hQ]
      refine ins_pass (fun h11 => ?_)
      have e := hS.call _ hF he (.inr h11)
      rw [e] at h11 ⊢
      have hI := (Zgn hr hF he).2
      rcases hI with h | h | h | h | h | h | h
      · omega
      · omega
      · omega
      · omega
      · exact (argsB_n h.2.2.2.2.2).1
      · omega
      · omega
  · rw [show Zeo m s = s from if_neg hd, show Zeo (Zb1 B m) s = s from if_neg hd]
theorem sameB_run (hr : Zbj m = true) (hQ : FrInv m Q) (hS : SameB B m Q) {inputs : List Int} (hi : (∀ x ∈ inputs, 0 ≤ x ∧ x ≤ 65535) ∧ inputs.length < 1000000) : ∀ k, runM (Zb1 B m) inputs k = runM m inputs k
  | 0 => by
      show (⟨[frN (Zb1 B m) 0 []], _, _, _, _, _⟩ : Mach) = ⟨[frN m 0 []], _, _, _, _, _⟩
      rw [frN_pass (by omega) (by have := (right0 hr).1; omega)]
  | k + 1 => by
      show Zeo (Zb1 B m) (runM (Zb1 B m) inputs k) = Zeo m (runM m inputs k)
      rw [sameB_run hr hQ hS hi k]
      exact sameB_step hr hS (okM_run hr hi k) (all_run hr hQ hi k)
end
end Go.Proofs.YtoelbgjpmpoolaaGreat
namespace Go.Proofs.YtoelbgjpmpoolaaGreat
open Go Dv
set_option maxRecDepth 10000
set_option linter.unusedSimpArgs false
theorem getD_setNe {l : List Int} {i j : Nat} {v : Int} (h : i ≠ j) : (l.set i v).getD j 0 = l.getD j 0 := by rw [Zfm, if_neg (fun e => h e.1)]
theorem passM_again {B : Zbk → Zbk} (h : ∀ b, B (B b) = B b) (m : Zaj) : Zb1 B (Zb1 B m) = Zb1 B m := by
  unfold Zb1
  simp only [List.map_map]
  congr 1
  refine List.map_congr_left (fun f _ => ?_)
  show ({ f with blocks := (f.blocks.map B).map B } : Func) = { f with blocks := f.blocks.map B }
  rw [List.map_map]
  congr 1
  exact List.map_congr_left (fun b _ => h b)
theorem dst_in {m : Zaj} {F : Func} {x : Ins} (hI : InsP m F x) (h : x.op ≠ 10 ∧ x.op ≠ 12) : inn x.dst F.regs = true := by
  rcases hI with h | h | h | h | h | h | h <;> first | omega | exact h.2.1
end Go.Proofs.YtoelbgjpmpoolaaGreat
namespace Go.Proofs.YtoelbgjpmpoolaaGreat
open Go Dv
set_option maxRecDepth 10000
set_option linter.unusedSimpArgs false
theorem foldIns_get : ∀ {l : List Ins} {M : Mp} {i : Nat}, i < l.length → (Zbb M l).1.getD i default = Zca (Zbb M (l.take i)).2 (l.getD i default)
  | [], _, _, h => by simp at h
  | x :: r, M, 0, _ => rfl
  | x :: r, M, i + 1, h => by
      show (Zbb (Zdq M (Zca M x)) r).1.getD i default = Zca (Zbb (Zdq M (Zca M x)) (r.take i)).2 (r.getD i default)
      exact foldIns_get (by simpa using h)
theorem foldB_get {b : Zbk} {i : Nat} (h : i < b.ins.length) : (Zap b).ins.getD i default = Zca (Zb9 b.ins i) (b.ins.getD i default) := foldIns_get h
theorem mapAt_nx {l : List Ins} {i : Nat} (h : i < l.length) : Zb9 l (i + 1) = Zdq (Zb9 l i) (Zca (Zb9 l i) (l.getD i default)) := by
  unfold Zb9; rw [Zdk default h, Zfn]
structure HoldK (M : Mp) (regs : List Int) : Prop where
  nd : (M.map (·.1)).Nodup
  eq : ∀ p v, Zbx M [p] = some v → 0 ≤ p → regs.getD p.toNat 0 = v
theorem ansW_op {M : Mp} {x : Ins} (h : (ansW M x).2 = true) : 2 ≤ x.op ∧ x.op ≤ 8 := by
  unfold ansW at h
  split at h
  · cases h
  · split at h
    · rename_i hp
      unfold pureO at hp
      cases h2 : decide (2 ≤ x.op) with
      | false => rw [h2] at hp; cases hp
      | true => rw [h2, cond_true, decide_eq_true_eq] at hp; rw [decide_eq_true_eq] at h2; exact ⟨h2, hp⟩
    · cases h
theorem ansW_reck {M : Mp} {f : Zax} {x : Ins} (hM : HoldK M f.regs) (h : (ansW M x).2 = true) (h0 : 0 ≤ x.a ∧ (2 < x.op → 0 ≤ x.b)) : reckV f x = ansW M x := by
  have hop := ansW_op h
  unfold ansW at h ⊢
  unfold reckV
  rw [if_neg (by omega)]
  cases ha : Zbx M [x.a] with
  | none => rw [ha] at h; cases h
  | some a =>
    rw [ha] at h
    simp only at h ⊢
    have ea := hM.eq _ _ ha h0.1
    split at h
    · rename_i hp
      rw [if_pos hp]
      split at h
      · rename_i h2
        rw [if_pos h2]
        have h3 := twoO_iff.1 h2
        rw [if_pos (by omega)]
        cases hb : Zbx M [x.b] with
        | none => rw [hb] at h; cases h
        | some b =>
          have eb := hM.eq _ _ hb (h0.2 (by omega))
          simp only
          rw [ea, eb]
      · rename_i h2
        rw [if_neg h2]
        have : ¬ 2 < x.op := fun h3 => h2 (twoO_iff.2 ⟨by omega, hop.2⟩)
        rw [if_neg this, ea]
    · cases h
theorem places_in {m : Zaj} {F : Func} {x : Ins} (hI : InsP m F x) (h : 2 ≤ x.op ∧ x.op ≤ 8) : 0 ≤ x.a ∧ (2 < x.op → 0 ≤ x.b) := by
  rcases hI with h | h | h | h | h | h | h
  · omega
  · exact ⟨((Zad _ _).1 h.2.2.1).1, fun _ => by omega⟩
  · exact ⟨((Zad _ _).1 h.2.2.1).1, fun _ => ((Zad _ _).1 h.2.2.2.1).1⟩
  · omega
  · omega
  · omega
  · omega
theorem holdK_put {M : Mp} {regs : List Int} (h : HoldK M regs) {p v : Int} (p0 : 0 ≤ p) (hp : p.toNat < regs.length) : HoldK (mput M [p] v) (regs.set p.toNat v) := by
  refine ⟨mput_keys h.nd, fun q w hq q0 => ?_⟩
  rw [Zf0] at hq
  split at hq
  · rename_i e
    injection e with e
    subst e
    cases hq
    rw [Zfm, if_pos ⟨rfl, hp⟩]
  · rename_i e
    rw [getD_setNe (fun e2 => e (by congr 1; omega))]
    exact h.eq _ _ hq q0
theorem holdK_del {M : Mp} {regs : List Int} (h : HoldK M regs) {p : Int} (v : Int) (p0 : 0 ≤ p) : HoldK (mdel M [p]) (regs.set p.toNat v) := by
  refine ⟨mdel_keys h.nd, fun q w hq q0 => ?_⟩
  obtain ⟨e, hq⟩ := (mlook_mdel h.nd).1 hq
  rw [getD_setNe (fun e2 => e (by congr 1; omega))]
  exact h.eq _ _ hq q0
def QK (m : Zaj) (f : Zax) : Prop := HoldK (Zb9 (Zaq m f).ins f.at_.toNat) f.regs
theorem qk_zero {m : Zaj} {f : Zax} (h : f.at_ = 0) : QK m f := by
  unfold QK
  rw [h]
  exact ⟨List.nodup_nil, fun p v h => by cases h⟩
theorem qk_next {m : Zaj} {f : Zax} (hr : Zbj m = true) (hf : OkF m f) (he : endB m f = false) (h : QK m f) (hop : (Zbg m f).op ≠ 10 ∧ (Zbg m f).op ≠ 12) (v : Int) (hv : (Zbg m f).op ≤ 8 → reckV f (Zbg m f) = (v, true)) :
    QK m { frW f (Zbg m f).dst v with at_ := f.at_ + 1 } := by
  obtain ⟨hlt, hI⟩ := Zgn hr hf he
  show HoldK (Zb9 (Zaq m f).ins (f.at_ + 1).toNat) (f.regs.set (Zbg m f).dst.toNat v)
  rw [toNat_nx hf.a0, mapAt_nx hlt]
  show HoldK (Zdq (Zb9 (Zaq m f).ins f.at_.toNat) (Zca (Zb9 (Zaq m f).ins f.at_.toNat) (Zbg m f))) _
  unfold QK at h
  generalize Zb9 (Zaq m f).ins f.at_.toNat = M at h
  have hd := (Zad _ _).1 (dst_in hI hop)
  have hR := hf.regs
  generalize Zbg m f = x at hI hop hv hd
  by_cases hh : (ansW M x).2 = true
  · have hop2 := ansW_op hh
    have e := ansW_reck h hh (places_in hI hop2)
    rw [hv (by omega)] at e
    have hy : Zca M x = ⟨1, x.dst, 0, 0, v, 0, []⟩ := by unfold Zca; rw [if_pos hh, ← e]
    rw [hy]
    unfold Zdq
    rw [if_neg (show ¬ ((1 : Int) = 10 ∨ (1 : Int) = 12) by decide), if_pos rfl]
    exact holdK_put h hd.1 (show x.dst.toNat < f.regs.length by omega)
  · have hy : Zca M x = x := if_neg hh
    rw [hy]
    unfold Zdq
    rw [if_neg (by omega)]
    split
    · rename_i h1
      have e := hv (by omega)
      unfold reckV at e
      rw [if_pos h1] at e
      injection e with e
      rw [e]
      exact holdK_put h hd.1 (by omega)
    · exact holdK_del h v hd.1
theorem inv_fold {m : Zaj} (hr : Zbj m = true) : FrInv m (QK m) := by
  refine ⟨fun n args _ _ => qk_zero rfl, fun f hf he hq h8 hok => ?_, fun f w hf he hq h => qk_next hr hf he hq (by omega) w (fun h2 => by omega), fun f hf he hq h => ?_, fun f hf he hq h => qk_zero rfl, fun f w hf he hq h => qk_zero rfl, fun f w hf he hq h => qk_zero rfl⟩
  · exact qk_next hr hf he hq (by omega) _ (fun _ => Prod.ext rfl hok)
  · obtain ⟨hlt, hI⟩ := Zgn hr hf he
    show HoldK (Zb9 (Zaq m f).ins (f.at_ + 1).toNat) f.regs
    rw [toNat_nx hf.a0, mapAt_nx hlt]
    show HoldK (Zdq (Zb9 (Zaq m f).ins f.at_.toNat) (Zca (Zb9 (Zaq m f).ins f.at_.toNat) (Zbg m f))) _
    have hy : Zca (Zb9 (Zaq m f).ins f.at_.toNat) (Zbg m f) = Zbg m f := if_neg (fun hh => by have := ansW_op hh; omega)
    rw [hy]
    unfold Zdq
    rw [if_pos h]
    exact hq
theorem sameB_fold {m : Zaj} (hr : Zbj m = true) : SameB Zap m (QK m) := by
  refine ⟨fun b => Zct _ _, fun b => rfl, fun f s hf he hq => ?_, fun f hf he h => ?_, fun f hf he hq h => ?_, fun f hf he hq h => ?_⟩
  · obtain ⟨hlt, hI⟩ := Zgn hr hf he
    rw [foldB_get hlt]
    show insM m s f (Zca (Zb9 (Zaq m f).ins f.at_.toNat) (Zbg m f)) = insM m s f (Zbg m f)
    unfold QK at hq
    generalize Zb9 (Zaq m f).ins f.at_.toNat = M at hq
    generalize Zbg m f = x at hI
    by_cases hh : (ansW M x).2 = true
    · have hop := ansW_op hh
      have e := ansW_reck hq hh (places_in hI hop)
      have hy : Zca M x = ⟨1, x.dst, 0, 0, (ansW M x).1, 0, []⟩ := if_pos hh
      have e3 : reckV f x = ((ansW M x).1, true) := by rw [e]; exact Prod.ext rfl hh
      have e2 : reckV f ⟨1, x.dst, 0, 0, (ansW M x).1, 0, []⟩ = ((ansW M x).1, true) := by unfold reckV; rw [if_pos rfl]
      rw [hy]
      unfold insM
      rw [if_neg (show ¬ (⟨1, x.dst, 0, 0, (ansW M x).1, 0, []⟩ : Ins).op = 11 by show ¬ (1 : Int) = 11; decide), if_pos (show (⟨1, x.dst, 0, 0, (ansW M x).1, 0, []⟩ : Ins).op ≤ 8 by show (1 : Int) ≤ 8; decide), if_neg (show ¬ x.op = 11 by omega), if_pos hop.2]
      have er : Zdc f ⟨1, x.dst, 0, 0, (ansW M x).1, 0, []⟩ = Zdc f x := by unfold Zdc; rw [e2, e3]
      rw [er]
    · rw [show Zca M x = x from if_neg hh]
  · obtain ⟨hlt, hI⟩ := Zgn hr hf he
    rw [foldB_get hlt] at h ⊢
    show Zca _ (Zbg m f) = Zbg m f
    refine if_neg (fun hh => ?_)
    have h2 := ansW_op (x := Zbg m f) hh
    rcases h with h | h
    · omega
    · have : (Zca (Zb9 (Zaq m f).ins f.at_.toNat) ((Zaq m f).ins.getD f.at_.toNat default)).op = 1 := by
        show (Zca _ (Zbg m f)).op = 1
        unfold Zca; rw [if_pos hh]
      omega
  · show Zce _ (Zaq m f).fin = (Zaq m f).fin
    unfold Zce
    split
    · rfl
    · rw [if_neg h]
  · show ((Zce _ (Zaq m f).fin).kind = 2 ∨ (Zce _ (Zaq m f).fin).kind = 3) ∧ _
    have hat : (Zbb [] (Zaq m f).ins).2 = Zb9 (Zaq m f).ins f.at_.toNat := by
      have : f.at_ = (Zaq m f).ins.length := by unfold endB at he; simpa using he
      rw [this]; unfold Zb9; rw [Int.toNat_natCast, List.take_length]
    have hE := (Zft hr hf).2
    have ha : 0 ≤ (Zaq m f).fin.a := by
      rcases hE with h2 | h2 | h2 | h2 | h2 <;> first | omega | exact ((Zad _ _).1 h2.2.1).1
    have hg : ∀ g : Zbk, g.fin = Zce (Zbb [] (Zaq m f).ins).2 (Zaq m f).fin → (g.fin.kind = 2 ∨ g.fin.kind = 3) ∧ goF g f = goF (Zaq m f) f := fun g hg => by
      rw [hat] at hg
      unfold QK at hq
      unfold Zce at hg
      cases hm : Zbx (Zb9 (Zaq m f).ins f.at_.toNat) [(Zaq m f).fin.a] with
      | none =>
        rw [hm] at hg
        exact ⟨.inr (by rw [hg]; exact h), by unfold goF; rw [hg]⟩
      | some v =>
        rw [hm] at hg
        simp only at hg
        rw [if_pos h] at hg
        have ev := hq.eq _ _ hm ha
        refine ⟨.inl (by rw [hg]), ?_⟩
        unfold goF
        rw [hg]
        simp only
        rw [if_neg (fun e => absurd e.1 (by decide))]
        by_cases hz : v = 0
        · rw [if_pos hz, if_pos ⟨h, by unfold regA; rw [ev]; exact hz⟩]
        · rw [if_neg hz, if_neg (fun e => hz (by have := e.2; unfold regA at this; rw [ev] at this; exact this))]
    exact hg (Zap (Zaq m f)) rfl
theorem foldY_again (M : Mp) (x : Ins) : Zca M (Zca M x) = Zca M x := by
  by_cases hh : (ansW M x).2 = true
  · have hy : Zca M x = ⟨1, x.dst, 0, 0, (ansW M x).1, 0, []⟩ := if_pos hh
    rw [hy]
    exact if_neg (fun h => by have := ansW_op h; have e : (1 : Int) = (⟨1, x.dst, 0, 0, (ansW M x).1, 0, []⟩ : Ins).op := rfl; omega)
  · rw [show Zca M x = x from if_neg hh]
    exact if_neg hh
theorem foldIns_again : ∀ (l : List Ins) (M : Mp), Zbb M (Zbb M l).1 = Zbb M l
  | [], _ => rfl
  | x :: r, M => by
      show (Zca M (Zca M x) :: (Zbb (Zdq M (Zca M (Zca M x))) (Zbb (Zdq M (Zca M x)) r).1).1, (Zbb (Zdq M (Zca M (Zca M x))) (Zbb (Zdq M (Zca M x)) r).1).2) = (Zca M x :: (Zbb (Zdq M (Zca M x)) r).1, (Zbb (Zdq M (Zca M x)) r).2)
      rw [foldY_again, foldIns_again r]
theorem foldEnd_again (M : Mp) (e : End) : Zce M (Zce M e) = Zce M e := by
  unfold Zce
  cases h : Zbx M [e.a] with
  | none => simp only; rw [h]
  | some v =>
    simp only
    by_cases h3 : e.kind = 3
    · rw [if_pos h3]
      simp only
      cases Zbx M [0] with
      | none => rfl
      | some w => simp only; rw [if_neg (by decide)]
    · rw [if_neg h3, h]; simp only; rw [if_neg h3]
theorem foldBlock_again (b : Zbk) : Zap (Zap b) = Zap b := by
  show ({ b with ins := (Zbb [] (Zbb [] b.ins).1).1, fin := Zce (Zbb [] (Zbb [] b.ins).1).2 (Zce (Zbb [] b.ins).2 b.fin) } : Zbk) = { b with ins := (Zbb [] b.ins).1, fin := Zce (Zbb [] b.ins).2 b.fin }
  rw [foldIns_again, foldEnd_again]
theorem foldIns_right {m : Zaj} {F : Func} : ∀ {l : List Ins} {M : Mp}, (∀ x ∈ l, InsP m F x) → ∀ x ∈ (Zbb M l).1, InsP m F x
  | [], _, _ => fun x hx => by cases hx
  | y :: r, M, hl => fun x hx => by
      rcases List.mem_cons.1 (show x ∈ Zca M y :: (Zbb (Zdq M (Zca M y)) r).1 from hx) with e | e
      · have hI := hl y List.mem_cons_self
        rw [e]
        by_cases hh : (ansW M y).2 = true
        · have hop := ansW_op hh
          rw [show Zca M y = ⟨1, y.dst, 0, 0, (ansW M y).1, 0, []⟩ from if_pos hh]
          exact .inl ⟨rfl, dst_in (x := y) hI (by omega), rfl, rfl, rfl, rfl⟩
        · rw [show Zca M y = y from if_neg hh]; exact hI
      · exact foldIns_right (fun z hz => hl z (List.mem_cons_of_mem _ hz)) x e
theorem right_fold {m : Zaj} (hr : Zbj m = true) : Zbj (Zb1 Zap m) = true := by
  refine right_pass hr (fun f b _ hb => ⟨rfl, ?_⟩)
  unfold blkB at hb ⊢
  rw [Bool.and_eq_true, decide_eq_true_eq, List.all_eq_true] at hb ⊢
  refine ⟨⟨by show (Zbb [] b.ins).1.length ≤ 64; rw [Zct]; exact hb.1.1, hb.1.2.1, ?_⟩, fun x hx => ?_⟩
  · have hE := hb.1.2.2
    show EndP m f (Zce _ b.fin)
    unfold Zce
    split
    · exact hE
    · split
      · rename_i h3
        rcases hE with h | h | h | h | h
        · omega
        · omega
        · refine .inr (.inl ⟨rfl, rfl, rfl, rfl, rfl, rfl, ?_, rfl⟩)
          show goalB f (if _ then b.fin.els else b.fin.to) = true
          split
          · exact h.2.2.2.2.2.2.2
          · exact h.2.2.2.2.2.2.1
        · omega
        · omega
      · exact hE
  · rw [decide_eq_true_eq]
    exact foldIns_right (fun y hy => by simpa using hb.2 y hy) x hx
end Go.Proofs.YtoelbgjpmpoolaaGreat
namespace Go.Proofs.YtoelbgjpmpoolaaGreat
open Go Dv
set_option maxRecDepth 10000
set_option linter.unusedSimpArgs false
end Go.Proofs.YtoelbgjpmpoolaaGreat
namespace Go.Proofs.YtoelbgjpmpoolaaGreat
open Go Dv
set_option maxRecDepth 10000
set_option linter.unusedSimpArgs false
set_option maxHeartbeats 2000000 in
theorem c_fModule (m : Zaj) : FC Tryz.prog 38 [.agg (Zbn m)] (.tup [.agg (Zbn (doneM Zap m)), iv (errM m)]) := by
  obtain ⟨fs⟩ := m
  refine Zaw tok Tryz.func38 rfl (by decide +kernel) (Nat.le_of_ble_eq_true rfl) ?_
  refine Zau 0 (fun hl => ?_)
  have hl0 : fs.length ≤ maxL := hl.1.1
  have hmx : maxL = 4294967296 := rfl
  have hl1 : ∀ i, i < fs.length → (fs.getD i default).blocks.length ≤ maxL := fun i hi => (hl.1.2 i hi).2.2.1.1
  clear hl
  (repeat' first | refine Zac ?_ | (refine Zab tok (by rfl) ?_; conv => whnf))
  refine .inr ⟨_, _, _, uG (QH.ofF (c_Copy1 fs) rfl (fun i hi => by rcases modH1_dom hi with rfl | ⟨j, rfl⟩ <;> rfl)), ?_⟩
  conv => whnf
  (repeat' first | refine Zac ?_ | (refine Zab tok (by rfl) ?_; conv => whnf))
  refine .inl ⟨_, _, _, uG (QC.sc (rd := rdM fs) (c_lRight c_lpad ⟨fs⟩) (ress_mod rfl (fun j hj => ?_)) rfl), ?_⟩
  · show bigH [] (modH1 fs) _ (1000, j, 0) = _
    unfold bigH; rw [modH1_at hj]
  conv => whnf
  (repeat' first | refine Zac ?_ | (refine Zab tok (by rfl) ?_; conv => whnf) | refine Zah ?_ | (refine Zag ?_; conv => whnf) | (refine Zak ?_; conv => whnf) | refine Zaf rfl (fun hb => ?_) (fun hb => ?_))
  · have hr : Zbj ⟨fs⟩ = false := by simpa using hb
    refine ⟨_, rfl, Rel.tup (.cons ?_ (.cons (Rel.int (by simp [errM, hr])) .nil))⟩
    rw [show doneM Zap ⟨fs⟩ = ⟨fs⟩ from by simp [doneM, hr]]
    refine rel_mod rfl (fun j hj => ⟨rfl, rfl, rfl⟩) rfl (fun j hj => ?_)
    show bigH [] (modH1 fs) _ (1000, j, 0) = _
    unfold bigH; rw [modH1_at hj]
  have hr : Zbj ⟨fs⟩ = true := by simpa using hb
  clear hb
  refine Za0 (fun i : Nat => mkF [(1, .bp (1, 0, 0) 0), (2, .bp (2, 0, 0) 0), (3, iv 0), (14, .rs (900, 0, 0) 3 0 fs.length), (15, iv fs.length), (16, iv i)] [((1, 0, 0), .row false 1 1 (fun _ => [.rs (900, 0, 0) 3 0 fs.length])), ((2, 0, 0), Za4 [.nsl]), ((900, 0, 0), funR1 fs (mem1 fs))] (Zfu (curL Zap fs i) (fun _ => true)))
    (fun i => i ≤ fs.length) (fun i => fs.length - i) 0 (Nat.zero_le _) ?_ ?_
  · refine Weak.fam [] rfl (fun i hi => by cases hi) ?_ ?_ ?_ (fun i hi => by cases hi)
    · (repeat' first | exact TLg.nil | refine TLg.cons (GV.imm rfl) ?_ | refine TLg.cons (GV.bp rfl rfl) ?_ | refine TLg.cons (GV.rs rfl rfl ?_ ?_) ?_)
      all_goals rfl
    · exact .old rfl rfl (GB.one (.cons (.rs rfl rfl rfl rfl) .nil) (fun e => by cases e)) (.old rfl rfl (GB.one (GVs.imm rfl) (fun _ => rfl)) (.old rfl rfl (GB_fun1 (fun q hq => .rs (b := Zfe ((curL Zap fs 0).getD q default).blocks) (show Zfu (curL Zap fs 0) (fun _ => true) (1000, q, 0) = _ from Zde (by rw [Zdd]; exact hq) rfl) rfl rfl rfl)) .nil))
    · intro j b e
      obtain ⟨p, rfl, hp, hp2, rfl⟩ := Zed e
      rw [curL_zero] at hp ⊢
      refine HOk.mk rfl (b0 := Zfe (fs.getD p default).blocks) ?_ (Zgw _)
      show bigH [] (modH1 fs) _ (1000, p, 0) = _
      unfold bigH; rw [modH1_at hp]
  intro i hi
  ((repeat' ((fail_if_success (show AWp _ _ _ (Code.region 7 _ _) _ _)); first | refine Zac ?_ | (refine Zab tok (by rfl) ?_; conv => whnf) | refine Zah ?_ | (refine Zag ?_; conv => whnf) | (refine Za2 ?_; conv => whnf) | (refine Zak ?_; conv => whnf) | refine Zaf rfl (fun hb => ?_) (fun hb => ?_) | (refine @And.intro (Zaa _ _ _ _) _ ?_ ?_; rotate_left; (conv => whnf); rotate_right))); all_goals (try ((guard_target = Zaa _ _ _ _); refine Zae ?_; (all_goals (try simp only [Zaa, kzz, kz11, kz12, maxL, Zad] at *)); all_goals omega)))
  · have hlt : i < fs.length := by simp only [decide_eq_true_eq] at hb; omega
    clear hb
    have hz : 0 + (i : Int).toNat = i := by simp
    have hbl := hl1 i hlt
    refine Zay (Weak.fam (tl := [(1, .bp (1, 0, 0) 0), (2, .bp (2, 0, 0) 0), (3, iv 0), (14, .rs (900, 0, 0) 3 0 fs.length), (15, iv fs.length), (16, iv i), (5, .bp (5, 0, 0) 0)]) (hl := [((1, 0, 0), .row false 1 1 (fun _ => [.rs (900, 0, 0) 3 0 fs.length])), ((2, 0, 0), Za4 [.nsl]), ((900, 0, 0), funR1 fs (fun j => sel (Nat.beq j i) (.rs (901, 0, 0) 14 0 (fs.getD i default).blocks.length) (mem1 fs j))), ((5, 0, 0), .row false 3 1 (fun _ => [iv (fs.getD i default).params, iv (fs.getD i default).regs, .rs (901, 0, 0) 14 0 (fs.getD i default).blocks.length])), ((901, 0, 0), Zfe (mapB Zap (fs.getD i default).blocks 0))]) (F := (Zfu (curL Zap fs i) (fun j => !(Nat.beq j i)))) [((901, 0, 0), some (1000, i, 0))] rfl (fun c hc => ?_) ?_ ?_ ?_ (fun i hi => by cases hi)) ?_
    · simp only [tgts, List.mem_singleton] at hc; subst hc
      left
      show Zfu (curL Zap fs i) (fun j => !(Nat.beq j i)) (1000, i, 0) = none
      cases e : Zfu (curL Zap fs i) (fun j => !(Nat.beq j i)) (1000, i, 0) with
      | none => rfl
      | some b => obtain ⟨p, e1, _, e2, _⟩ := Zed e; cases e1; simp at e2
    · (repeat' first | exact TLg.nil | refine TLg.cons (GV.imm rfl) ?_ | refine TLg.cons (GV.bp rfl rfl) ?_ | refine TLg.cons (GV.rs rfl rfl ?_ ?_) ?_)
      all_goals rfl
    · refine .old rfl rfl (GB.one (.cons (.rs rfl rfl rfl rfl) .nil) (fun e => by cases e)) (.old rfl rfl (GB.one (GVs.imm rfl) (fun _ => rfl)) (.old rfl rfl (GB_fun1 (fun q hq => ?_)) (.old rfl rfl (GB.one (.cons (.int (by rw [hz])) (.cons (.int (by rw [hz])) (.cons ?_ .nil))) (fun e => by cases e)) (.old rfl ?_ (Zgw _) .nil))))
      · by_cases e : q = i
        · subst e
          exact .cc (x' := mem1 fs q) rfl (show sel (Nat.beq q q) _ _ = _ from Zei) (.rs rfl Zfi rfl rfl)
        · exact .cc (x' := mem1 fs q) rfl (show sel (Nat.beq q i) _ _ = _ from sel_ne e) (.rs (b := Zfe ((curL Zap fs i).getD q default).blocks) (show Zfu (curL Zap fs i) (fun j => !(Nat.beq j i)) (1000, q, 0) = _ from Zde (by rw [Zdd]; exact hq) (nbeq e)) (Zdz (fun h => e (by cases h))) rfl rfl)
      · exact .cc (x' := .rs (1000, i, 0) 14 0 (fs.getD i default).blocks.length) (show AV.rs (1000, 0 + (i : Int).toNat, 0) 14 0 (fs.getD (0 + (i : Int).toNat) default).blocks.length = _ by rw [hz]) rfl (.rs rfl Zfi rfl rfl)
      · show Zfu (curL Zap fs i) (fun _ => true) (1000, i, 0) = _
        rw [Zde (by rw [Zdd]; exact hlt) rfl, curL_at hlt, if_neg (Nat.lt_irrefl i)]
        congr 2
        refine Zby default (by simp [mapB]) (fun q hq => ?_)
        rw [mapB_at hq, if_neg (Nat.not_lt_zero q)]
    · intro j b e
      obtain ⟨p, rfl, hp, hp2, rfl⟩ := Zed e
      exact HOk.mk (Zdz (fun h => by cases h)) (b0 := Zfe ((curL Zap fs i).getD p default).blocks) (show Zfu (curL Zap fs i) (fun _ => true) (1000, p, 0) = _ from Zde hp rfl) (Zgw _)
    (repeat' ((fail_if_success (show AWp _ _ _ (Code.region 8 _ _) _ _)); first | (refine Zab tok (by rfl) ?_; conv => whnf) | refine Zah ?_))
    refine Za0 (fun k : Nat => mkF [(1, .bp (1, 0, 0) 0), (2, .bp (2, 0, 0) 0), (3, iv 0), (14, .rs (900, 0, 0) 3 0 fs.length), (15, iv fs.length), (16, iv i), (5, .bp (5, 0, 0) 0), (22, iv (fs.getD i default).blocks.length), (23, iv k)] [((1, 0, 0), .row false 1 1 (fun _ => [.rs (900, 0, 0) 3 0 fs.length])), ((2, 0, 0), Za4 [.nsl]), ((900, 0, 0), funR1 fs (fun j => sel (Nat.beq j i) (.rs (901, 0, 0) 14 0 (fs.getD i default).blocks.length) (mem1 fs j))), ((5, 0, 0), .row false 3 1 (fun _ => [iv (fs.getD i default).params, iv (fs.getD i default).regs, .rs (901, 0, 0) 14 0 (fs.getD i default).blocks.length])), ((901, 0, 0), Zfe (mapB Zap (fs.getD i default).blocks k))] (Zfu (curL Zap fs i) (fun j => !(Nat.beq j i)))) (fun k => k ≤ (fs.getD i default).blocks.length) (fun k => (fs.getD i default).blocks.length - k) 0 (Nat.zero_le _) ?_ ?_
    · refine Weak.fam [] rfl (fun i hi => by cases hi) ?_ ?_ ?_ (fun i hi => by cases hi)
      · (repeat' first | exact TLg.nil | refine TLg.cons (GV.imm rfl) ?_ | refine TLg.cons (GV.bp rfl rfl) ?_ | refine TLg.cons (GV.rs rfl rfl ?_ ?_) ?_)
        all_goals first | rfl | (rw [Zfl])
      · exact .old rfl rfl (GB.one (.cons (.rs rfl rfl rfl rfl) .nil) (fun e => by cases e)) (.old rfl rfl (GB.one (GVs.imm rfl) (fun _ => rfl)) (.old rfl rfl (GB_fun1 (fun q hq => keep1 (b := Zfe ((curL Zap fs i).getD q default).blocks) (fun h => show Zfu (curL Zap fs i) (fun j => !(Nat.beq j i)) (1000, q, 0) = _ from Zde (by rw [Zdd]; exact hq) (nbeq h)) rfl rfl rfl)) (.old rfl rfl (GB.one (.cons (.imm rfl) (.cons (.imm rfl) (.cons (.rs rfl rfl rfl rfl) .nil))) (fun e => by cases e)) (.old rfl rfl (Zgw _) .nil))))
      · intro j b e
        obtain ⟨p, rfl, hp, hp2, rfl⟩ := Zed e
        exact HOk.mk rfl (b0 := Zfe ((curL Zap fs i).getD p default).blocks) (show Zfu (curL Zap fs i) (fun j => !(Nat.beq j i)) (1000, p, 0) = _ from Zde hp hp2) (Zgw _)
    intro k hk
    (repeat' ((fail_if_success (show AWp _ _ _ (Code.region 10 _ _) _ _)); first | refine Zac ?_ | (refine Zab tok (by rfl) ?_; conv => whnf) | refine Zah ?_ | (refine Zag ?_; conv => whnf) | (refine Za2 ?_; conv => whnf) | refine Zaf rfl (fun hb => ?_) (fun hb => ?_)))
    · have hkl : k < (fs.getD i default).blocks.length := by simp only [decide_eq_true_eq] at hb; omega
      clear hb
      have hzk : 0 + (k : Int).toNat = k := by simp
      have hml : (mapB Zap (fs.getD i default).blocks k).length = (fs.getD i default).blocks.length := Zfl _ _
      ((repeat' first | (refine Zar tok mix (by rfl) ?_; conv => whnf) | (refine @And.intro (Zaa _ _ _ _) _ ?_ ?_; rotate_left; (conv => whnf); rotate_right)); all_goals (try ((guard_target = Zaa _ _ _ _); refine Zae ?_; (all_goals (try simp only [Zaa, kzz, kz11, kz12, maxL, Zad] at *)); all_goals omega)))
      refine .inl ⟨_, _, _, uG (QC.fc (c_Block ((mapB Zap (fs.getD i default).blocks k).getD (0 + (k : Int).toNat) default)) rfl), ?_⟩
      conv => whnf
      ((repeat' first | (refine Zab tok (by rfl) ?_; conv => whnf) | (refine @And.intro (Zaa _ _ _ _) _ ?_ ?_; rotate_left; (conv => whnf); rotate_right)); all_goals (try ((guard_target = Zaa _ _ _ _); refine Zae ?_; (all_goals (try simp only [Zaa, kzz, kz11, kz12, maxL, Zad] at *)); all_goals omega)))
      refine ⟨k + 1, hkl, by omega, ?_⟩
      refine Weak.fam [] rfl (fun i hi => by cases hi) ?_ ?_ ?_ (fun i hi => by cases hi)
      · (repeat' first | exact TLg.nil | refine TLg.cons (GV.imm rfl) ?_ | refine TLg.cons (GV.bp rfl rfl) ?_ | refine TLg.cons (GV.rs rfl rfl ?_ ?_) ?_ | refine TLg.cons (GV.int ?_) ?_)
        all_goals first | rfl | (simp (disch := omega) only [Zal]; omega) | omega
      · refine .old rfl rfl (GB.one (.cons (.rs rfl rfl rfl rfl) .nil) (fun e => by cases e)) (.old rfl rfl (GB.one (GVs.imm rfl) (fun _ => rfl)) (.old rfl rfl (GB_fun1 (fun q hq => keep1 (b := Zfe ((curL Zap fs i).getD q default).blocks) (fun h => show Zfu (curL Zap fs i) (fun j => !(Nat.beq j i)) (1000, q, 0) = _ from Zde (by rw [Zdd]; exact hq) (nbeq h)) rfl rfl rfl)) (.old rfl rfl (GB.one (.cons (.imm rfl) (.cons (.imm rfl) (.cons (.rs rfl rfl rfl rfl) .nil))) (fun e => by cases e)) (.old rfl rfl (GB.row (Nat.le_of_eq (by rw [Zfl, Zfl])) (fun q hq => GVs.upd (fun e => ?_) (fun e => ?_)) (fun _ _ _ => rfl)) .nil))))
        · rw [hzk] at e; subst e
          rw [Zfl] at hq
          exact GVs.eqI rfl (by rw [hzk, mapB_at hq, if_neg (Nat.lt_irrefl q), mapB_at hq, if_pos (Nat.lt_succ_self q)]; rfl)
        · rw [hzk] at e
          rw [Zfl] at hq
          refine GVs.eqI rfl ?_
          rw [mapB_at hq, mapB_at hq]
          by_cases h1 : q < k
          · rw [if_pos h1, if_pos (by omega)]
          · rw [if_neg h1, if_neg (by omega)]
      · intro j b e
        obtain ⟨p, rfl, hp, hp2, rfl⟩ := Zed e
        exact HOk.mk rfl (b0 := Zfe ((curL Zap fs i).getD p default).blocks) (show Zfu (curL Zap fs i) (fun j => !(Nat.beq j i)) (1000, p, 0) = _ from Zde hp hp2) (Zgw _)
    · have hkl : k = (fs.getD i default).blocks.length := by simp only [decide_eq_false_iff_not] at hb; omega
      clear hb
      subst hkl
      skip
      refine ⟨i + 1, hlt, by omega, ?_⟩
      refine Weak.fam [((1000, i, 0), some (901, 0, 0))] rfl (fun c hc => by simp only [tgts, List.mem_singleton] at hc; subst hc; exact .inl rfl) ?_ ?_ ?_ (fun i hi => by cases hi)
      · (repeat' first | exact TLg.nil | refine TLg.cons (GV.imm rfl) ?_ | refine TLg.cons (GV.bp rfl rfl) ?_ | refine TLg.cons (GV.rs rfl rfl ?_ ?_) ?_ | refine TLg.cons (GV.int ?_) ?_)
        all_goals first | rfl | (simp (disch := omega) only [Zal]; omega) | omega
      · refine .old rfl rfl (GB.one (.cons (.rs rfl rfl rfl rfl) .nil) (fun e => by cases e)) (.old rfl rfl (GB.one (GVs.imm rfl) (fun _ => rfl)) (.old rfl rfl (GB_fun1 (fun q hq => ?_)) .nil))
        by_cases e : q = i
        · subst e
          exact .cc (show sel (Nat.beq q q) _ _ = _ from Zei) rfl (.rs (b := Zfe ((curL Zap fs (q + 1)).getD q default).blocks) (show Zfu (curL Zap fs (q + 1)) (fun _ => true) (1000, q, 0) = _ from Zde (by rw [Zdd]; exact hq) rfl) Zfi rfl rfl)
        · exact .cc (show sel (Nat.beq q i) _ _ = _ from sel_ne e) rfl (.rs (b := Zfe ((curL Zap fs (i + 1)).getD q default).blocks) (show Zfu (curL Zap fs (i + 1)) (fun _ => true) (1000, q, 0) = _ from Zde (by rw [Zdd]; exact hq) rfl) (Zdz (fun h => e (by cases h; rfl))) rfl rfl)
      · intro j b e
        obtain ⟨p, rfl, hp, hp2, rfl⟩ := Zed e
        rw [Zdd] at hp
        by_cases e : p = i
        · subst e
          refine HOk.mk Zfi (b0 := Zfe (mapB Zap (fs.getD p default).blocks (fs.getD p default).blocks.length)) rfl ?_
          rw [curL_at hp, if_pos (Nat.lt_succ_self p)]
          exact Zgw _
        · refine HOk.mk (Zdz (fun h => e (by cases h; rfl))) (b0 := Zfe ((curL Zap fs i).getD p default).blocks) (show Zfu (curL Zap fs i) (fun j => !(Nat.beq j i)) (1000, p, 0) = _ from Zde (by rw [Zdd]; exact hp) (nbeq e)) ?_
          rw [curL_at hp, curL_at hp]
          by_cases h1 : p < i
          · rw [if_pos h1, if_pos (by omega)]; exact Zgw _
          · rw [if_neg h1, if_neg (by omega)]; exact Zgw _
  · have hil : i = fs.length := by simp only [decide_eq_false_iff_not] at hb; omega
    clear hb
    subst hil
    refine ⟨_, rfl, Rel.tup (.cons ?_ (.cons (Rel.int (by simp [errM, hr])) .nil))⟩
    rw [show doneM Zap ⟨fs⟩ = ⟨curL Zap fs fs.length⟩ from by rw [curL_all]; simp [doneM, hr]]
    exact rel_mod (Zdd _ _) (fun j hj => ⟨(curL_sig hj).1, (curL_sig hj).2, curL_blen hj⟩) rfl (fun j hj => show Zfu (curL Zap fs fs.length) (fun _ => true) (1000, j, 0) = _ from Zde (by rw [Zdd]; exact hj) rfl)
end Go.Proofs.YtoelbgjpmpoolaaGreat
namespace Go.Proofs.YtoelbgjpmpoolaaGreat
open Go Dv Go.ChangeShapes Go.WideShapes Go.ChangeAt Go.RowKit
open Go.Proofs.YtoelbgjpmpoolaaGreat
set_option maxRecDepth 10000
set_option linter.unusedVariables false
section
variable {H : Type} {enc : TypeId × Value → H} {w : World}
abbrev Sm (H : Type) : DataW H → Prop := fun d => Rows.uptoBulk d ≤ 1048576
theorem bulk_all {ds : List (DataW H)} {n : Nat} (h : Rows.uptoBulkAll ds ≤ n) : ∀ d ∈ ds, Rows.uptoBulk d ≤ n := by
  induction ds with
  | nil => intro d hd; cases hd
  | cons x r ih =>
    simp only [Rows.uptoBulkAll] at h
    intro d hd
    simp only [List.mem_cons] at hd
    rcases hd with rfl | hd
    · omega
    · exact ih (by omega) d hd
theorem bulk_pos (d : DataW H) : 1 ≤ Rows.uptoBulk d := by
  cases d with
  | lit l => cases l <;> simp only [Rows.uptoBulk] <;> omega
  | _ => simp only [Rows.uptoBulk]; omega
theorem bulk_len {ds : List (DataW H)} {n : Nat} (h : Rows.uptoBulkAll ds ≤ n) : ds.length ≤ n := by
  induction ds generalizing n with
  | nil => simp
  | cons x r ih =>
    simp only [Rows.uptoBulkAll] at h
    have := bulk_pos x
    have := ih (n := n - Rows.uptoBulk x) (by omega)
    simp only [List.length_cons]; omega
theorem sm_agg (ds : List (DataW H)) (h : Sm H (.agg ds)) : ∀ d ∈ ds, Sm H d := by
  simp only [Sm, Rows.uptoBulk] at h; exact bulk_all (by omega)
theorem sm_slice (es sp : List (DataW H)) (h : Sm H (.slice es sp)) : es.length ≤ maxL ∧ ∀ x ∈ es, Sm H x := by
  simp only [Sm, Rows.uptoBulk] at h
  have h1 : Rows.uptoBulkAll es ≤ 1048576 := by omega
  exact ⟨Nat.le_trans (bulk_len h1) (by decide), bulk_all h1⟩
theorem Zet : Rd enc Tryz.prog w (Sm H) 3 Int (fun n => [iv n]) := Rd.int Tryz.underlying3
theorem rd_u16 : Rd enc Tryz.prog w (Sm H) 50 Int (fun n => [.int .u16 n]) := Rd.int Tryz.underlying50
theorem rd_bool : Rd enc Tryz.prog w (Sm H) 4 Bool (fun b => [.bool b]) := Rd.bool Tryz.underlying4
theorem rd_ints : Rd enc Tryz.prog w (Sm H) 42 (List Int) (fun l => [ints l]) := Rd.slice Tryz.underlying42 (by decide +kernel) (Nat.le_refl _) (fun _ => ⟨rfl, rfl⟩) Zet sm_slice
theorem rd_u16s : Rd enc Tryz.prog w (Sm H) 25 (List Int) (fun l => [u16s l]) := Rd.slice Tryz.underlying25 (by decide +kernel) (Nat.le_refl _) (fun _ => ⟨rfl, rfl⟩) rd_u16 sm_slice
theorem rd_Ins : Rd enc Tryz.prog w (Sm H) 70 Ins Zba :=
  Rd.map (fun x => ⟨x.1, x.2.1, x.2.2.1, x.2.2.2.1, x.2.2.2.2.1, x.2.2.2.2.2.1, x.2.2.2.2.2.2.1⟩)
    (Rd.struct (fl := [(3, 1), (3, 1), (3, 1), (3, 1), (50, 1), (3, 1), (42, 1)]) Tryz.underlying70 (.cons Zet (.cons Zet (.cons Zet (.cons Zet (.cons rd_u16 (.cons Zet (.cons rd_ints .nil)))))))
      rfl (by decide +kernel) (by decide +kernel) sm_agg) (fun _ => rfl)
theorem rd_inss : Rd enc Tryz.prog w (Sm H) 41 (List Ins) (fun l => [inss l]) := Rd.slice Tryz.underlying41 (by decide +kernel) (by decide) (fun _ => ⟨rfl, rfl⟩) rd_Ins sm_slice
theorem rd_End : Rd enc Tryz.prog w (Sm H) 44 End Zd2 :=
  Rd.map (fun x => ⟨x.1, x.2.1, x.2.2.1, x.2.2.2.1, x.2.2.2.2.1, x.2.2.2.2.2.1, x.2.2.2.2.2.2.1, x.2.2.2.2.2.2.2.1⟩)
    (Rd.struct (fl := [(3, 1), (3, 1), (3, 1), (3, 1), (42, 1), (3, 1), (3, 1), (3, 1)]) Tryz.underlying44 (.cons Zet (.cons Zet (.cons Zet (.cons Zet (.cons rd_ints (.cons Zet (.cons Zet (.cons Zet .nil))))))))
      rfl (by decide +kernel) (by decide +kernel) sm_agg) (fun _ => rfl)
theorem rd_Pad : Rd enc Tryz.prog w (Sm H) 40 Pad Zfo :=
  Rd.map (fun x => ⟨x.1, x.2.1, x.2.2.1, x.2.2.2.1⟩)
    (Rd.struct (fl := [(3, 1), (25, 1), (4, 1), (4, 1)]) Tryz.underlying40 (.cons Zet (.cons rd_u16s (.cons rd_bool (.cons rd_bool .nil))))
      rfl (by decide +kernel) (by decide +kernel) sm_agg) (fun _ => rfl)
theorem rd_Block : Rd enc Tryz.prog w (Sm H) 46 Zbk Za6 :=
  Rd.map (fun x => ⟨x.1, x.2.1, x.2.2.1, x.2.2.2.1⟩)
    (Rd.struct (fl := [(4, 1), (40, 4), (41, 1), (44, 8)]) Tryz.underlying46 (.cons rd_bool (.cons rd_Pad (.cons rd_inss (.cons rd_End .nil))))
      rfl (by decide +kernel) (by decide +kernel) sm_agg) (fun _ => rfl)
theorem rd_blocks : Rd enc Tryz.prog w (Sm H) 36 (List Zbk) (fun l => [Zeq l]) := Rd.slice Tryz.underlying36 (by decide +kernel) (by decide) (fun _ => ⟨rfl, rfl⟩) rd_Block sm_slice
theorem rd_Func : Rd enc Tryz.prog w (Sm H) 38 Func Zb0 :=
  Rd.map (fun x => ⟨x.1, x.2.1, x.2.2.1⟩)
    (Rd.struct (fl := [(3, 1), (3, 1), (36, 1)]) Tryz.underlying38 (.cons Zet (.cons Zet (.cons rd_blocks .nil)))
      rfl (by decide +kernel) (by decide +kernel) sm_agg) (fun _ => rfl)
theorem rd_funcs : Rd enc Tryz.prog w (Sm H) 22 (List Func) (fun l => [Zf3 l]) := Rd.slice Tryz.underlying22 (by decide +kernel) (by decide) (fun _ => ⟨rfl, rfl⟩) rd_Func sm_slice
theorem rd_Module : Rd enc Tryz.prog w (Sm H) 24 Zaj Zbn :=
  Rd.map (fun x => ⟨x.1⟩)
    (Rd.struct (fl := [(22, 1)]) Tryz.underlying24 (.cons rd_funcs .nil)
      rfl (by decide +kernel) (by decide +kernel) sm_agg) (fun _ => rfl)
end
theorem small_of {H : Type} {ds gs : List (DataW H)} (hk : Rows.uptoSmall H (ds ++ gs) = true) : ∀ d ∈ ds, Sm H d := by
  have h := of_decide_eq_true hk
  exact fun d hd => bulk_all h d (List.mem_append_left _ hd)
end Go.Proofs.YtoelbgjpmpoolaaGreat
namespace Go.Proofs.YtoelbgjpmpoolaaGreat
open Go Dv
set_option maxRecDepth 10000
set_option linter.unusedSimpArgs false
def awB : Zbk := { landing := false, pad := ⟨0, [], false, false⟩, ins := [⟨1, 0, 0, 0, 3, 0, []⟩, ⟨1, 1, 0, 0, 4, 0, []⟩, ⟨3, 2, 0, 1, 0, 0, []⟩], fin := ⟨3, 2, 0, 0, [], 5, 6, 0⟩ }
theorem c_awake16 : FC Tryz.prog 37 [] (.bool true) := by
  refine Zaw tok Tryz.func37 rfl (by decide +kernel) (Nat.le_of_ble_eq_true rfl) ?_
  (repeat' first | refine Zac ?_ | (refine Zab tok (by rfl) ?_; conv => whnf))
  refine .inr ⟨_, _, _, uG (QH.give (args' := [.agg (Za6 awB)]) (rd := [Zdf (some 5)]) (c_Block awB) (.cons (.agg (.cons (.imm rfl) (.cons (.imm rfl) (.cons .nsl (.cons (.imm rfl) (.cons (.imm rfl) (.cons (.rsW rfl (by simp) (Nat.le_refl _) rfl (fun x hx => ?_)) (.cons (.imm rfl) (.cons (.imm rfl) (.cons (.imm rfl) (.cons (.imm rfl) (.cons .nsl (.cons (.imm rfl) (.cons (.imm rfl) (.cons (.imm rfl) .nil))))))))))))))) .nil) rfl), ?_⟩
  · match x, hx with
    | 0, _ => (repeat' ((conv => arg 1; whnf); (conv => arg 2; whnf); first | refine Wks.cons .refl ?_ | refine Wks.cons (.nsl rfl) ?_ | exact Wks.nil))
    | 1, _ => (repeat' ((conv => arg 1; whnf); (conv => arg 2; whnf); first | refine Wks.cons .refl ?_ | refine Wks.cons (.nsl rfl) ?_ | exact Wks.nil))
    | 2, _ => (repeat' ((conv => arg 1; whnf); (conv => arg 2; whnf); first | refine Wks.cons .refl ?_ | refine Wks.cons (.nsl rfl) ?_ | exact Wks.nil))
  rw [show Zap awB = ⟨false, ⟨0, [], false, false⟩, [⟨1, 0, 0, 0, 3, 0, []⟩, ⟨1, 1, 0, 0, 4, 0, []⟩, ⟨1, 2, 0, 0, 7, 0, []⟩], ⟨2, 0, 0, 0, [], 5, 0, 0⟩⟩ from by rfl]
  conv => whnf
  ((repeat' first | refine Zac ?_ | (refine Zab tok (by rfl) ?_; conv => whnf) | (refine Zak ?_; conv => whnf) | (refine @And.intro (Zaa _ _ _ _) _ ?_ ?_; rotate_left; (conv => whnf); rotate_right)); all_goals (try ((guard_target = Zaa _ _ _ _); ((refine Zbm ?_; intro hgd; (conv at hgd => whnf); (try simp (disch := omega) only [Zal] at hgd))); (all_goals (try simp only [Zaa, kzz, kz11, kz12, maxL, Zad] at *)); all_goals omega)))
  exact ⟨_, rfl, Rel.bool rfl⟩
end Go.Proofs.YtoelbgjpmpoolaaGreat
namespace Go.Proofs.YtoelbgjpmpoolaaGreat
open Go Dv
set_option maxRecDepth 10000
set_option linter.unusedSimpArgs false
set_option maxHeartbeats 4000000 in
theorem c_FoldKeeps (m : Zaj) (inputs : List Int) (fuel : Int) : FC Tryz.prog 8 [.agg (Zbn m), u16s inputs, .int .u8 fuel] (.bool true) := by
  refine Zaw tok Tryz.func8 rfl (by decide +kernel) (Nat.le_of_ble_eq_true rfl) ?_
  refine Zau 1 (fun hl => ?_)
  have hwords : ∀ x ∈ inputs, 0 ≤ x ∧ x ≤ 65535 := fun x hx => by
    obtain ⟨i, hi, rfl⟩ := List.getElem_of_mem hx
    have := (hl.2 i hi).1
    rw [Zb4 0 hi] at this; exact this
  clear hl
  refine Zau 2 (fun hl => ?_)
  have hf0 : 0 ≤ fuel ∧ fuel ≤ 255 := hl
  clear hl
  have hmx : maxL = 4294967296 := rfl
  (repeat' first | refine Zac ?_ | (refine Zab tok (by rfl) ?_; conv => whnf))
  refine .inl ⟨_, _, _, uG (QC.fc c_awake16 rfl), ?_⟩
  conv => whnf
  (repeat' first | refine Zac ?_ | (refine Zab tok (by rfl) ?_; conv => whnf) | (refine Zag ?_; conv => whnf) | (refine Zak ?_; conv => whnf) | refine Zaf rfl (fun hb => ?_) (fun hb => ?_))
  · cases hb
  clear hb
  refine .inl ⟨_, _, _, uG (QC.fc (c_r6Small m inputs) rfl), ?_⟩
  conv => whnf
  (repeat' first | refine Zac ?_ | (refine Zab tok (by rfl) ?_; conv => whnf) | (refine Zag ?_; conv => whnf) | (refine Zak ?_; conv => whnf) | refine Zaf rfl (fun hb => ?_) (fun hb => ?_))
  · exact ⟨_, rfl, Rel.bool rfl⟩
  have hsm : smallB m inputs = true := by simpa using hb
  clear hb
  unfold smallB at hsm
  rw [Bool.and_eq_true, decide_eq_true_eq] at hsm
  have hi : (∀ x ∈ inputs, 0 ≤ x ∧ x ≤ 65535) ∧ inputs.length < 1000000 := ⟨hwords, by omega⟩
  have hMod := c_fModule m
  have hSR := c_lRight c_lpad m
  cases hr : Zbj m with
  | false =>
    rw [show doneM Zap m = m from if_neg (by rw [hr]; simp), show errM m = 1 from if_neg (by rw [hr]; simp)] at hMod
    rw [hr] at hSR
    refine .inl ⟨_, _, _, uG (QC.fc hMod rfl), ?_⟩
    conv => whnf
    (repeat' ((fail_if_success (show AWp _ _ _ (Code.region 7 _ _) _ _)); (fail_if_success (show AWp _ _ _ (Code.region 8 _ _) _ _)); first | refine Zac ?_ | (refine Zab tok (by rfl) ?_; conv => whnf) | (refine Zag ?_; conv => whnf) | refine Zaf rfl (fun hb => ?_) (fun hb => ?_)))
    · (repeat' (refine Zab tok (by rfl) ?_; conv => whnf))
      refine .inl ⟨_, _, _, uG (QC.fc hSR rfl), ?_⟩
      conv => whnf
      (repeat' (refine Zak ?_; conv => whnf))
      exact ⟨_, rfl, Rel.bool rfl⟩
    · exfalso; cases hb
  | true =>
    have hn2 := right_fold hr
    have hrun := sameB_run (inputs := inputs) hr (inv_fold hr) (sameB_fold hr) hi fuel.toNat
    rw [show doneM Zap m = Zb1 Zap m from if_pos hr, show errM m = 0 from if_pos hr] at hMod
    have hM2 := c_fModule (Zb1 Zap m)
    rw [show doneM Zap (Zb1 Zap m) = Zb1 Zap (Zb1 Zap m) from if_pos hn2, passM_again foldBlock_again m, show errM (Zb1 Zap m) = 0 from if_pos hn2] at hM2
    have hS := c_rSame (Zb1 Zap m) (Zb1 Zap m)
    rw [decide_eq_true rfl] at hS
    have hSR2 := c_lRight c_lpad (Zb1 Zap m)
    rw [hn2] at hSR2
    have hR1 := c_mRun m inputs fuel hr hi (by omega)
    have hR2 := c_mRun (Zb1 Zap m) inputs fuel hn2 hi (by omega)
    rw [hrun] at hR2
    have hgen : ∃ N, Zb1 Zap m = N := ⟨_, rfl⟩
    obtain ⟨N, hN⟩ := hgen
    rw [hN] at hMod hM2 hS hSR2 hR2
    have hgen : ∃ s, runM m inputs fuel.toNat = s := ⟨_, rfl⟩
    obtain ⟨s, hs⟩ := hgen
    rw [hs, show iv fuel = .int .i64 (IntKind.i64.wrap fuel) from by rw [Zal (by omega) (by omega)]] at hR1 hR2
    refine .inl ⟨_, _, _, uG (QC.fc hMod rfl), ?_⟩
    conv => whnf
    (repeat' ((fail_if_success (show AWp _ _ _ (Code.region 7 _ _) _ _)); (fail_if_success (show AWp _ _ _ (Code.region 8 _ _) _ _)); first | refine Zac ?_ | (refine Zab tok (by rfl) ?_; conv => whnf) | (refine Zag ?_; conv => whnf) | refine Zaf rfl (fun hb => ?_) (fun hb => ?_)))
    · exfalso; cases hb
    clear hb
    (repeat' (refine Zab tok (by rfl) ?_; conv => whnf))
    refine .inl ⟨_, _, _, uG (QC.fc hM2 rfl), ?_⟩
    conv => whnf
    (repeat' first | refine Zac ?_ | (refine Zab tok (by rfl) ?_; conv => whnf))
    refine .inl ⟨_, _, _, uG (QC.fc hR1 rfl), ?_⟩
    conv => whnf
    (repeat' first | refine Zac ?_ | (refine Zab tok (by rfl) ?_; conv => whnf))
    refine .inl ⟨_, _, _, uG (QC.fc hR2 rfl), ?_⟩
    conv => whnf
    (repeat' first | refine Zac ?_ | (refine Zab tok (by rfl) ?_; conv => whnf))
    refine .inl ⟨_, _, _, uG (QC.fc hS rfl), ?_⟩
    conv => whnf
    skip
    refine .inl ⟨_, _, _, uG (QC.fc hSR2 rfl), ?_⟩
    conv => whnf
    skip
    refine .inl ⟨_, _, _, uG (QC.fc (c_MSameEq s) rfl), ?_⟩
    conv => whnf
    (repeat' (refine Zak ?_; conv => whnf))
    exact ⟨_, rfl, Rel.bool rfl⟩
end Go.Proofs.YtoelbgjpmpoolaaGreat
namespace Go.Proofs.YtoelbgjpmpoolaaGreat
open Go Dv Go.ChangeShapes Go.WideShapes Go.ChangeAt Go.RowKit
open Go.Proofs.YtoelbgjpmpoolaaGreat
set_option maxRecDepth 100000
set_option linter.unusedVariables false
namespace foldKeeps
theorem own : ownKnob Tryz.prog.godebug = none := by kernel_rfl
theorem contract (H : Type) (enc : TypeId × Value → H) (W : World) (base : Nat) (args : Array Value) (ds gs : List (DataW H)) (before : List MemPlace) (hk : Rows.uptoSmall H (ds ++ gs) = true)
    (hval : ∀ (j : Nat) t v, Tryz.f8.params[j]? = some t → args[j]? = some v → Value.okWide Tryz.prog W .any base t v)
    (hW : DataW.Whole enc Tryz.prog Tryz.f8.params.toList Rows.foldKeepsSpec.vars false W args.toList ds gs before) :
    Calls Tryz.prog 8 args W fun e W' => ∃ v, e = .returned v ∧ Rows.foldKeepsSpec.post enc Tryz.prog Tryz.f8 false true false false W args v W' := by
  have hsm := small_of hk
  have hW' := hW
  obtain ⟨p, q, hA0, hV, rfl, hfz, hnd⟩ := hW
  have hA : DataW.TrodAll enc Tryz.prog W 0 (fun _ => true) true Tryz.f8.params.toList args.toList ds p := hA0
  rw [Tryz.params8] at hA hval
  obtain ⟨v0, vs0, d0, ds0, p0, q0, hargs, rfl, rfl, h0, r0⟩ := trodAll_cons hA
  obtain ⟨v1, vs1, d1, ds1, p1, q1, rfl, rfl, rfl, h1, r1⟩ := trodAll_cons r0
  obtain ⟨v2, vs2, d2, ds2, p2, q2, rfl, rfl, rfl, h2, r2⟩ := trodAll_cons r1
  obtain ⟨rfl, rfl, rfl⟩ := trodAll_nil r2
  obtain rfl : args = #[v0, v1, v2] := by cases args; simp_all
  obtain ⟨x0, hx0⟩ := arg_struct Tryz.underlying24 (hval 0 _ v0 rfl rfl) h0 rd_Module (hsm d0 (by simp))
  obtain ⟨x1, hx1⟩ := arg_slice Tryz.underlying25 (hval 1 _ v1 rfl rfl) h1 rd_u16s (hsm d1 (by simp))
  obtain ⟨x2, hx2⟩ := arg_int Tryz.underlying5 (hval 2 _ v2 rfl rfl) h2
  have hb2 := hx2
  simp only [V] at hb2
  obtain ⟨rfl, rfl⟩ := trodVars_none hV
  refine law_contract (tb := 4) (by decide +kernel) (by rw [Tryz.params8]; decide +kernel) rfl (by kernel_rfl) Tryz.underlying4 hW' ⟨rfl, rfl, rfl⟩ (FC.calls (c_FoldKeeps x0 x1 x2) ?_)
  simp only [Vs]
  exact ⟨_, _, rfl, hx0, _, _, rfl, hx1, _, _, rfl, hx2, rfl⟩
theorem lifted (os : Os) (started : os.Started) (H : Type) (enc : TypeId × Value → H) (F : Stop.Interp) :
    ReturnsInHanded {} Tryz.checked os 8 .any ((Rows.OpenSpec.upto Rows.foldKeepsSpec).pre6 enc Tryz.prog Tryz.f8 Rows.foldKeepsUptoRow.domain false) (((Rows.OpenSpec.upto Rows.foldKeepsSpec).at F).post enc Tryz.prog Tryz.f8 false true false false) := by
  refine returnsInHanded_of_cond (C := Tryz.checked) (s := Rows.OpenSpec.upto Rows.foldKeepsSpec) (k := Rows.uptoSmall) rfl own started (by kernel_rfl) Tryz.func8
    (OpenSpec.witness (enc := enc) (C := Tryz.checked) (s := Rows.OpenSpec.upto Rows.foldKeepsSpec) (k := Rows.uptoSmall) rfl false ⟨#[], #[.agg #[.slice none 0 0], .slice none 0 0, .int .u8 0], []⟩ 64 (by kernel_rfl) (by kernel_rfl) (by kernel_rfl)
      (x := ([.agg [.nil], .nil, .lit (.int .u8 0)], [], [])) (by kernel_rfl) rfl (by kernel_rfl)) ?_
  intro W base args ds gs before hval hW _ hk _
  exact contract H enc W base args ds gs before hk hval hW
theorem over : Rows.foldKeepsUptoRow.holds Tryz.pinned (Rows.OpenSpec.upto Rows.foldKeepsSpec) :=
  OpenClaim.holds_of_cond 8 Tryz.f8 rfl rfl rfl rfl rfl rfl rfl ⟨rfl, rfl, rfl, rfl, rfl⟩ rfl rfl rfl rfl rfl (by kernel_rfl) Tryz.func8 (by kernel_rfl)
    (of_decide_eq_true (by kernel_rfl)) (by unfold Func.isWrapper; first | (rw [if_pos (by decide +kernel)]; kernel_rfl) | (rw [if_neg (by decide +kernel)]; exact ⟨rfl, rfl⟩))
    (fun os started H enc _ F => lifted os started H enc F)
end foldKeeps
theorem foldKeeps_holds : Rows.FoldKeepsUptoSaid := foldKeeps.over
end Go.Proofs.YtoelbgjpmpoolaaGreat
