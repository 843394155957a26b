/- Whatever a module, the words told to it, and the steps: each frame of the machine stands at a block that is reached, as flow.Reached tells; a module that may not be is refused. -/
import Derived.Test.YtoelbgjpmpoolaaGreatDvc3
import Derived.Test.YtoelbgjpmpoolaaGreatLawflowReaches2
import Derived.Test.YtoelbgjpmpoolaaGreatRows
import Derived.WalkKit
import Derived.ProofKit
import Derived.OpenShut
import Derived.JoinedCond
set_option linter.unusedVariables false
set_option linter.unusedSimpArgs false
set_option linter.unnecessarySimpa false
namespace Go.Proofs.YtoelbgjpmpoolaaGreat
open Go Dv
set_option maxRecDepth 10000
set_option linter.unusedSimpArgs false
set_option maxHeartbeats 4000000 in
theorem c_mAns3 (m : Zak) (s p : Mach) (f : Zaw) (w d : Int) (hp : popM s = p) (hf : topF p = f) (h2 : 1 < s.stack.length) (h32 : s.stack.length ≤ 32) (hF : OkF m f) (hn : endB m f = true) (hdd : (Zau m f).fin.dst = d) (hd : 0 ≤ d ∧ d < f.regs.length) (hat : f.at_ < 1000000) :
    HG Tryz.prog LW 114 (mem m s) [.bp jB 0, .int .u16 w] (.tup []) (mem m (Zbu p { frW f d w with block := (Zau m f).fin.to, at_ := 0 })) := by
  refine Za6 tok Tryz.func114 rfl (by decide +kernel) (Nat.le_of_ble_eq_true rfl) ?_
  have hmx : maxL = 4294967296 := rfl
  have hpl : p.stack.length = s.stack.length - 1 := by rw [← hp]; exact Zcz
  have hP := c_mPop m s (by omega) (by omega)
  rw [hp] at hP
  have hft : p.stack.getD (p.stack.length - 1) default = f := hf
  have hB : HG Tryz.prog LW 112 (mem m p) [.bp jB 0, .rp jF 5 (p.stack.length - 1) 0] (.agg (Zbl (Zau m f))) (mem m p) := by
    have := Zda m p (p.stack.length - 1) (by omega) (by rw [hft]; exact hF)
    rw [hft] at this; exact this
  have hE : f.at_ = (Zau m f).ins.length := of_decide_eq_true hn
  have hgen : ∃ b, Zau m f = b := ⟨_, rfl⟩
  obtain ⟨b, hbe⟩ := hgen
  have a0 := hF.a0
  have a1 := hF.a1
  rw [hbe] at hB hE hdd a1 ⊢
  have hp0 : 0 < p.stack.length := by omega
  (repeat' ((fail_if_success (show AWp _ _ _ (Code.region 1 _ _) _ _)); first | refine Zac ?_ | (refine Zab tok (by rfl) ?_; conv => whnf)))
  refine .inr ⟨_, _, _, uG (QH.tnM (by simp) (by simp) hP (by omega) (Zax rfl rfl rfl rfl (fun _ => rfl)) rfl (fun q hq => Zao hq)), ?_⟩
  conv => whnf
  (repeat' ((fail_if_success (show AWp _ _ _ (Code.region 2 _ _) _ _)); (fail_if_success (show AWp _ _ _ (Code.region 3 _ _) _ _)); first | refine Zac ?_ | (refine Zab tok (by rfl) ?_; conv => whnf) | (refine Zag ?_; conv => whnf) | refine Zaf rfl (fun hb => ?_) (fun hb => ?_)))
  · exfalso; simp only [decide_eq_true_eq] at hb; omega
  clear hb
  (repeat' ((fail_if_success (show AWp _ _ _ (Code.region 4 _ _) _ _)); (refine Zab tok (by rfl) ?_; conv => whnf)))
  refine .inr ⟨_, _, _, uG (QH.tnM (by simp) (by simp) (Zfb m p hp0 (by omega)) (by omega) (Zax rfl rfl rfl rfl (fun q => Zbm (fun hq => Zao (by omega)))) rfl (fun q hq => (Zbm (fun hq => Zao (by omega))).trans (Zao hq))), ?_⟩
  conv => whnf
  (repeat' ((fail_if_success (show AWp _ _ _ (Code.region 5 _ _) _ _)); first | refine Zac ?_ | (refine Zab tok (by rfl) ?_; conv => whnf)))
  refine .inr ⟨_, _, _, uG (QH.tnM (by simp) (by simp) hB (by omega) (Zax rfl rfl rfl rfl (fun q => Zbm (fun hq => big_far (by omega) hq (Zao (by omega))))) rfl (fun q hq => (Zbm (fun hq => big_far (by omega) hq (Zao (by omega)))).trans (Zao hq))), ?_⟩
  conv => whnf
  ((repeat' ((fail_if_success (show AWp _ _ _ (Code.region 6 _ _) _ _)); (fail_if_success (show AWp _ _ _ (Code.region 8 _ _) _ _)); first | refine Zac ?_ | (refine Zap tok mix (by rfl) ?_; conv => whnf) | (refine Zag ?_; conv => whnf) | refine Zaf rfl (fun hb => ?_) (fun hb => ?_) | (refine @And.intro (Zaa _ _ _ _) _ ?_ ?_; rotate_left; (conv => whnf); rotate_right))); all_goals (try ((guard_target = Zaa _ _ _ _); refine Zae ?_; (all_goals (try simp only [Zaa, kzz, kz11, kz12, maxL, Zad] at *)); all_goals omega)))
  · exfalso
    rw [hft] at hb
    simp only [decide_eq_true_eq] at hb
    omega
  clear hb
  refine Za0 (Weak.fam (L := LW) (tl := [(0, .bp jB 0), (1, .int .u16 w), (4, .rp jF 5 (p.stack.length - 1) 0), (5, .bp (5, 0, 0) 0)]) (hl := [((5, 0, 0), Zba (Zbl b))] ++ memL m p) (F := famW p.stack) [] rfl (fun c hc => by cases hc) ?_ ?_ ?_ LW_keepL) ?_
  · exact .cons (.bp rfl rfl) (.cons (.imm rfl) (.cons (.rp rfl rfl rfl) (.cons (.bp rfl rfl) .nil)))
  · exact .old rfl rfl (GB.one (GVs.imm rfl) (fun _ => rfl)) (Zci rfl rfl rfl rfl (fun _ => rfl) rfl rfl rfl rfl rfl rfl rfl (fun q hq => Zcm hq))
  · exact Zft (fun _ _ => rfl) (fun q hq => Za9 hq)
  have hle : p.stack.length - 1 < p.stack.length := by omega
  have hzz : d.toNat < (p.stack.getD (p.stack.length - 1) default).regs.length := by rw [hft]; omega
  have hdl : 0 ≤ b.fin.dst ∧ b.fin.dst.toNat < (topF p).regs.length := by rw [hdd, hf]; omega
  have hG := c_Go (frW (topF p) d w) b.fin.to
  ((repeat' first | (refine Zap tok mix (by rfl) ?_; conv => whnf) | (refine @And.intro (Zaa _ _ _ _) _ ?_ ?_; rotate_left; (conv => whnf); rotate_right)); all_goals (try ((guard_target = Zaa _ _ _ _); refine Zae ?_; (all_goals (try simp only [Zaa, kzz, kz11, kz12, maxL, Zad] at *)); all_goals omega)))
  refine fAV (x := Zbc p.stack (p.stack.length - 1)) (y := .rs jT 1 0 (topF p).regs.length) (Zbb hp0 rfl) ?_
  conv => whnf
  ((repeat' ((fail_if_success (show AWp _ _ _ (Code.region 9 _ _) _ _)); (refine @And.intro (Zaa _ _ _ _) _ ?_ ?_; rotate_left; (conv => whnf); rotate_right))); all_goals (try ((guard_target = Zaa _ _ _ _); refine Zae ?_; (all_goals (try simp only [Zaa, kzz, kz11, kz12, maxL, Zad] at *)); all_goals omega)))
  refine Zel tok mix (by rfl) [0, 1, 2, 3, 4, 5, 6, 8] 30 (by rfl) (by rfl) (by rfl) ?_
  conv => whnf
  repeat' first
    | (refine fAV (x := Zbc p.stack (p.stack.length - 1)) (y := .rs jT 1 0 (topF p).regs.length) (Zbb hp0 rfl) ?_; (conv => whnf))
    | (refine @And.intro (Zaa _ _ _ _) _ ?_ ?_; rotate_left; (conv => whnf); rotate_right)
    | (guard_target = And _ _; refine @And.intro (gOp _ _ _ _ _ _ _ _ _) _ (by (conv => whnf); first | exact ⟨rfl, rfl⟩ | (refine fAV (x := Zbc p.stack (p.stack.length - 1)) (y := .rs jT 1 0 (topF p).regs.length) (Zbb hp0 rfl) ?_; (conv => whnf); exact ⟨rfl, rfl⟩)) ?_; conv => whnf)
    | (guard_target = And _ _; refine And.intro ?_ ?_ <;> (conv => whnf))
  all_goals (try ((guard_target = Zaa _ _ _ _); refine Zae ?_; (all_goals (try simp only [Zaa, kzz, kz11, kz12, maxL, Zad] at *)); all_goals omega))
  all_goals (try (show AV.agg [_, _, _, Zbc p.stack (p.stack.length - 1), _] = AV.agg [_, _, _, .rs jT 1 0 (topF p).regs.length, _]; rw [Zbb hp0 rfl]; done))
  all_goals refine .inr ⟨_, _, _, uG (QH.lendF (rd := [jT]) hG (.cons (.agg (.cons (.imm rfl) (.cons (.imm rfl) (.cons (.imm rfl) (.cons (.row rfl (.head _) rfl ?_ (fun q hq => ?_)) (.cons (.imm rfl) .nil)))))) (.cons (.imm rfl) .nil)) (fun i hi => by rw [Zc3 hi]; rfl) rfl (fun j b e => by
    have := Zc3 (i := j) (by rw [e]; rfl)
    subst this; cases e; exact fun i hi => rfl)), ?_⟩
  all_goals (try (show (topF p).regs.length = _; simp [frW]; done))
  all_goals (try (rw [Nat.zero_add, hdd]; exact (rowSet (l := (topF p).regs) (by rw [hf]; omega)); done))
  all_goals conv => whnf
  all_goals (repeat' first
    | (refine fAV (x := Zbc p.stack (p.stack.length - 1)) (y := .rs jT 1 0 (topF p).regs.length) (Zbb hp0 rfl) ?_; (conv => whnf))
    | (refine @And.intro (Zaa _ _ _ _) _ ?_ ?_; rotate_left; (conv => whnf); rotate_right)
    | (guard_target = And _ _; refine @And.intro (gOp _ _ _ _ _ _ _ _ _) _ (by (conv => whnf); first | exact ⟨rfl, rfl⟩ | (refine fAV (x := Zbc p.stack (p.stack.length - 1)) (y := .rs jT 1 0 (topF p).regs.length) (Zbb hp0 rfl) ?_; (conv => whnf); exact ⟨rfl, rfl⟩)) ?_; conv => whnf)
    | (guard_target = And _ _; refine And.intro ?_ ?_ <;> (conv => whnf)))
  all_goals (try ((guard_target = Zaa _ _ _ _); refine Zae ?_; (all_goals (try simp only [Zaa, kzz, kz11, kz12, maxL, Zad] at *)); all_goals omega))
  all_goals (try (show AV.agg [_, _, _, Zbc p.stack (p.stack.length - 1), _] = AV.agg [_, _, _, .rs jT 1 0 (topF p).regs.length, _]; rw [Zbb hp0 rfl]; done))
  skip
  refine ⟨_, srcT jE r0, rfl, ?_⟩
  rw [← and_assoc]
  refine ⟨leaveG (s := p) (g := { frW (topF p) d w with block := b.fin.to, at_ := 0 }) (n' := p.stack.length) hp0 ?_ rfl (.inr (.inl rfl)) (.inl rfl) rfl ?_ rfl (Nat.le_refl _) (fun q hq => ?_) ?_ rfl (Zd7 _) rfl (Zbs _) (fun q hq => ?_), .tup .nil, keepT⟩
  · rw [hf]
  · exact Zd6 (s := Zbu p { frW f d w with block := b.fin.to, at_ := 0 }) (Zc5 (s := p) hp0).symm rfl rfl rfl rfl
  · exact Zcv (by omega)
  · exact Zdi
  · refine Zev (d := []) (u := oneR (frW (topF p) d w).regs) rfl rfl ?_
    exact Za2 hq
theorem c_mAns (m : Zak) (s : Mach) (w : Int) (h : 0 < s.stack.length) (h32 : s.stack.length ≤ 32) (hF : 1 < s.stack.length → OkF m (topF (popM s))) (hat : 1 < s.stack.length → (topF (popM s)).at_ < 1000000)
    (hd1 : 1 < s.stack.length → endB m (topF (popM s)) = true → 0 ≤ (Zau m (topF (popM s))).fin.dst ∧ (Zau m (topF (popM s))).fin.dst < (topF (popM s)).regs.length)
    (hd2 : 1 < s.stack.length → endB m (topF (popM s)) = false → 0 ≤ ((Zau m (topF (popM s))).ins.getD (topF (popM s)).at_.toNat default).dst ∧ ((Zau m (topF (popM s))).ins.getD (topF (popM s)).at_.toNat default).dst < (topF (popM s)).regs.length) :
    HG Tryz.prog LW 114 (mem m s) [.bp jB 0, .int .u16 w] (.tup []) (mem m (Zb4 m s w)) := by
  unfold Zb4
  by_cases h1 : s.stack.length = 1
  · rw [if_pos h1]; exact c_mAns1 m s w h1
  · have h2 : 1 < s.stack.length := by omega
    rw [if_neg h1]
    unfold answF
    cases e : endB m (topF (popM s)) with
    | true => rw [if_pos rfl]; exact c_mAns3 m s _ _ w _ rfl rfl h2 h32 (hF h2) e rfl (hd1 h2 e) (hat h2)
    | false => rw [if_neg (by decide)]; exact c_mAns2 m s _ _ w _ rfl rfl h2 h32 (hF h2) e rfl (hd2 h2 e) (hat h2)
end Go.Proofs.YtoelbgjpmpoolaaGreat
namespace Go.Proofs.YtoelbgjpmpoolaaGreat
open Go Dv
set_option maxRecDepth 10000
set_option linter.unusedSimpArgs false
def memE (el : List (Dv.Id × Zam)) (m : Zak) (s : Mach) : Zan := orH (Zaz (el ++ memL m s)) (famW s.stack)
theorem lookH_app (a b : List (Dv.Id × Zam)) (j : Dv.Id) : Zaz (a ++ b) j = match Zaz a j with
    | some x => some x
    | none => Zaz b j := by
  induction a with
  | nil => rfl
  | cons p r ih =>
    simp only [List.cons_append, Zaz]
    cases idEq p.1 j with
    | true => rfl
    | false => exact ih
theorem memE_eq {el : List (Dv.Id × Zam)} {m : Zak} {s : Mach} {j : Dv.Id} : memE el m s j = match Zaz el j with
    | some x => some x
    | none => mem m s j := by
  unfold memE mem orH
  rw [lookH_app]
  cases Zaz el j <;> rfl
theorem Zez {el : List (Dv.Id × Zam)} {m : Zak} {s : Mach} {j : Dv.Id} (h : Zaz el j = none) : memE el m s j = mem m s j := by rw [memE_eq, h]
theorem mem_map {m : Zak} {s : Mach} {ρ : Dv.Id → Option Dv.Id} (hF : ρ jF = some jF) (hE : ρ jE = some jE) (hT : ρ jT = some jT) (hq : ∀ q, q < s.stack.length - 1 → ρ (945, 0, q) = some (945, 0, q)) {j : Dv.Id} {b : Zam} (h : mem m s j = some b) : Dv.mapB ρ b = b := by
  rcases Zb2 h with ⟨rfl, rfl⟩ | ⟨rfl, rfl⟩ | ⟨rfl, rfl⟩ | ⟨rfl, rfl⟩ | ⟨q, rfl, hq, rfl⟩
  · show Zam.row false 22 1 (fun _ => Zbh ρ (macC m s)) = Zam.row false 22 1 (fun _ => macC m s)
    congr 1
    funext x
    show (match ρ jF with | some j => AV.rs j 5 0 s.stack.length | none => .any) :: _ = _
    rw [hF]
    unfold macC
    show _ :: [_, _, _, _, _, _, _, _, _, _, _, _, _, _, _, _, _, (match ρ jE with | some j => AV.rs j 1 0 s.events.length | none => .any), _, _, _] = _
    rw [hE]; rfl
  · show Zam.row false 5 s.stack.length (fun q => Zbh ρ (frC s.stack q)) = Zam.row false 5 s.stack.length (frC s.stack)
    congr 1
    funext q
    show [_, _, _, Zbd _ (Zbc s.stack q), _] = _
    unfold frC
    congr 4
    unfold Zbc
    by_cases hq2 : q < s.stack.length - 1
    · rw [Zcx hq2]
      show (match ρ (945, 0, q) with | some j => AV.rs j 1 0 _ | none => .any) = _
      rw [hq q hq2]
    · rw [Zdk (by omega)]
      show (match ρ jT with | some j => AV.rs j 1 0 _ | none => .any) = _
      rw [hT]
  · rfl
  · rfl
  · rfl
theorem kpH_is {h : Zan} {i : Dv.Id} (e : (h i).isSome = true) : kpH h i = some i := by
  unfold kpH; cases e2 : h i with
  | none => rw [e2] at e; cases e
  | some b => rfl
abbrev jX : Dv.Id := (3, 7, 0)
abbrev LX : List Dv.Id := [jB, jF, jX]
def frA (f : Zaw) : List AV := [iv f.f, iv f.block, iv f.at_, .any, .int .u16 f.fly]
def xL (s : Mach) (i : Nat) : List (Dv.Id × Zam) := [(jX, .row false 5 1 (fun _ => frA (s.stack.getD i default)))]
theorem memX_kp {m : Zak} {s : Mach} {i q : Nat} (h : q < s.stack.length - 1) : kpH (memE (xL s i) m s) (945, 0, q) = some (945, 0, q) :=
  kpH_is (show (famW s.stack (945, 0, q)).isSome = true by rw [Za2 h]; rfl)
theorem memX_closed (m : Zak) (s : Mach) (i : Nat) : ∀ j b, memE (xL s i) m s j = some b → Dv.mapB (kpH (memE (xL s i) m s)) b = b := by
  intro j b e
  rw [memE_eq] at e
  cases e1 : idEq jX j with
  | true =>
    rw [show Zaz (xL s i) j = some (.row false 5 1 (fun _ => frA (s.stack.getD i default))) from by simp only [xL, Zaz, e1]; rfl] at e
    cases e
    show Zam.row false 5 1 (fun _ => Zbh _ (frA (s.stack.getD i default))) = _
    rfl
  | false =>
    rw [show Zaz (xL s i) j = none from by simp only [xL, Zaz, e1]; rfl] at e
    exact mem_map (kpH_is rfl) (kpH_is rfl) (kpH_is rfl) (fun q hq => memX_kp hq) e
theorem memX_sub {m : Zak} {s : Mach} {i : Nat} {h : Zan} (h0 : h jX = some (.row false 5 1 (fun _ => frA (s.stack.getD i default)))) (h1 : h jB = some (macB m s)) (h2 : h jF = some (Zc2 s.stack)) (h3 : h jE = some (evB s.events)) (h4 : h jT = some (regB (topF s).regs)) (h5 : ∀ q, h (945, 0, q) = famW s.stack (945, 0, q)) : ∀ j b, memE (xL s i) m s j = some b → h j = some b := fun j b e => by
  rw [memE_eq] at e
  cases e1 : idEq jX j with
  | true =>
    rw [show Zaz (xL s i) j = some (.row false 5 1 (fun _ => frA (s.stack.getD i default))) from by simp only [xL, Zaz, e1]; rfl] at e
    cases e
    rw [← Za3.1 e1]; exact h0
  | false =>
    rw [show Zaz (xL s i) j = none from by simp only [xL, Zaz, e1]; rfl] at e
    exact Zax h1 h2 h3 h4 h5 j b e
theorem QH.tnX {P : Program} {f : FuncId} {m : Zak} {s : Mach} {i : Nat} {args : List AV} {r : AV} {h : Zan} (hc : HG P LX f (memE (xL s i) m s) args r (memE (xL s i) m s)) (h32 : s.stack.length ≤ 32) (hsub : ∀ j b, memE (xL s i) m s j = some b → h j = some b)
    (hag : Zbh (kpH (memE (xL s i) m s)) args = args) (hfree : ∀ q, famW s.stack (945, 0, q) = none → h (945, 0, q) = none) : QH P h f args dK (memE (xL s i) m s) r := by
  refine QH.frame hc hsub (memX_closed m s i) hag (fun j hj => ?_) (fun j hj => .inl hj) (fun j hj => ?_)
  · cases e : memE (xL s i) m s j with
    | none => rw [e] at hj; cases hj
    | some b =>
      rw [memE_eq] at e
      cases e1 : idEq jX j with
      | true => rw [← Za3.1 e1]; exact .inr ⟨.tail _ (.tail _ (.head _)), rfl, rfl⟩
      | false =>
        rw [show Zaz (xL s i) j = none from by simp only [xL, Zaz, e1]; rfl] at e
        rcases Zb2 e with ⟨rfl, _⟩ | ⟨rfl, _⟩ | ⟨rfl, _⟩ | ⟨rfl, _⟩ | ⟨q, rfl, hq, _⟩
        · exact .inr ⟨.head _, rfl, rfl⟩
        · exact .inr ⟨.tail _ (.head _), rfl, rfl⟩
        · exact .inl rfl
        · exact .inl rfl
        · exact .inl (Zb6.2 (List.mem_cons_of_mem _ (List.mem_cons_of_mem _ (Zf2.2 ⟨q, by omega, rfl⟩))))
  · rcases List.mem_cons.1 (Zb6.1 hj) with rfl | hj
    · exact .inl rfl
    rcases List.mem_cons.1 hj with rfl | hj
    · exact .inl rfl
    obtain ⟨q, _, rfl⟩ := Zf2.1 hj
    by_cases hq2 : q < s.stack.length - 1
    · exact .inl (show (famW s.stack (945, 0, q)).isSome = true by rw [Za2 hq2]; rfl)
    · exact .inr (hfree q (Zao (by omega)))
theorem leaveX {m : Zak} {s : Mach} {i : Nat} {h : Zan} (h0 : h jX = some (.row false 5 1 (fun _ => frA (s.stack.getD i default)))) {b0 : Zam} (h1 : h jB = some b0) (hB : GB (srcL []) h (memE (xL s i) m s) b0 (macB m s)) (h2 : h jF = some (Zc2 s.stack)) (h3 : h jE = some (evB s.events)) (h4 : h jT = some (regB (topF s).regs)) (h5 : ∀ q, q < s.stack.length - 1 → h (945, 0, q) = some (regB (s.stack.getD q default).regs)) :
    (∀ j j' k, (memE (xL s i) m s j).isSome = true → (memE (xL s i) m s j').isSome = true → srcL [] j = some k → srcL [] j' = some k → j = j') ∧ ∀ j b, memE (xL s i) m s j = some b → HOk (srcL []) h (memE (xL s i) m s) j b := by
  refine ⟨fun j j' k _ _ e1 e2 => by cases e1; cases e2; rfl, fun j b e => ?_⟩
  have hfam : ∀ q, q < s.stack.length - 1 → (memE (xL s i) m s (945, 0, q)).isSome = true := fun q hq => by
    show (famW s.stack (945, 0, q)).isSome = true; rw [Za2 hq]; rfl
  rw [memE_eq] at e
  cases e1 : idEq jX j with
  | true =>
    rw [show Zaz (xL s i) j = some (.row false 5 1 (fun _ => frA (s.stack.getD i default))) from by simp only [xL, Zaz, e1]; rfl] at e
    cases e
    rw [← Za3.1 e1]
    refine HOk.mk rfl h0 (GB.one ?_ (fun e => by cases e))
    exact .cons (.imm rfl) (.cons (.imm rfl) (.cons (.imm rfl) (.cons .any (.cons (.imm rfl) .nil))))
  | false =>
    rw [show Zaz (xL s i) j = none from by simp only [xL, Zaz, e1]; rfl] at e
    rcases Zb2 e with ⟨rfl, rfl⟩ | ⟨rfl, rfl⟩ | ⟨rfl, rfl⟩ | ⟨rfl, rfl⟩ | ⟨q, rfl, hq, rfl⟩
    · exact HOk.mk rfl h1 hB
    · exact HOk.mk rfl h2 (GB_fr (fun _ _ => rfl) rfl hfam rfl)
    · exact HOk.mk rfl h3 (Zd7 _)
    · exact HOk.mk rfl h4 (Zbs _)
    · exact HOk.mk rfl (h5 q hq) (Zbs _)
theorem LW_keepX {m : Zak} {s : Mach} {i : Nat} : ∀ j ∈ LX, Zeb j = true → (memE (xL s i) m s j).isSome = true ∧ srcL [] j = some j := fun j hj _ => by
  rcases List.mem_cons.1 hj with rfl | hj
  · exact ⟨rfl, rfl⟩
  rcases List.mem_cons.1 hj with rfl | hj
  · exact ⟨rfl, rfl⟩
  · rw [List.mem_singleton.1 hj]; exact ⟨rfl, rfl⟩
theorem c_mBlockX (m : Zak) (s : Mach) (i : Nat) (hi : i < s.stack.length) (hF : OkF m (s.stack.getD i default)) : HG Tryz.prog LX 112 (memE (xL s i) m s) [.bp jB 0, .bp jX 0] (.agg (Zbl (Zau m (s.stack.getD i default)))) (memE (xL s i) m s) := by
  refine Za6 tok Tryz.func112 rfl (by decide +kernel) (Nat.le_of_ble_eq_true rfl) ?_
  have hmx : maxL = 4294967296 := rfl
  have f0 := hF.f0
  have f1 := hF.f1
  have b0 := hF.b0
  have b1 : (s.stack.getD i default).block < (m.funcs.getD (s.stack.getD i default).f.toNat default).blocks.length := hF.b1
  ((repeat' first | refine Zac ?_ | (refine Zab tok (by rfl) ?_; conv => whnf) | (refine Zap tok mix (by rfl) ?_; conv => whnf) | (refine Zaj ?_; conv => whnf) | (refine @And.intro (Zaa _ _ _ _) _ ?_ ?_; rotate_left; (conv => whnf); rotate_right)); all_goals (try ((guard_target = Zaa _ _ _ _); refine Zae ?_; (all_goals (try simp only [Zaa, kzz, kz11, kz12, maxL, Zad] at *)); all_goals omega)))
  refine ⟨_, srcL [], rfl, ?_⟩
  rw [← and_assoc]
  exact ⟨leaveX rfl rfl (Zcc rfl rfl rfl) rfl rfl rfl (fun q hq => Za2 hq), .agg (GVs.imm rfl), LW_keepX⟩
theorem bigX_fam {m : Zak} {s : Mach} {i : Nat} {d : List Dv.Id} {h : Zan} {q : Nat} (hq : q < s.stack.length - 1) : bigH d (memE (xL s i) m s) h (945, 0, q) = some (regB (s.stack.getD q default).regs) := by
  unfold bigH
  rw [show memE (xL s i) m s (945, 0, q) = famW s.stack (945, 0, q) from rfl, Za2 hq]
set_option maxHeartbeats 2000000 in
theorem c_mPadX (m : Zak) (s : Mach) (i : Nat) (hi : i < s.stack.length) (h32 : s.stack.length ≤ 32) (hF : OkF m (s.stack.getD i default)) (hp : (Zau m (s.stack.getD i default)).fin.kind = 4 → 0 ≤ (Zau m (s.stack.getD i default)).fin.pad ∧ (Zau m (s.stack.getD i default)).fin.pad < (Zcl m (s.stack.getD i default)).blocks.length) :
    HG Tryz.prog LX 161 (memE (xL s i) m s) [.bp jB 0, .bp jX 0] (.tup [iv (padV m (s.stack.getD i default)).1, .agg (encPad (padV m (s.stack.getD i default)).2.1), .bool (padV m (s.stack.getD i default)).2.2]) (memE (xL s i) m s) := by
  refine Za6 tok Tryz.func161 rfl (by decide +kernel) (Nat.le_of_ble_eq_true rfl) ?_
  have hmx : maxL = 4294967296 := rfl
  have hB := c_mBlockX m s i hi hF
  have f0 := hF.f0
  have f1 := hF.f1
  have a0 := hF.a0
  have a1 := hF.a1
  have hE : endB m (s.stack.getD i default) = decide ((s.stack.getD i default).at_ = (Zau m (s.stack.getD i default)).ins.length) := rfl
  have hpl : (Zau m (s.stack.getD i default)).fin.kind = 4 → 0 ≤ (Zau m (s.stack.getD i default)).fin.pad ∧ (Zau m (s.stack.getD i default)).fin.pad < (m.funcs.getD (s.stack.getD i default).f.toNat default).blocks.length := hp
  have hpf : padF m (s.stack.getD i default) = ((m.funcs.getD (s.stack.getD i default).f.toNat default).blocks.getD (Zau m (s.stack.getD i default)).fin.pad.toNat default).pad := rfl
  have hV : padV m (s.stack.getD i default) = if endB m (s.stack.getD i default) = true ∧ (Zau m (s.stack.getD i default)).fin.kind = 4 then ((Zau m (s.stack.getD i default)).fin.pad, padF m (s.stack.getD i default), true) else (0, ⟨0, [], false, false⟩, false) := rfl
  have hgen : ∃ b, Zau m (s.stack.getD i default) = b := ⟨_, rfl⟩
  obtain ⟨b, hbe⟩ := hgen
  rw [hbe] at hB hE hpl hpf hV a1
  (repeat' first | refine Zac ?_ | (refine Zab tok (by rfl) ?_; conv => whnf))
  refine .inr ⟨_, _, _, uG (QH.tnX hB h32 (memX_sub rfl rfl rfl rfl rfl (fun _ => rfl)) rfl (fun q hq => hq)), ?_⟩
  conv => whnf
  (repeat' ((fail_if_success (show AWp _ _ _ (Code.region 3 _ _) _ _)); (fail_if_success (show AWp _ _ _ (Code.region 4 _ _) _ _)); first | refine Zac ?_ | (refine Zap tok mix (by rfl) ?_; conv => whnf) | (refine Zag ?_; conv => whnf) | refine Zaf rfl (fun hb => ?_) (fun hb => ?_)))
  · have hn : ¬ (endB m (s.stack.getD i default) = true ∧ b.fin.kind = 4) := by
      rintro ⟨h1, h2⟩
      rw [hE, decide_eq_true_eq] at h1
      rw [decide_eq_false (show ¬ (s.stack.getD i default).at_ < (b.ins.length : Int) by omega), decide_eq_true h2] at hb
      cases hb
    rw [if_neg hn] at hV
    rw [hV]
    (repeat' first | (refine Zab tok (by rfl) ?_; conv => whnf) | (refine Zaj ?_; conv => whnf))
    refine ⟨_, srcL [], rfl, ?_⟩
    rw [← and_assoc]
    exact ⟨leaveX rfl rfl (Zcc rfl rfl rfl) rfl rfl rfl (fun q hq => bigX_fam hq), .tup (.cons (.imm rfl) (.cons (.agg (.cons (.imm rfl) (.cons (.wk rfl (.nsl rfl)) (.cons (.imm rfl) (.cons (.imm rfl) .nil))))) (.cons (.imm rfl) .nil))), LW_keepX⟩
  have hy : endB m (s.stack.getD i default) = true ∧ b.fin.kind = 4 := by
    rw [hE, decide_eq_true_eq]
    by_cases e1 : (s.stack.getD i default).at_ < (b.ins.length : Int)
    · rw [decide_eq_true e1] at hb; cases hb
    · rw [decide_eq_false e1] at hb
      by_cases e2 : b.fin.kind = 4
      · exact ⟨by omega, e2⟩
      · rw [decide_eq_false e2] at hb; cases hb
  clear hb
  rw [if_pos hy] at hV
  rw [hV]
  obtain ⟨hp0, hp1⟩ := hpl hy.2
  ((repeat' first | (refine Zap tok mix (by rfl) ?_; conv => whnf) | (refine Zaj ?_; conv => whnf) | (refine @And.intro (Zaa _ _ _ _) _ ?_ ?_; rotate_left; (conv => whnf); rotate_right)); all_goals (try ((guard_target = Zaa _ _ _ _); refine Zae ?_; (all_goals (try simp only [Zaa, kzz, kz11, kz12, maxL, Zad] at *)); all_goals omega)))
  refine ⟨_, srcL [], rfl, ?_⟩
  rw [← and_assoc]
  rw [hpf]
  exact ⟨leaveX rfl rfl (Zcc rfl rfl rfl) rfl rfl rfl (fun q hq => bigX_fam hq), .tup (.cons (.imm rfl) (.cons (.agg (GVs.imm rfl)) (.cons (.imm rfl) .nil))), LW_keepX⟩
end Go.Proofs.YtoelbgjpmpoolaaGreat
namespace Go.Proofs.YtoelbgjpmpoolaaGreat
open Go Dv
set_option maxRecDepth 10000
set_option linter.unusedSimpArgs false
section
variable {P : Program} {f : FuncId} {m : Zak} {s : Mach} {args : List AV} {r : AV} {h : Zan} {el : List (Dv.Id × Zam)} {L : List Dv.Id}
theorem memE_some {j : Dv.Id} {b : Zam} (e : memE el m s j = some b) : Zaz el j = some b ∨ (Zaz el j = none ∧ mem m s j = some b) := by
  rw [memE_eq] at e
  cases e1 : Zaz el j with
  | some x => rw [e1] at e; exact .inl e
  | none => rw [e1] at e; exact .inr ⟨rfl, e⟩
theorem memE_closed (hB : Zaz el jF = none) (hE : Zaz el jE = none) (hT : Zaz el jT = none) (hq : ∀ q, Zaz el (945, 0, q) = none) (hc : ∀ j b, Zaz el j = some b → Dv.mapB (kpH (memE el m s)) b = b) : ∀ j b, memE el m s j = some b → Dv.mapB (kpH (memE el m s)) b = b := by
  intro j b e
  rcases memE_some e with e | ⟨_, e⟩
  · exact hc j b e
  · exact mem_map (kpH_is (by rw [Zez hB]; rfl)) (kpH_is (by rw [Zez hE]; rfl)) (kpH_is (by rw [Zez hT]; rfl)) (fun q hq2 => kpH_is (by rw [Zez (hq q), Zdu, Za2 hq2]; rfl)) e
theorem QH.tnE (hm1 : jB ∈ L) (hm2 : jF ∈ L) (hB : Zaz el jB = none) (hF : Zaz el jF = none) (hE : Zaz el jE = none) (hT : Zaz el jT = none) (hq : ∀ q, Zaz el (945, 0, q) = none) (hcl : ∀ j b, Zaz el j = some b → Dv.mapB (kpH (memE el m s)) b = b) (hp : ∀ j b, Zaz el j = some b → j ∈ L ∧ Zeb j = true)
    (hc : HG P L f (memE el m s) args r (memE el m s)) (h32 : s.stack.length ≤ 32) (hsub : ∀ j b, memE el m s j = some b → h j = some b)
    (hag : Zbh (kpH (memE el m s)) args = args) (hfree : ∀ q, famW s.stack (945, 0, q) = none → h (945, 0, q) = none) : QH P h f args dK (memE el m s) r := by
  refine QH.frame hc hsub (memE_closed hF hE hT hq hcl) hag (fun j hj => ?_) (fun j hj => .inl hj) (fun j hj => ?_)
  · cases e : memE el m s j with
    | none => rw [e] at hj; cases hj
    | some b =>
      rcases memE_some e with e1 | ⟨_, e1⟩
      · have := hp j b e1
        exact .inr ⟨this.1, this.2, rfl⟩
      · rcases Zb2 e1 with ⟨rfl, _⟩ | ⟨rfl, _⟩ | ⟨rfl, _⟩ | ⟨rfl, _⟩ | ⟨q, rfl, hq2, _⟩
        · exact .inr ⟨hm1, rfl, rfl⟩
        · exact .inr ⟨hm2, rfl, rfl⟩
        · exact .inl rfl
        · exact .inl rfl
        · exact .inl (Zb6.2 (List.mem_cons_of_mem _ (List.mem_cons_of_mem _ (Zf2.2 ⟨q, by omega, rfl⟩))))
  · rcases List.mem_cons.1 (Zb6.1 hj) with rfl | hj
    · exact .inl (by rw [Zez hE]; rfl)
    rcases List.mem_cons.1 hj with rfl | hj
    · exact .inl (by rw [Zez hT]; rfl)
    obtain ⟨q, _, rfl⟩ := Zf2.1 hj
    by_cases hq2 : q < s.stack.length - 1
    · exact .inl (by rw [Zez (hq q), Zdu, Za2 hq2]; rfl)
    · exact .inr (hfree q (Zao (by omega)))
theorem memE_sub (hel : ∀ j b, Zaz el j = some b → h j = some b) (h1 : h jB = some (macB m s)) (h2 : h jF = some (Zc2 s.stack)) (h3 : h jE = some (evB s.events)) (h4 : h jT = some (regB (topF s).regs)) (h5 : ∀ q, h (945, 0, q) = famW s.stack (945, 0, q)) : ∀ j b, memE el m s j = some b → h j = some b := fun j b e => by
  rcases memE_some e with e1 | ⟨_, e1⟩
  · exact hel j b e1
  · exact Zax h1 h2 h3 h4 h5 j b e1
end
abbrev c1 : Dv.Id := (4, 7, 0)
abbrev c2 : Dv.Id := (5, 7, 0)
abbrev LC : List Dv.Id := [jB, jF, c1, c2]
abbrev c1B : Zam := .row false 1 1 (fun _ => [.bp jB 0])
abbrev c2B (w : Int) : Zam := .row true 1 1 (fun _ => [.int .u16 w])
def cL (w : Int) : List (Dv.Id × Zam) := [(c1, c1B), (c2, c2B w)]
theorem cL_some {w : Int} {j : Dv.Id} {b : Zam} (h : Zaz (cL w) j = some b) : (j = c1 ∧ b = c1B) ∨ (j = c2 ∧ b = c2B w) := by
  simp only [cL, Zaz] at h
  cases e1 : idEq c1 j with
  | true => rw [e1] at h; exact .inl ⟨(Za3.1 e1).symm, (Option.some.inj h).symm⟩
  | false =>
    cases e2 : idEq c2 j with
    | true => rw [e1, e2] at h; exact .inr ⟨(Za3.1 e2).symm, (Option.some.inj h).symm⟩
    | false => rw [e1, e2] at h; cases h
theorem cL_closed {m : Zak} {s : Mach} {w : Int} : ∀ j b, Zaz (cL w) j = some b → Dv.mapB (kpH (memE (cL w) m s)) b = b := fun j b e => by
  rcases cL_some e with ⟨rfl, rfl⟩ | ⟨rfl, rfl⟩ <;> rfl
theorem cL_pin {w : Int} : ∀ j b, Zaz (cL w) j = some b → j ∈ LC ∧ Zeb j = true := fun j b e => by
  rcases cL_some e with ⟨rfl, rfl⟩ | ⟨rfl, rfl⟩
  · exact ⟨.tail _ (.tail _ (.head _)), rfl⟩
  · exact ⟨.tail _ (.tail _ (.tail _ (.head _))), rfl⟩
theorem LC_keep {m : Zak} {s : Mach} {w : Int} : ∀ j ∈ LC, Zeb j = true → (memE (cL w) m s j).isSome = true ∧ srcL [] j = some j := fun j hj _ => by
  rcases List.mem_cons.1 hj with rfl | hj
  · exact ⟨rfl, rfl⟩
  rcases List.mem_cons.1 hj with rfl | hj
  · exact ⟨rfl, rfl⟩
  rcases List.mem_cons.1 hj with rfl | hj
  · exact ⟨rfl, rfl⟩
  · rw [List.mem_singleton.1 hj]; exact ⟨rfl, rfl⟩
theorem LC_keep2 {tl : List (Dv.Id × Zam)} {F : Zan} {S : List (Dv.Id × Option Dv.Id)} (hB : (orH (Zaz tl) F jB).isSome = true ∧ srcL S jB = some jB := by exact ⟨rfl, rfl⟩) (hF : (orH (Zaz tl) F jF).isSome = true ∧ srcL S jF = some jF := by exact ⟨rfl, rfl⟩) (h1 : (orH (Zaz tl) F c1).isSome = true ∧ srcL S c1 = some c1 := by exact ⟨rfl, rfl⟩) (h2 : (orH (Zaz tl) F c2).isSome = true ∧ srcL S c2 = some c2 := by exact ⟨rfl, rfl⟩) : ∀ i ∈ LC, Zeb i = true → (orH (Zaz tl) F i).isSome = true ∧ srcL S i = some i := fun i hi _ => by
  rcases List.mem_cons.1 hi with rfl | hi
  · exact hB
  rcases List.mem_cons.1 hi with rfl | hi
  · exact hF
  rcases List.mem_cons.1 hi with rfl | hi
  · exact h1
  · rw [List.mem_singleton.1 hi]; exact h2
theorem leaveC {m : Zak} {s : Mach} {w : Int} {h : Zan} (k1 : h c1 = some c1B) (k2 : h c2 = some (c2B w)) {b0 : Zam} (h1 : h jB = some b0) (hB : GB (srcL []) h (memE (cL w) m s) b0 (macB m s)) (h2 : h jF = some (Zc2 s.stack)) (h3 : h jE = some (evB s.events)) (h4 : h jT = some (regB (topF s).regs)) (h5 : ∀ q, q < s.stack.length - 1 → h (945, 0, q) = some (regB (s.stack.getD q default).regs)) :
    (∀ j j' k, (memE (cL w) m s j).isSome = true → (memE (cL w) m s j').isSome = true → srcL [] j = some k → srcL [] j' = some k → j = j') ∧ ∀ j b, memE (cL w) m s j = some b → HOk (srcL []) h (memE (cL w) m s) j b := by
  refine ⟨fun j j' k _ _ e1 e2 => by cases e1; cases e2; rfl, fun j b e => ?_⟩
  have hfam : ∀ q, q < s.stack.length - 1 → (memE (cL w) m s (945, 0, q)).isSome = true := fun q hq => by
    show (famW s.stack (945, 0, q)).isSome = true; rw [Za2 hq]; rfl
  rcases memE_some e with e | ⟨_, e⟩
  · rcases cL_some e with ⟨rfl, rfl⟩ | ⟨rfl, rfl⟩
    · exact HOk.mk rfl k1 (GB.one (.cons (.bp rfl rfl) .nil) (fun e => by cases e))
    · exact HOk.mk rfl k2 (GB.one (.cons (.imm rfl) .nil) (fun _ => rfl))
  · rcases Zb2 e with ⟨rfl, rfl⟩ | ⟨rfl, rfl⟩ | ⟨rfl, rfl⟩ | ⟨rfl, rfl⟩ | ⟨q, rfl, hq, rfl⟩
    · exact HOk.mk rfl h1 hB
    · exact HOk.mk rfl h2 (GB_fr (fun _ _ => rfl) rfl hfam rfl)
    · exact HOk.mk rfl h3 (Zd7 _)
    · exact HOk.mk rfl h4 (Zbs _)
    · exact HOk.mk rfl (h5 q hq) (Zbs _)
theorem padV_catch {m : Zak} {f : Zaw} {w : Int} : (bif (padV m f).2.2 then catchF (padV m f).2.1 w else false) = Ze0 m f w false := by
  unfold padV Ze0
  cases endB m f <;> by_cases h : (Zau m f).fin.kind = 4 <;> simp [h]
theorem padV_catch2 {m : Zak} {f : Zaw} {w : Int} : (bif (padV m f).2.2 then (bif (padV m f).2.1.cleanup then true else catchF (padV m f).2.1 w) else false) = Ze0 m f w true := by
  unfold padV Ze0
  cases endB m f <;> by_cases h : (Zau m f).fin.kind = 4 <;> simp [h]
  cases (padF m f).cleanup <;> simp
set_option maxHeartbeats 4000000 in
theorem c_mThr1 (m : Zak) (s : Mach) (w : Int) (i : Nat) (hi : i < s.stack.length) (h32 : s.stack.length ≤ 32) (hF : OkF m (s.stack.getD i default)) (hp : (Zau m (s.stack.getD i default)).fin.kind = 4 → 0 ≤ (Zau m (s.stack.getD i default)).fin.pad ∧ (Zau m (s.stack.getD i default)).fin.pad < (Zcl m (s.stack.getD i default)).blocks.length) :
    HG Tryz.prog LC 160 (memE (cL w) m s) [.agg (frC s.stack i), .bp c1 0, .bp c2 0] (.bool (Zbx m s.stack w false i)) (memE (cL w) m s) := by
  refine Za6 tok Tryz.func160 rfl (by decide +kernel) (Nat.le_of_ble_eq_true rfl) ?_
  have hP := c_mPadX m s i hi h32 hF hp
  refine Zac ?_
  refine Zdq (α := Unit) (fun _ => ⟨lookT [(1, .bp c1 0), (2, .bp c2 0), (3, .bp jX 0), (4, .bool false)], orH (Zaz (xL s i ++ (cL w ++ memL m s))) (famW s.stack)⟩) (fun _ => True) ?_ ?_
  · by_cases hq : i < s.stack.length - 1
    · refine Za0 (Weak.fam (L := LC) (tl := [(0, .agg [iv (s.stack.getD i default).f, iv (s.stack.getD i default).block, iv (s.stack.getD i default).at_, .rs (945, 0, i) 1 0 (s.stack.getD i default).regs.length, .int .u16 (s.stack.getD i default).fly]), (1, .bp c1 0), (2, .bp c2 0)]) (hl := cL w ++ memL m s) (F := famW s.stack) [] rfl (fun c hc => by cases hc) ?_ ?_ ?_ LC_keep) ?_
      · exact .cons (.agg (.cons (.imm rfl) (.cons (.imm rfl) (.cons (.imm rfl) (.cons (.cc (Zcx hq) rfl (.rs (Za2 hq) rfl rfl rfl)) (.cons (.imm rfl) .nil)))))) (.cons (.bp rfl rfl) (.cons (.bp rfl rfl) .nil))
      · refine .old rfl rfl (GB.one (.cons (.bp rfl rfl) .nil) (fun e => by cases e)) (.old rfl rfl (GB.one (.cons (.imm rfl) .nil) (fun _ => rfl)) ?_)
        exact Zci rfl rfl rfl rfl (fun _ => rfl) rfl rfl rfl rfl rfl rfl rfl (fun q hq => Zcm hq)
      · exact Zft (fun _ _ => rfl) (fun q hq => Za2 hq)
      (repeat' (refine Zab tok (by rfl) ?_; conv => whnf))
      refine ⟨(), trivial, Weak.fam [(jX, some (3, 0, 0))] rfl (fun c hc => ?_) ?_ ?_ ?_ LC_keep2⟩
      · rw [List.mem_singleton.1 (show c ∈ [(3, 0, 0)] from hc)]; exact .inl rfl
      · exact .cons (.bp rfl rfl) (.cons (.bp rfl rfl) (.cons (.bp rfl rfl) (.cons (.imm rfl) .nil)))
      · refine .old rfl rfl (GB.one (.cons (.imm rfl) (.cons (.imm rfl) (.cons (.imm rfl) (.cons .any (.cons (.imm rfl) .nil))))) (fun e => by cases e)) (.old rfl rfl (GB.one (.cons (.bp rfl rfl) .nil) (fun e => by cases e)) (.old rfl rfl (GB.one (.cons (.imm rfl) .nil) (fun _ => rfl)) ?_))
        exact Zci rfl rfl rfl rfl (fun _ => rfl) rfl rfl rfl rfl rfl rfl rfl (fun q hq => Zcm hq)
      · exact Zft (fun _ _ => rfl) (fun q hq => Za2 hq)
    · refine Za0 (Weak.fam (L := LC) (tl := [(0, .agg [iv (s.stack.getD i default).f, iv (s.stack.getD i default).block, iv (s.stack.getD i default).at_, .rs jT 1 0 (s.stack.getD i default).regs.length, .int .u16 (s.stack.getD i default).fly]), (1, .bp c1 0), (2, .bp c2 0)]) (hl := cL w ++ memL m s) (F := famW s.stack) [] rfl (fun c hc => by cases hc) ?_ ?_ ?_ LC_keep) ?_
      · exact .cons (.agg (.cons (.imm rfl) (.cons (.imm rfl) (.cons (.imm rfl) (.cons (.cc (Zdk (by omega)) rfl (.rs rfl rfl rfl rfl)) (.cons (.imm rfl) .nil)))))) (.cons (.bp rfl rfl) (.cons (.bp rfl rfl) .nil))
      · refine .old rfl rfl (GB.one (.cons (.bp rfl rfl) .nil) (fun e => by cases e)) (.old rfl rfl (GB.one (.cons (.imm rfl) .nil) (fun _ => rfl)) ?_)
        exact Zci rfl rfl rfl rfl (fun _ => rfl) rfl rfl rfl rfl rfl rfl rfl (fun q hq => Zcm hq)
      · exact Zft (fun _ _ => rfl) (fun q hq => Za2 hq)
      (repeat' (refine Zab tok (by rfl) ?_; conv => whnf))
      refine ⟨(), trivial, Weak.fam [(jX, some (3, 0, 0))] rfl (fun c hc => ?_) ?_ ?_ ?_ LC_keep2⟩
      · rw [List.mem_singleton.1 (show c ∈ [(3, 0, 0)] from hc)]; exact .inl rfl
      · exact .cons (.bp rfl rfl) (.cons (.bp rfl rfl) (.cons (.bp rfl rfl) (.cons (.imm rfl) .nil)))
      · refine .old rfl rfl (GB.one (.cons (.imm rfl) (.cons (.imm rfl) (.cons (.imm rfl) (.cons .any (.cons (.imm rfl) .nil))))) (fun e => by cases e)) (.old rfl rfl (GB.one (.cons (.bp rfl rfl) .nil) (fun e => by cases e)) (.old rfl rfl (GB.one (.cons (.imm rfl) .nil) (fun _ => rfl)) ?_))
        exact Zci rfl rfl rfl rfl (fun _ => rfl) rfl rfl rfl rfl rfl rfl rfl (fun q hq => Zcm hq)
      · exact Zft (fun _ _ => rfl) (fun q hq => Za2 hq)
  rintro _ _ τ hτ
  refine Za0 hτ ?_
  (repeat' first | refine Zac ?_ | (refine Zab tok (by rfl) ?_; conv => whnf))
  refine .inr ⟨_, _, _, uG (QH.tnX hP h32 (memX_sub rfl rfl rfl rfl rfl (fun _ => rfl)) rfl (fun q hq => hq)), ?_⟩
  conv => whnf
  (repeat' first | refine Zac ?_ | (refine Zab tok (by rfl) ?_; conv => whnf))
  refine .inl ⟨_, _, _, uG (QC.fc (c_fCatches (padV m (s.stack.getD i default)).2.1 w) rfl), ?_⟩
  conv => whnf
  (repeat' (refine Zaj ?_; conv => whnf))
  refine ⟨_, srcL [], rfl, ?_⟩
  rw [← and_assoc]
  refine ⟨leaveC rfl rfl rfl (Zcc rfl rfl rfl) rfl rfl rfl (fun q hq => bigX_fam hq), GV.bool ?_, LC_keep⟩
  exact padV_catch
end Go.Proofs.YtoelbgjpmpoolaaGreat
namespace Go.Proofs.YtoelbgjpmpoolaaGreat
open Go Dv
set_option maxRecDepth 10000
set_option linter.unusedSimpArgs false
def idxP (p : Nat → Bool) (n : Nat) : Int := match (List.range n).find? p with
  | some i => i
  | none => -1
theorem idxP_at {p : Nat → Bool} {n i : Nat} (hi : i < n) (h : p i = true) (hl : ∀ j, j < i → p j = false) : idxP p n = i := by
  unfold idxP
  rw [List.find?_range_eq_some.2 ⟨h, List.mem_range.2 hi, fun j hj => by rw [hl j hj]; rfl⟩]
theorem idxP_none {p : Nat → Bool} {n : Nat} (hl : ∀ j, j < n → p j = false) : idxP p n = -1 := by
  unfold idxP
  rw [List.find?_range_eq_none.2 (fun j hj => by rw [hl j hj]; rfl)]
theorem idxP_any {p : Nat → Bool} {n : Nat} : decide (0 ≤ idxP p n) = (List.range n).any p := by
  unfold idxP
  cases e : (List.range n).find? p with
  | none =>
    have : (List.range n).any p = false := by
      rw [Bool.eq_false_iff]; intro h
      obtain ⟨x, hx, hp⟩ := List.any_eq_true.1 h
      have := List.find?_eq_none.1 e x hx
      exact this hp
    rw [this]; rfl
  | some i =>
    have h1 := List.find?_some e
    have h2 := List.mem_of_find?_eq_some e
    rw [List.any_eq_true.2 ⟨i, h2, h1⟩]
    exact decide_eq_true (Int.natCast_nonneg i)
theorem weakC {n : Nat} {tl : List (Nat × AV)} {m : Zak} {s : Mach} {w : Int} {σ : ASt} (ht : TLg (srcL []) σ.h (orH (Zaz (cL w ++ memL m s)) (famW s.stack)) σ.tm tl) (k1 : σ.h c1 = some c1B) (k2 : σ.h c2 = some (c2B w)) (h1 : σ.h jB = some (macB m s)) (h2 : σ.h jF = some (Zc2 s.stack)) (h3 : σ.h jE = some (evB s.events)) (h4 : σ.h jT = some (regB (topF s).regs)) (h5 : ∀ q, q < s.stack.length - 1 → σ.h (945, 0, q) = some (regB (s.stack.getD q default).regs)) :
    Weak n LC σ (mkF tl (cL w ++ memL m s) (famW s.stack)) := by
  refine Weak.fam [] rfl (fun c hc => by cases hc) ht ?_ ?_ LC_keep
  · refine .old rfl k1 (GB.one (.cons (.bp rfl rfl) .nil) (fun e => by cases e)) (.old rfl k2 (GB.one (.cons (.imm rfl) .nil) (fun _ => rfl)) ?_)
    exact Zci rfl rfl rfl rfl (fun _ => rfl) h1 h2 h3 h4 rfl rfl rfl (fun q hq => Zcm hq)
  · exact Zft (fun _ _ => rfl) h5
theorem Zf0 {m : Zak} {s : Mach} {w : Int} {d : List Dv.Id} {h : Zan} {q : Nat} (hq : q < s.stack.length - 1) : bigH d (memE (cL w) m s) h (945, 0, q) = some (regB (s.stack.getD q default).regs) := by
  unfold bigH
  rw [show memE (cL w) m s (945, 0, q) = famW s.stack (945, 0, q) from rfl, Za2 hq]
set_option maxHeartbeats 4000000 in
theorem c_IndexFr (m : Zak) (s : Mach) (w : Int) (h32 : s.stack.length ≤ 32) (hF : ∀ i, i < s.stack.length → OkF m (s.stack.getD i default)) (hp : ∀ i, i < s.stack.length → (Zau m (s.stack.getD i default)).fin.kind = 4 → 0 ≤ (Zau m (s.stack.getD i default)).fin.pad ∧ (Zau m (s.stack.getD i default)).fin.pad < (Zcl m (s.stack.getD i default)).blocks.length) :
    HG Tryz.prog LC 196 (memE (cL w) m s) [.rs jF 5 0 s.stack.length, .fn 160 [.bp c1 0, .bp c2 0]] (iv (idxP (Zbx m s.stack w false) s.stack.length)) (memE (cL w) m s) := by
  refine Za6 tok Tryz.func196 rfl (by decide +kernel) (Nat.le_of_ble_eq_true rfl) ?_
  have hmx : maxL = 4294967296 := rfl
  have hC : ∀ k (hk : k < s.stack.length) T, Zbc s.stack k = .rs T 1 0 (s.stack.getD k default).regs.length → HG Tryz.prog LC 160 (memE (cL w) m s) [.agg [iv (s.stack.getD k default).f, iv (s.stack.getD k default).block, iv (s.stack.getD k default).at_, .rs T 1 0 (s.stack.getD k default).regs.length, .int .u16 (s.stack.getD k default).fly], .bp c1 0, .bp c2 0] (.bool (Zbx m s.stack w false k)) (memE (cL w) m s) := fun k hk T e => by
    have := c_mThr1 m s w k hk h32 (hF k hk) (hp k hk)
    unfold frC at this
    rw [e] at this; exact this
  (repeat' first | refine Zac ?_ | (refine Zab tok (by rfl) ?_; conv => whnf) | refine Zai ?_)
  refine Zay (fun i : Nat => mkF [(0, .rs jF 5 0 s.stack.length), (1, .fn 160 [.bp c1 0, .bp c2 0]), (7, iv s.stack.length), (8, iv i)] (cL w ++ memL m s) (famW s.stack)) (fun i => i ≤ s.stack.length ∧ ∀ j, j < i → Zbx m s.stack w false j = false) (fun i => s.stack.length - i) 0 ⟨Nat.zero_le _, fun j h => absurd h (Nat.not_lt_zero j)⟩ ?_ ?_
  · exact weakC (.cons (.rs rfl rfl rfl rfl) (.cons (.fn (.cons (.bp rfl rfl) (.cons (.bp rfl rfl) .nil))) (.cons (.imm rfl) (.cons (.imm rfl) .nil)))) rfl rfl rfl rfl rfl rfl (fun q hq => Za2 hq)
  rintro i ⟨hi, hno⟩
  have hz : 0 + (i : Int).toNat = i := by simp
  (repeat' ((fail_if_success (show AWp _ _ _ (Code.region 3 _ _) _ _)); (fail_if_success (show AWp _ _ _ (Code.region 7 _ _) _ _)); first | refine Zac ?_ | (refine Zab tok (by rfl) ?_; conv => whnf) | refine Zai ?_ | (refine Zag ?_; conv => whnf) | (refine Za1 ?_; conv => whnf) | refine Zaf rfl (fun hb => ?_) (fun hb => ?_)))
  · have hlt : i < s.stack.length := by simp only [decide_eq_true_eq] at hb; omega
    clear hb
    have hkl : 0 + (i : Int).toNat < s.stack.length := by omega
    by_cases hq : 0 + (i : Int).toNat < s.stack.length - 1
    all_goals ((repeat' first | refine Zac ?_ | (refine Zab tok (by rfl) ?_; conv => whnf) | (refine @And.intro (Zaa _ _ _ _) _ ?_ ?_; rotate_left; (conv => whnf); rotate_right)); all_goals (try ((guard_target = Zaa _ _ _ _); refine Zae ?_; (all_goals (try simp only [Zaa, kzz, kz11, kz12, maxL, Zad] at *)); all_goals omega)))
    · refine fAV (x := Zbc s.stack (0 + (i : Int).toNat)) (y := .rs (945, 0, 0 + (i : Int).toNat) 1 0 (s.stack.getD (0 + (i : Int).toNat) default).regs.length) (Zcx hq) ?_
      conv => whnf
      skip
      refine .inr ⟨_, _, _, uG (QH.tnE (.head _) (.tail _ (.head _)) rfl rfl rfl rfl (fun _ => rfl) cL_closed cL_pin (hC _ hkl _ (Zcx hq)) h32 (memE_sub (fun j b e => ?_) rfl rfl rfl rfl (fun _ => rfl)) ?_ (fun q hq => hq)), ?_⟩
      · rcases cL_some e with ⟨rfl, rfl⟩ | ⟨rfl, rfl⟩ <;> rfl
      · show [AV.agg [_, _, _, match kpH (memE (cL w) m s) (945, 0, 0 + (i : Int).toNat) with | some j => AV.rs j 1 0 _ | none => .any, _], _, _] = _
        rw [kpH_is (by rw [Zez rfl, Zdu, Za2 hq]; rfl)]; rfl
      conv => whnf
      (repeat' first | refine Zac ?_ | (refine Zab tok (by rfl) ?_; conv => whnf) | (refine Zag ?_; conv => whnf) | (refine Zaj ?_; conv => whnf) | refine Zaf rfl (fun hb => ?_) (fun hb => ?_))
      · refine ⟨_, srcL [], rfl, ?_⟩
        rw [← and_assoc]
        refine ⟨leaveC rfl rfl rfl (Zcc rfl rfl rfl) rfl rfl rfl (fun q hq => Zf0 hq), GV.int ?_, LC_keep⟩
        exact (idxP_at hlt (by rw [← hz]; exact hb) hno).symm
      · refine ⟨i + 1, ⟨by omega, fun j hj => ?_⟩, by omega, weakC (.cons (.rs rfl rfl rfl rfl) (.cons (.fn (.cons (.bp rfl rfl) (.cons (.bp rfl rfl) .nil))) (.cons (.imm rfl) (.cons (.int ?_) .nil)))) rfl rfl rfl rfl rfl rfl (fun q hq => Zf0 hq)⟩
        · by_cases e : j = i
          · subst e; rw [← hz]; simpa using hb
          · exact hno j (by omega)
        · rw [Zal (by omega) (by omega)]; omega
    · refine fAV (x := Zbc s.stack (0 + (i : Int).toNat)) (y := .rs jT 1 0 (s.stack.getD (0 + (i : Int).toNat) default).regs.length) (Zdk (by omega)) ?_
      conv => whnf
      skip
      refine .inr ⟨_, _, _, uG (QH.tnE (.head _) (.tail _ (.head _)) rfl rfl rfl rfl (fun _ => rfl) cL_closed cL_pin (hC _ hkl _ (Zdk (by omega))) h32 (memE_sub (fun j b e => ?_) rfl rfl rfl rfl (fun _ => rfl)) ?_ (fun q hq => hq)), ?_⟩
      · rcases cL_some e with ⟨rfl, rfl⟩ | ⟨rfl, rfl⟩ <;> rfl
      · show [AV.agg [_, _, _, match kpH (memE (cL w) m s) jT with | some j => AV.rs j 1 0 _ | none => .any, _], _, _] = _
        rw [kpH_is rfl]; rfl
      conv => whnf
      (repeat' first | refine Zac ?_ | (refine Zab tok (by rfl) ?_; conv => whnf) | (refine Zag ?_; conv => whnf) | (refine Zaj ?_; conv => whnf) | refine Zaf rfl (fun hb => ?_) (fun hb => ?_))
      · refine ⟨_, srcL [], rfl, ?_⟩
        rw [← and_assoc]
        refine ⟨leaveC rfl rfl rfl (Zcc rfl rfl rfl) rfl rfl rfl (fun q hq => Zf0 hq), GV.int ?_, LC_keep⟩
        exact (idxP_at hlt (by rw [← hz]; exact hb) hno).symm
      · refine ⟨i + 1, ⟨by omega, fun j hj => ?_⟩, by omega, weakC (.cons (.rs rfl rfl rfl rfl) (.cons (.fn (.cons (.bp rfl rfl) (.cons (.bp rfl rfl) .nil))) (.cons (.imm rfl) (.cons (.int ?_) .nil)))) rfl rfl rfl rfl rfl rfl (fun q hq => Zf0 hq)⟩
        · by_cases e : j = i
          · subst e; rw [← hz]; simpa using hb
          · exact hno j (by omega)
        · rw [Zal (by omega) (by omega)]; omega
  · have hge : ¬ i < s.stack.length := by simp only [decide_eq_false_iff_not] at hb; omega
    (repeat' first | (refine Zab tok (by rfl) ?_; conv => whnf) | (refine Zaj ?_; conv => whnf))
    refine ⟨_, srcL [], rfl, ?_⟩
    rw [← and_assoc]
    refine ⟨leaveC rfl rfl rfl (Zcc rfl rfl rfl) rfl rfl rfl (fun q hq => Za2 hq), GV.int ?_, LC_keep⟩
    rw [idxP_none (fun j hj => hno j (by omega))]
theorem c_ContainsFr (m : Zak) (s : Mach) (w : Int) (h32 : s.stack.length ≤ 32) (hF : ∀ i, i < s.stack.length → OkF m (s.stack.getD i default)) (hp : ∀ i, i < s.stack.length → (Zau m (s.stack.getD i default)).fin.kind = 4 → 0 ≤ (Zau m (s.stack.getD i default)).fin.pad ∧ (Zau m (s.stack.getD i default)).fin.pad < (Zcl m (s.stack.getD i default)).blocks.length) :
    HG Tryz.prog LC 159 (memE (cL w) m s) [.rs jF 5 0 s.stack.length, .fn 160 [.bp c1 0, .bp c2 0]] (.bool ((List.range s.stack.length).any (Zbx m s.stack w false))) (memE (cL w) m s) := by
  refine Za6 tok Tryz.func159 rfl (by decide +kernel) (Nat.le_of_ble_eq_true rfl) ?_
  have hI := c_IndexFr m s w h32 hF hp
  (repeat' first | refine Zac ?_ | (refine Zab tok (by rfl) ?_; conv => whnf))
  refine .inr ⟨_, _, _, uG (QH.tnE (.head _) (.tail _ (.head _)) rfl rfl rfl rfl (fun _ => rfl) cL_closed cL_pin hI h32 (fun j b e => e) rfl (fun q hq => hq)), ?_⟩
  conv => whnf
  (repeat' (refine Zaj ?_; conv => whnf))
  refine ⟨_, srcL [], rfl, ?_⟩
  rw [← and_assoc]
  exact ⟨leaveC rfl rfl rfl (Zcc rfl rfl rfl) rfl rfl rfl (fun q hq => Zf0 hq), GV.bool idxP_any, LC_keep⟩
end Go.Proofs.YtoelbgjpmpoolaaGreat
namespace Go.Proofs.YtoelbgjpmpoolaaGreat
open Go Dv
set_option maxRecDepth 10000
set_option linter.unusedSimpArgs false
theorem weakCW {n : Nat} {tl : List (Nat × AV)} {m : Zak} {s : Mach} {w : Int} {σ : ASt} (ht : TLg (srcL []) σ.h (orH (Zaz (cL w ++ memL m s)) (famW s.stack)) σ.tm tl) (k1 : σ.h c1 = some c1B) (k2 : σ.h c2 = some (c2B w)) (h1 : σ.h jB = some (macB m s)) (h2 : σ.h jF = some (Zc2 s.stack)) (h3 : σ.h jE = some (evB s.events)) (h4 : σ.h jT = some (regB (topF s).regs)) (h5 : ∀ q, q < s.stack.length - 1 → σ.h (945, 0, q) = some (regB (s.stack.getD q default).regs)) :
    Weak n LW σ (mkF tl (cL w ++ memL m s) (famW s.stack)) := by
  refine Weak.fam [] rfl (fun c hc => by cases hc) ht ?_ ?_ LW_keepL
  · refine .old rfl k1 (GB.one (.cons (.bp rfl rfl) .nil) (fun e => by cases e)) (.old rfl k2 (GB.one (.cons (.imm rfl) .nil) (fun _ => rfl)) ?_)
    exact Zci rfl rfl rfl rfl (fun _ => rfl) h1 h2 h3 h4 rfl rfl rfl (fun q hq => Zcm hq)
  · exact Zft (fun _ _ => rfl) h5
theorem lendOne {l : List Int} : ∀ j b, oneR l j = some b → j = r0 ∧ b = regB l := fun j b e => by
  have := Zc3 (i := j) (by rw [e]; rfl)
  subst this
  exact ⟨rfl, (Option.some.inj e).symm⟩
theorem LW_keepS {tl : List (Dv.Id × Zam)} {F : Zan} {S : List (Dv.Id × Option Dv.Id)} (hB : (orH (Zaz tl) F jB).isSome = true ∧ srcL S jB = some jB := by exact ⟨rfl, rfl⟩) (hF : (orH (Zaz tl) F jF).isSome = true ∧ srcL S jF = some jF := by exact ⟨rfl, rfl⟩) : ∀ i ∈ LW, Zeb i = true → (orH (Zaz tl) F i).isSome = true ∧ srcL S i = some i := fun i hi _ => by
  rcases List.mem_cons.1 hi with rfl | hi
  · exact hB
  · rw [List.mem_singleton.1 hi]; exact hF
set_option maxHeartbeats 4000000 in
theorem c_mThr (m : Zak) (s : Mach) (w : Int) (hr : Zbg m = true) (h : 0 < s.stack.length) (h32 : s.stack.length ≤ 32) (hF : ∀ i, i < s.stack.length → OkF m (s.stack.getD i default)) :
    HG Tryz.prog LW 117 (mem m s) [.bp jB 0, .int .u16 w] (.tup []) (mem m (Zbz m s w)) := by
  refine Za6 tok Tryz.func117 rfl (by decide +kernel) (Nat.le_of_ble_eq_true rfl) ?_
  have hmx : maxL = 4294967296 := rfl
  have hpl := Zcz (s := s)
  have hgen : ∃ p, popM s = p := ⟨_, rfl⟩
  obtain ⟨p, hp⟩ := hgen
  have hP := c_mPop m s h (by omega)
  have hF2 : ∀ i, i < p.stack.length → OkF m (p.stack.getD i default) := fun i hi => by
    rw [← hp] at hi ⊢
    rw [show (popM s).stack.getD i default = s.stack.getD i default from Zbw _ (by omega)]
    exact hF i (by omega)
  have hpp : ∀ i, i < p.stack.length → (Zau m (p.stack.getD i default)).fin.kind = 4 → 0 ≤ (Zau m (p.stack.getD i default)).fin.pad ∧ (Zau m (p.stack.getD i default)).fin.pad < (Zcl m (p.stack.getD i default)).blocks.length := fun i hi hk => (okF_pad hr (hF2 i hi) hk).1
  have hT0 : Zbz m s w = if (List.range p.stack.length).any (Zbx m p.stack w false) = true then
      Zbu (Zeo p (Zfx (Zbx m p.stack w true) (p.stack.length - 1) + 1)) (landF m (p.stack.getD (Zfx (Zbx m p.stack w true) (p.stack.length - 1)) default) (Zau m (p.stack.getD (Zfx (Zbx m p.stack w true) (p.stack.length - 1)) default)).fin.pad w)
      else endM p 2 w := by rw [← hp]; rfl
  rw [hp] at hP hpl
  have hC := c_ContainsFr m p w (by omega) hF2 hpp
  rw [hT0]
  (repeat' ((fail_if_success (show AWp _ _ _ (Code.region 1 _ _) _ _)); first | refine Zac ?_ | (refine Zab tok (by rfl) ?_; conv => whnf)))
  refine Za0 (Weak.fam (L := LW) (tl := [(2, .bp c1 0), (3, .bp c2 0)]) (hl := cL w ++ memL m s) (F := famW s.stack) [(c1, some (2, 0, 0)), (c2, some (3, 0, 0))] rfl (fun c hc => ?_) ?_ ?_ ?_ LW_keepS) ?_
  · rcases List.mem_cons.1 (show c ∈ [(2, 0, 0), (3, 0, 0)] from hc) with rfl | hc
    · exact .inl rfl
    · rw [List.mem_singleton.1 hc]; exact .inl rfl
  · exact .cons (.bp rfl rfl) (.cons (.bp rfl rfl) .nil)
  · refine .old rfl rfl (GB.one (.cons (.bp rfl rfl) .nil) (fun e => by cases e)) (.old rfl rfl (GB.one (.cons (.imm rfl) .nil) (fun _ => rfl)) ?_)
    exact Zci rfl rfl rfl rfl (fun _ => rfl) rfl rfl rfl rfl rfl rfl rfl (fun q hq => Zcm hq)
  · exact Zft (fun _ _ => rfl) (fun q hq => Za2 hq)
  (repeat' (refine Zab tok (by rfl) ?_; conv => whnf))
  refine .inr ⟨_, _, _, uG (QH.tnM (by simp) (by simp) hP (by omega) (Zax rfl rfl rfl rfl (fun _ => rfl)) rfl (fun q hq => Zao hq)), ?_⟩
  conv => whnf
  (repeat' ((fail_if_success (show AWp _ _ _ (Code.region 2 _ _) _ _)); refine Zac ?_))
  refine Za0 (weakCW (tl := [(2, .bp c1 0), (3, .bp c2 0)]) (.cons (.bp rfl rfl) (.cons (.bp rfl rfl) .nil)) rfl rfl rfl rfl rfl rfl (fun q hq => Za9 hq)) ?_
  (repeat' (refine Zab tok (by rfl) ?_; conv => whnf))
  refine .inr ⟨_, _, _, uG (QH.tnE (.head _) (.tail _ (.head _)) rfl rfl rfl rfl (fun _ => rfl) cL_closed cL_pin hC (by omega) (fun j b e => e) rfl (fun q hq => hq)), ?_⟩
  conv => whnf
  (repeat' ((fail_if_success (show AWp _ _ _ (Code.region 4 _ _) _ _)); (fail_if_success (show AWp _ _ _ (Code.region 5 _ _) _ _)); first | refine Zac ?_ | (refine Zab tok (by rfl) ?_; conv => whnf) | refine Zai ?_ | (refine Zag ?_; conv => whnf) | refine Zaf rfl (fun hb => ?_) (fun hb => ?_)))
  · have hn : ¬ (List.range p.stack.length).any (Zbx m p.stack w false) = true := by simpa using hb
    rw [if_neg hn]
    refine Za0 (weakCW (tl := [(2, .bp c1 0), (3, .bp c2 0)]) (.cons (.bp rfl rfl) (.cons (.bp rfl rfl) .nil)) rfl rfl rfl rfl rfl rfl (fun q hq => Zf0 hq)) ?_
    (repeat' (refine Zab tok (by rfl) ?_; conv => whnf))
    refine .inr ⟨_, _, _, uG (QH.tnM (by simp) (by simp) (c_mEnd m p 2 w) (by omega) (Zax rfl rfl rfl rfl (fun q => rfl)) rfl (fun q hq => Zao hq)), ?_⟩
    conv => whnf
    (repeat' (refine Zaj ?_; conv => whnf))
    refine ⟨_, srcL [], rfl, ?_⟩
    rw [← and_assoc]
    exact ⟨Zdg (s := endM p 2 w) rfl rfl rfl (Zcc rfl rfl rfl) rfl rfl rfl (fun q hq => Za9 hq), .tup .nil, Zcs⟩
  have hany : (List.range p.stack.length).any (Zbx m p.stack w false) = true := by simpa using hb
  clear hb
  rw [if_pos hany]
  obtain ⟨i0, hi0, hci⟩ := List.any_eq_true.1 hany
  rw [List.mem_range] at hi0
  have hex : ∃ j, j ≤ p.stack.length - 1 ∧ Zbx m p.stack w true j = true := ⟨i0, by omega, catch_more hci⟩
  have hgen : ∃ K, Zfx (Zbx m p.stack w true) (p.stack.length - 1) = K := ⟨_, rfl⟩
  obtain ⟨K, hK⟩ := hgen
  obtain ⟨hK1, hK2⟩ := downK_spec hex
  rw [hK] at hK1 hK2 ⊢
  have hKl : K < p.stack.length := by omega
  have htl : ∀ n, n ≤ p.stack.length - 1 → (Zeo p (n + 1)).stack.length = n + 1 := fun n hn => by simp [Zeo]; omega
  have htk : ∀ n, n ≤ p.stack.length - 1 → (Zeo p (n + 1)).stack.getD n default = p.stack.getD n default := fun n hn => Zbw _ (by omega)
  have hfull : Zeo p (p.stack.length - 1 + 1) = p := by
    unfold Zeo
    rw [show p.stack.length - 1 + 1 = p.stack.length by omega, List.take_length]
  refine Zay (fun n : Nat => mkF [(2, .bp c1 0), (3, .bp c2 0)] (cL w ++ memL m (Zeo p (n + 1))) (famW (Zeo p (n + 1)).stack)) (fun n => n ≤ p.stack.length - 1 ∧ Zfx (Zbx m p.stack w true) n = K ∧ ∃ j, j ≤ n ∧ Zbx m p.stack w true j = true) (fun n => n) (p.stack.length - 1) ⟨Nat.le_refl _, hK, hex⟩ ?_ ?_
  · rw [hfull]
    exact weakCW (.cons (.bp rfl rfl) (.cons (.bp rfl rfl) .nil)) rfl rfl rfl rfl rfl rfl (fun q hq => Zf0 hq)
  rintro n ⟨hn1, hn2, hn3⟩
  have hgen : ∃ u, Zeo p (n + 1) = u := ⟨_, rfl⟩
  obtain ⟨u, hu⟩ := hgen
  have hul := htl n hn1
  have hut := htk n hn1
  rw [hu] at hul hut ⊢
  have hu1 : u.stack.length - 1 = n := by omega
  have hPd := c_mPad m u n (by omega) (by omega) (by rw [hut]; exact hF2 n (by omega)) (by rw [hut]; exact hpp n (by omega))
  rw [hut] at hPd
  have hTp := Zfb m u (by omega) (by omega)
  rw [hu1] at hTp
  (repeat' first | refine Zac ?_ | (refine Zab tok (by rfl) ?_; conv => whnf) | refine Zai ?_)
  refine .inr ⟨_, _, _, uG (QH.tnM (by simp) (by simp) hTp (by omega) (Zax rfl rfl rfl rfl (fun q => rfl)) rfl (fun q hq => Zao hq)), ?_⟩
  conv => whnf
  (repeat' first | refine Zac ?_ | (refine Zab tok (by rfl) ?_; conv => whnf))
  refine .inr ⟨_, _, _, uG (QH.tnM (by simp) (by simp) hPd (by omega) (Zax rfl rfl rfl rfl (fun q => Zbm (fun hq => Zao (by omega)))) rfl (fun q hq => (Zbm (fun hq => Zao (by omega))).trans (Zao hq))), ?_⟩
  conv => whnf
  (repeat' first | refine Zac ?_ | (refine Zab tok (by rfl) ?_; conv => whnf))
  refine .inl ⟨_, _, _, uG (QC.fc (c_fCatches (padV m (p.stack.getD n default)).2.1 w) rfl), ?_⟩
  conv => whnf
  (repeat' ((fail_if_success (show AWp _ _ _ (Code.region 8 _ _) _ _)); (fail_if_success (show AWp _ _ _ (Code.region 9 _ _) _ _)); first | refine Zac ?_ | (refine Zag ?_; conv => whnf) | refine Zaf rfl (fun hb => ?_) (fun hb => ?_)))
  · have hyes : Zbx m p.stack w true n = true := by
      show Ze0 m (p.stack.getD n default) w true = true
      rw [← padV_catch2]
      simpa using hb
    clear hb
    have hnK : n = K := by rw [← hn2, downK_yes hyes]
    subst hnK
    rw [hu]
    have htop : topF u = p.stack.getD n default := by unfold topF; rw [hu1]; exact hut
    have hk4 : (Zau m (p.stack.getD n default)).fin.kind = 4 := by
      unfold Zbx Ze0 at hyes
      simp only [Bool.and_eq_true, decide_eq_true_eq] at hyes
      exact hyes.2.1
    have hkE : endB m (p.stack.getD n default) = true := by
      unfold Zbx Ze0 at hyes
      simp only [Bool.and_eq_true, decide_eq_true_eq] at hyes
      exact hyes.1
    have hpv : (padV m (p.stack.getD n default)).1 = (Zau m (p.stack.getD n default)).fin.pad := by
      unfold padV; rw [if_pos ⟨hkE, hk4⟩]
    obtain ⟨⟨g1, g2⟩, g3, g4, g5⟩ := okF_pad hr (hF2 n hKl) hk4
    have hL := c_fLand m (p.stack.getD n default) (Zau m (p.stack.getD n default)).fin.pad w hr (hF2 n hKl) g1 g2 g3 ⟨g4, g5⟩
    rw [← hpv, ← htop] at hL ⊢
    have hgen : ∃ k, (padV m (topF u)).1 = k := ⟨_, rfl⟩
    obtain ⟨k, hk⟩ := hgen
    rw [hk] at hL ⊢
    have hgen : ∃ g, landF m (topF u) k w = g := ⟨_, rfl⟩
    obtain ⟨g, hg⟩ := hgen
    rw [hg] at hL ⊢
    have hle : n < u.stack.length := by omega
    have hrt : Zbc u.stack n = .rs jT 1 0 (topF u).regs.length := Zbb (by omega) hu1.symm
    have hut2 : u.stack.getD n default = topF u := by rw [htop]; exact hut
    refine Za0 (weakCW (tl := [(2, .bp c1 0), (3, .bp c2 0), (5, .rp jF 5 n 0), (6, iv k)]) (.cons (.bp rfl rfl) (.cons (.bp rfl rfl) (.cons (.rp rfl rfl rfl) (.cons (.int (by rw [← hk, htop])) .nil)))) rfl rfl rfl rfl rfl rfl (fun q hq => Za9 hq)) ?_
    refine Zel tok mix (by rfl) [0, 1, 2, 3, 4, 5, 6, 8, 9, 14] 30 (by rfl) (by rfl) (by rfl) ?_
    conv => whnf
    (repeat' first
      | (refine fAV (x := Zbc u.stack n) (y := .rs jT 1 0 (topF u).regs.length) hrt ?_; (conv => whnf))
      | (refine @And.intro (Zaa _ _ _ _) _ ?_ ?_; rotate_left; (conv => whnf); rotate_right)
      | (guard_target = And _ _; refine @And.intro (gOp _ _ _ _ _ _ _ _ _) _ (by (conv => whnf); first | exact ⟨rfl, rfl⟩ | (refine fAV (x := Zbc u.stack n) (y := .rs jT 1 0 (topF u).regs.length) hrt ?_; (conv => whnf); exact ⟨rfl, rfl⟩)) ?_; conv => whnf)
      | (guard_target = And _ _; refine And.intro ?_ ?_ <;> (conv => whnf)))
    all_goals (try ((guard_target = Zaa _ _ _ _); refine Zae ?_; (all_goals (try simp only [Zaa, kzz, kz11, kz12, maxL, Zad] at *)); all_goals omega))
    all_goals (try (show AV.agg [_, _, _, Zbc u.stack n, _] = AV.agg [_, _, _, .rs jT 1 0 (topF u).regs.length, _]; rw [hrt]; done))
    have hut3 : (u.stack.getD n default) = (u.stack.getD (u.stack.length - 1) default) := by rw [hu1]
    have hL' : HF Tryz.prog 163 [.agg (Zbj m), .agg (Zbp (u.stack.getD n default)), iv k, .int .u16 w] (.tup [.agg (frO g (.rs r0 1 0 g.regs.length)), iv 0]) (oneR g.regs) := by rw [hut2]; exact hL
    refine .inr ⟨_, _, _, uG (QH.lendF (rd := [jT]) hL' (.cons (.imm rfl) (.cons (.agg (.cons (.imm rfl) (.cons (.imm rfl) (.cons (.imm rfl) (.cons (.row rfl (.head _) rfl (by rw [hut2]) (fun q hq => by rw [hut2])) (.cons (.imm rfl) .nil)))))) (.cons (.imm rfl) (.cons (.imm rfl) .nil)))) (fun i hi => by rw [Zc3 hi]; rfl) rfl (fun j b e => by
      obtain ⟨rfl, rfl⟩ := lendOne j b e
      exact fun i hi => rfl)), ?_⟩
    conv => whnf
    (repeat' first
      | (refine fAV (x := Zbc u.stack n) (y := .rs jT 1 0 (topF u).regs.length) hrt ?_; (conv => whnf))
      | (refine @And.intro (Zaa _ _ _ _) _ ?_ ?_; rotate_left; (conv => whnf); rotate_right)
      | (guard_target = And _ _; refine @And.intro (gOp _ _ _ _ _ _ _ _ _) _ (by (conv => whnf); first | exact ⟨rfl, rfl⟩ | (refine fAV (x := Zbc u.stack n) (y := .rs jT 1 0 (topF u).regs.length) hrt ?_; (conv => whnf); exact ⟨rfl, rfl⟩)) ?_; conv => whnf)
      | (guard_target = And _ _; refine And.intro ?_ ?_ <;> (conv => whnf)))
    all_goals (try ((guard_target = Zaa _ _ _ _); refine Zae ?_; (all_goals (try simp only [Zaa, kzz, kz11, kz12, maxL, Zad] at *)); all_goals omega))
    all_goals (try (show AV.agg [_, _, _, Zbc u.stack n, _] = AV.agg [_, _, _, .rs jT 1 0 (topF u).regs.length, _]; rw [hrt]; done))
    all_goals
      (repeat' (refine Zaj ?_; conv => whnf))
      refine ⟨_, srcT jE r0, rfl, ?_⟩
      rw [← and_assoc]
      refine ⟨leaveG (s := u) (g := g) (n' := u.stack.length) (by omega) rfl rfl (.inr (.inl rfl)) (.inl rfl) rfl ?_ rfl (Nat.le_refl _) (fun q hq => ?_) ?_ rfl (Zd7 _) rfl (Zbs _) (fun q hq => ?_), .tup .nil, keepT⟩
      · exact Zd6 (s := Zbu u g) (Zc5 (s := u) (by omega)).symm rfl rfl rfl rfl
      · exact Zcv (by omega)
      · rw [hu1]; exact Zdi
      · refine Zev (d := []) (u := oneR g.regs) rfl rfl ?_
        exact Za2 hq
  · have hno : ¬ Zbx m p.stack w true n = true := by
      show ¬ Ze0 m (p.stack.getD n default) w true = true
      rw [← padV_catch2]
      simpa using hb
    clear hb
    obtain ⟨e1, e2⟩ := downK_no hn3 hno
    have hPu := c_mPop m u (by omega) (by omega)
    have hpu : popM u = Zeo p (n - 1 + 1) := by
      rw [← hu]
      unfold popM Zeo
      simp only [List.length_take, List.take_take]
      congr 2
      omega
    rw [hpu] at hPu
    refine Za0 (weakCW (tl := [(2, .bp c1 0), (3, .bp c2 0)]) (.cons (.bp rfl rfl) (.cons (.bp rfl rfl) .nil)) rfl rfl rfl rfl rfl rfl (fun q hq => Za9 hq)) ?_
    (repeat' (refine Zab tok (by rfl) ?_; conv => whnf))
    refine .inr ⟨_, _, _, uG (QH.tnM (by simp) (by simp) hPu (by omega) (Zax rfl rfl rfl rfl (fun q => rfl)) rfl (fun q hq => Zao hq)), ?_⟩
    conv => whnf
    skip
    refine ⟨n - 1, ⟨by omega, by rw [← e2]; exact hn2, ?_⟩, by omega, weakCW (.cons (.bp rfl rfl) (.cons (.bp rfl rfl) .nil)) rfl rfl rfl rfl rfl rfl (fun q hq => Za9 hq)⟩
    obtain ⟨j, j1, j2⟩ := hn3
    refine ⟨j, ?_, j2⟩
    rcases Nat.lt_or_ge j n with h3 | h3
    · omega
    · have : j = n := by omega
      subst this; exact absurd j2 hno
end Go.Proofs.YtoelbgjpmpoolaaGreat
namespace Go.Proofs.YtoelbgjpmpoolaaGreat
open Go Dv
set_option maxRecDepth 10000
set_option linter.unusedSimpArgs false
theorem weakW {n : Nat} {tl : List (Nat × AV)} {el : List (Dv.Id × Zam)} {m : Zak} {s : Mach} {σ : ASt} {L : List Dv.Id} (ht : TLg (srcL []) σ.h (orH (Zaz (el ++ memL m s)) (famW s.stack)) σ.tm tl) (he : HLs (srcL []) σ.h (orH (Zaz (el ++ memL m s)) (famW s.stack)) (el ++ memL m s)) (h5 : ∀ q, q < s.stack.length - 1 → σ.h (945, 0, q) = some (regB (s.stack.getD q default).regs))
    (hL : ∀ i ∈ L, Zeb i = true → (orH (Zaz (el ++ memL m s)) (famW s.stack) i).isSome = true ∧ srcL [] i = some i) : Weak n L σ (mkF tl (el ++ memL m s) (famW s.stack)) := by
  exact Weak.fam [] rfl (fun c hc => by cases hc) ht he (Zft (fun _ _ => rfl) h5) hL
set_option maxHeartbeats 4000000 in
theorem c_mStepT (m : Zak) (s s1 : Mach) (f : Zaw) (hf : topF s = f) (h : 0 < s.stack.length) (h32 : s.stack.length ≤ 32) (hF : OkF m f) (he : endB m f = false) (hl : s1.stack.length = s.stack.length) (hat0 : 0 ≤ (topF s1).at_) (hat : (topF s1).at_ < 1000000)
    (hI : HG Tryz.prog LW 113 (mem m s) [.bp jB 0, .rp jF 5 (s.stack.length - 1) 0, .agg (Zbf ((Zau m f).ins.getD f.at_.toNat default))] (.bool true) (mem m s1)) :
    HG Tryz.prog [jB] 64 (mem m s) [.bp jB 0] (.tup []) (mem m (Zbu s1 (goOn (topF s1)))) := by
  refine Za6 tok Tryz.func64 rfl (by decide +kernel) (Nat.le_of_ble_eq_true rfl) ?_
  have hmx : maxL = 4294967296 := rfl
  have hft : s.stack.getD (s.stack.length - 1) default = f := hf
  have hT := Zfb m s h (by omega)
  have hB := Zda m s (s.stack.length - 1) (by omega) (by rw [hft]; exact hF)
  rw [hft] at hB
  have hE : ¬ f.at_ = (Zau m f).ins.length := fun e => by
    have : endB m f = true := decide_eq_true e
    rw [he] at this; cases this
  have hgen : ∃ b, Zau m f = b := ⟨_, rfl⟩
  obtain ⟨b, hbe⟩ := hgen
  have a0 := hF.a0
  have a1 := hF.a1
  rw [hbe] at hB hE a1 hI
  (repeat' ((fail_if_success (show AWp _ _ _ (Code.region 0 _ _) _ _)); refine Zac ?_))
  (repeat' (refine Zab tok (by rfl) ?_; conv => whnf))
  refine .inr ⟨_, _, _, uG (QH.tnM (by simp) (by simp) hT h32 (Zax rfl rfl rfl rfl (fun _ => rfl)) rfl (fun q hq => Zao hq)), ?_⟩
  conv => whnf
  (repeat' ((fail_if_success (show AWp _ _ _ (Code.region 1 _ _) _ _)); refine Zac ?_))
  (repeat' (refine Zab tok (by rfl) ?_; conv => whnf))
  refine .inr ⟨_, _, _, uG (QH.tnM (by simp) (by simp) hB h32 (Zax rfl rfl rfl rfl (fun _ => Zbm (fun hq => Zao (by omega)))) rfl (fun q hq => (Zbm (fun hq => Zao (by omega))).trans (Zao hq))), ?_⟩
  conv => whnf
  ((repeat' ((fail_if_success (show AWp _ _ _ (Code.region 3 _ _) _ _)); (fail_if_success (show AWp _ _ _ (Code.region 5 _ _) _ _)); first | refine Zac ?_ | (refine Zap tok mix (by rfl) ?_; conv => whnf) | (refine Zag ?_; conv => whnf) | refine Zaf rfl (fun hb => ?_) (fun hb => ?_) | (refine @And.intro (Zaa _ _ _ _) _ ?_ ?_; rotate_left; (conv => whnf); rotate_right))); all_goals (try ((guard_target = Zaa _ _ _ _); refine Zae ?_; (all_goals (try simp only [Zaa, kzz, kz11, kz12, maxL, Zad] at *)); all_goals omega)))
  · clear hb
    refine Za0 (weakW (m := m) (s := s) (L := [jB]) (tl := [(0, .bp jB 0), (2, .rp jF 5 (s.stack.length - 1) 0), (3, .bp (3, 0, 0) 0)]) (el := [((3, 0, 0), Zba (Zbl b))]) ?_ ?_ (fun q hq => Za9 hq) (fun i hi _ => by rw [List.mem_singleton.1 hi]; exact ⟨rfl, rfl⟩)) ?_
    · exact .cons (.bp rfl rfl) (.cons (.rp rfl rfl rfl) (.cons (.bp rfl rfl) .nil))
    · exact .old rfl rfl (GB.one (GVs.imm rfl) (fun _ => rfl)) (Zci rfl rfl rfl rfl (fun _ => rfl) rfl rfl rfl rfl rfl rfl rfl (fun q hq => Zcm hq))
    have hle : s.stack.length - 1 < s.stack.length := by omega
    have hat1 : (s.stack.getD (s.stack.length - 1) default).at_.toNat < b.ins.length := by rw [hft]; omega
    have hat0' : 0 ≤ (s.stack.getD (s.stack.length - 1) default).at_ := by rw [hft]; omega
    have hI' : HG Tryz.prog LW 113 (mem m s) [.bp jB 0, .rp jF 5 (s.stack.length - 1) 0, .agg (Zbf (b.ins.getD (s.stack.getD (s.stack.length - 1) default).at_.toNat default))] (.bool true) (mem m s1) := by rw [hft]; exact hI
    have hle1 : s.stack.length - 1 < s1.stack.length := by omega
    have htp : s1.stack.getD (s.stack.length - 1) default = topF s1 := by rw [← hl]; rfl
    have hatt : 0 ≤ (s1.stack.getD (s.stack.length - 1) default).at_ ∧ (s1.stack.getD (s.stack.length - 1) default).at_ < 1000000 := by rw [htp]; exact ⟨hat0, hat⟩
    ((repeat' first | (refine Zap tok mix (by rfl) ?_; conv => whnf) | (refine @And.intro (Zaa _ _ _ _) _ ?_ ?_; rotate_left; (conv => whnf); rotate_right)); all_goals (try ((guard_target = Zaa _ _ _ _); refine Zae ?_; (all_goals (try simp only [Zaa, kzz, kz11, kz12, maxL, Zad] at *)); all_goals omega)))
    refine .inr ⟨_, _, _, uG (QH.tnM (by simp) (by simp) hI' h32 (Zax rfl rfl rfl rfl (fun _ => rfl)) rfl (fun q hq => Zao hq)), ?_⟩
    conv => whnf
    (repeat' ((fail_if_success (show AWp _ _ _ (Code.region 4 _ _) _ _)); first | (refine Zag ?_; conv => whnf) | (refine Zaj ?_; conv => whnf) | refine Zaf rfl (fun hb => ?_) (fun hb => ?_)))
    all_goals (try (exfalso; cases hb; done))
    clear hb
    ((repeat' first | (refine Zab tok (by rfl) ?_; conv => whnf) | (refine @And.intro (Zaa _ _ _ _) _ ?_ ?_; rotate_left; (conv => whnf); rotate_right)); all_goals (try ((guard_target = Zaa _ _ _ _); refine Zae ?_; (all_goals (try simp only [Zaa, kzz, kz11, kz12, maxL, Zad] at *)); all_goals omega)))
    refine fAV (x := Zbc s1.stack (s.stack.length - 1)) (y := .rs jT 1 0 (topF s1).regs.length) (Zbb (by omega) (by rw [hl])) ?_
    conv => whnf
    (repeat' (refine Zaj ?_; conv => whnf))
    refine ⟨_, srcT jE jT, rfl, ?_⟩
    rw [← and_assoc]
    refine ⟨leaveG (s := s1) (g := goOn (topF s1)) (n' := s1.stack.length) (by omega) rfl rfl (.inr (.inl rfl)) (.inr (.inr rfl)) rfl ?_ rfl (Nat.le_refl _) (fun q hq => ?_) ?_ rfl (Zd7 _) rfl (Zbs _) (fun q hq => Za9 (s := s1) hq), .tup .nil, fun i hi hp => keepT i (by rw [List.mem_singleton.1 hi]; exact .head _) hp⟩
    · exact Zd6 (s := Zbu s1 (goOn (topF s1))) (Zc5 (s := s1) (by omega)).symm rfl rfl rfl rfl
    · exact Zcv (by omega)
    · rw [hl]
      refine Zdi.trans ?_
      rw [htp, Zal (by omega) (by omega)]
      rfl
  · exfalso
    rw [hft] at hb
    simp only [decide_eq_false_iff_not] at hb
    omega
end Go.Proofs.YtoelbgjpmpoolaaGreat
namespace Go.Proofs.YtoelbgjpmpoolaaGreat
open Go Dv
set_option maxRecDepth 10000
set_option linter.unusedSimpArgs false
theorem renN' {m : Zak} {s s' : Mach} {f : FuncId} {args args' : List AV} {r : AV} (h : HG Tryz.prog [jB] f (mem m s) args r (mem m s')) (ha : GVs (srcL [(jF, some jN)]) (memN m s) (mem m s) args' args) : HG Tryz.prog [jB] f (memN m s) args' r (mem m s') := by
  refine h.ren (srcL [(jF, some jN)]) (Zex rfl (fun i hi => ?_)) (fun j b e => ?_) ha (fun i hi _ => by rw [List.mem_singleton.1 hi]; exact ⟨rfl, rfl⟩)
  · rw [List.mem_singleton.1 (show i ∈ [jN] from hi)]; exact .inl rfl
  · rcases Zb2 e with ⟨rfl, rfl⟩ | ⟨rfl, rfl⟩ | ⟨rfl, rfl⟩ | ⟨rfl, rfl⟩ | ⟨q, rfl, hq2, rfl⟩
    · exact HOk.mk rfl rfl (GB.one (cells22 rfl rfl rfl rfl) (fun e => by cases e))
    · exact HOk.mk rfl rfl (GB_fr (fun _ _ => rfl) rfl (fun q hq => by rw [Zdu, Za2 hq]; rfl) rfl)
    · exact HOk.mk rfl rfl (Zd7 _)
    · exact HOk.mk rfl rfl (Zbs _)
    · exact HOk.mk rfl (Za2 (l := s.stack) hq2) (Zbs _)
set_option maxHeartbeats 4000000 in
theorem c_mStepF (m : Zak) (s s1 : Mach) (f : Zaw) (hf : topF s = f) (h : 0 < s.stack.length) (h32 : s.stack.length ≤ 32) (hF : OkF m f) (he : endB m f = false)
    (hI : HG Tryz.prog LW 113 (mem m s) [.bp jB 0, .rp jF 5 (s.stack.length - 1) 0, .agg (Zbf ((Zau m f).ins.getD f.at_.toNat default))] (.bool false) (mem m s1)) :
    HG Tryz.prog [jB] 64 (mem m s) [.bp jB 0] (.tup []) (mem m s1) := by
  refine Za6 tok Tryz.func64 rfl (by decide +kernel) (Nat.le_of_ble_eq_true rfl) ?_
  have hmx : maxL = 4294967296 := rfl
  have hft : s.stack.getD (s.stack.length - 1) default = f := hf
  have hT := Zfb m s h (by omega)
  have hB := Zda m s (s.stack.length - 1) (by omega) (by rw [hft]; exact hF)
  rw [hft] at hB
  have hE : ¬ f.at_ = (Zau m f).ins.length := fun e => by
    have : endB m f = true := decide_eq_true e
    rw [he] at this; cases this
  have hgen : ∃ b, Zau m f = b := ⟨_, rfl⟩
  obtain ⟨b, hbe⟩ := hgen
  have a0 := hF.a0
  have a1 := hF.a1
  rw [hbe] at hB hE a1 hI
  (repeat' ((fail_if_success (show AWp _ _ _ (Code.region 0 _ _) _ _)); refine Zac ?_))
  (repeat' (refine Zab tok (by rfl) ?_; conv => whnf))
  refine .inr ⟨_, _, _, uG (QH.tnM (by simp) (by simp) hT h32 (Zax rfl rfl rfl rfl (fun _ => rfl)) rfl (fun q hq => Zao hq)), ?_⟩
  conv => whnf
  (repeat' ((fail_if_success (show AWp _ _ _ (Code.region 1 _ _) _ _)); refine Zac ?_))
  (repeat' (refine Zab tok (by rfl) ?_; conv => whnf))
  refine .inr ⟨_, _, _, uG (QH.tnM (by simp) (by simp) hB h32 (Zax rfl rfl rfl rfl (fun _ => Zbm (fun hq => Zao (by omega)))) rfl (fun q hq => (Zbm (fun hq => Zao (by omega))).trans (Zao hq))), ?_⟩
  conv => whnf
  ((repeat' ((fail_if_success (show AWp _ _ _ (Code.region 3 _ _) _ _)); (fail_if_success (show AWp _ _ _ (Code.region 5 _ _) _ _)); first | refine Zac ?_ | (refine Zap tok mix (by rfl) ?_; conv => whnf) | (refine Zag ?_; conv => whnf) | refine Zaf rfl (fun hb => ?_) (fun hb => ?_) | (refine @And.intro (Zaa _ _ _ _) _ ?_ ?_; rotate_left; (conv => whnf); rotate_right))); all_goals (try ((guard_target = Zaa _ _ _ _); refine Zae ?_; (all_goals (try simp only [Zaa, kzz, kz11, kz12, maxL, Zad] at *)); all_goals omega)))
  · clear hb
    refine Za0 (weakW (m := m) (s := s) (L := [jB]) (tl := [(0, .bp jB 0), (2, .rp jF 5 (s.stack.length - 1) 0), (3, .bp (3, 0, 0) 0)]) (el := [((3, 0, 0), Zba (Zbl b))]) ?_ ?_ (fun q hq => Za9 hq) (fun i hi _ => by rw [List.mem_singleton.1 hi]; exact ⟨rfl, rfl⟩)) ?_
    · exact .cons (.bp rfl rfl) (.cons (.rp rfl rfl rfl) (.cons (.bp rfl rfl) .nil))
    · exact .old rfl rfl (GB.one (GVs.imm rfl) (fun _ => rfl)) (Zci rfl rfl rfl rfl (fun _ => rfl) rfl rfl rfl rfl rfl rfl rfl (fun q hq => Zcm hq))
    have hle : s.stack.length - 1 < s.stack.length := by omega
    have hat1 : (s.stack.getD (s.stack.length - 1) default).at_.toNat < b.ins.length := by rw [hft]; omega
    have hat0' : 0 ≤ (s.stack.getD (s.stack.length - 1) default).at_ := by rw [hft]; omega
    have hI' : HG Tryz.prog LW 113 (mem m s) [.bp jB 0, .rp jF 5 (s.stack.length - 1) 0, .agg (Zbf (b.ins.getD (s.stack.getD (s.stack.length - 1) default).at_.toNat default))] (.bool false) (mem m s1) := by rw [hft]; exact hI
    ((repeat' first | (refine Zap tok mix (by rfl) ?_; conv => whnf) | (refine @And.intro (Zaa _ _ _ _) _ ?_ ?_; rotate_left; (conv => whnf); rotate_right)); all_goals (try ((guard_target = Zaa _ _ _ _); refine Zae ?_; (all_goals (try simp only [Zaa, kzz, kz11, kz12, maxL, Zad] at *)); all_goals omega)))
    refine .inr ⟨_, _, _, uG (QH.tnM (by simp) (by simp) hI' h32 (Zax rfl rfl rfl rfl (fun _ => rfl)) rfl (fun q hq => Zao hq)), ?_⟩
    conv => whnf
    (repeat' ((fail_if_success (show AWp _ _ _ (Code.region 4 _ _) _ _)); first | (refine Zag ?_; conv => whnf) | (refine Zaj ?_; conv => whnf) | refine Zaf rfl (fun hb => ?_) (fun hb => ?_)))
    all_goals (try (exfalso; cases hb; done))
    clear hb
    skip
    refine ⟨_, srcL [], rfl, ?_⟩
    rw [← and_assoc]
    exact ⟨Zdg (s := s1) rfl rfl rfl (Zcc rfl rfl rfl) rfl rfl rfl (fun q hq => Za9 hq), .tup .nil, fun i hi hp => Zcs i (by rw [List.mem_singleton.1 hi]; exact .head _) hp⟩
  · exfalso
    rw [hft] at hb
    simp only [decide_eq_false_iff_not] at hb
    omega
set_option maxHeartbeats 4000000 in
theorem c_mStepC (m : Zak) (s s1 : Mach) (f : Zaw) (hf : topF s = f) (h : 0 < s.stack.length) (h32 : s.stack.length ≤ 32) (hF : OkF m f) (he : endB m f = false)
    (hI : HG Tryz.prog [jB] 113 (mem m s) [.bp jB 0, .rp jF 5 (s.stack.length - 1) 0, .agg (Zbf ((Zau m f).ins.getD f.at_.toNat default))] (.bool false) (mem m s1)) :
    HG Tryz.prog [jB] 64 (mem m s) [.bp jB 0] (.tup []) (mem m s1) := by
  refine Za6 tok Tryz.func64 rfl (by decide +kernel) (Nat.le_of_ble_eq_true rfl) ?_
  have hmx : maxL = 4294967296 := rfl
  have hft : s.stack.getD (s.stack.length - 1) default = f := hf
  have hT := Zfb m s h (by omega)
  have hB := Zda m s (s.stack.length - 1) (by omega) (by rw [hft]; exact hF)
  rw [hft] at hB
  have hE : ¬ f.at_ = (Zau m f).ins.length := fun e => by
    have : endB m f = true := decide_eq_true e
    rw [he] at this; cases this
  have hgen : ∃ b, Zau m f = b := ⟨_, rfl⟩
  obtain ⟨b, hbe⟩ := hgen
  have a0 := hF.a0
  have a1 := hF.a1
  rw [hbe] at hB hE a1 hI
  (repeat' ((fail_if_success (show AWp _ _ _ (Code.region 0 _ _) _ _)); refine Zac ?_))
  (repeat' (refine Zab tok (by rfl) ?_; conv => whnf))
  refine .inr ⟨_, _, _, uG (QH.tnM (by simp) (by simp) hT h32 (Zax rfl rfl rfl rfl (fun _ => rfl)) rfl (fun q hq => Zao hq)), ?_⟩
  conv => whnf
  (repeat' ((fail_if_success (show AWp _ _ _ (Code.region 1 _ _) _ _)); refine Zac ?_))
  (repeat' (refine Zab tok (by rfl) ?_; conv => whnf))
  refine .inr ⟨_, _, _, uG (QH.tnM (by simp) (by simp) hB h32 (Zax rfl rfl rfl rfl (fun _ => Zbm (fun hq => Zao (by omega)))) rfl (fun q hq => (Zbm (fun hq => Zao (by omega))).trans (Zao hq))), ?_⟩
  conv => whnf
  ((repeat' ((fail_if_success (show AWp _ _ _ (Code.region 3 _ _) _ _)); (fail_if_success (show AWp _ _ _ (Code.region 5 _ _) _ _)); first | refine Zac ?_ | (refine Zap tok mix (by rfl) ?_; conv => whnf) | (refine Zag ?_; conv => whnf) | refine Zaf rfl (fun hb => ?_) (fun hb => ?_) | (refine @And.intro (Zaa _ _ _ _) _ ?_ ?_; rotate_left; (conv => whnf); rotate_right))); all_goals (try ((guard_target = Zaa _ _ _ _); refine Zae ?_; (all_goals (try simp only [Zaa, kzz, kz11, kz12, maxL, Zad] at *)); all_goals omega)))
  · clear hb
    refine Za0 (Weak.fam (L := [jB]) (tl := [(0, .bp jB 0), (2, .rp jN 5 (s.stack.length - 1) 0), (3, .bp (3, 0, 0) 0)]) (hl := [((3, 0, 0), Zba (Zbl b))] ++ memNL m s) (F := famW s.stack) [(jN, some jF)] rfl (fun c hc => ?_) ?_ ?_ ?_ (fun i hi _ => by rw [List.mem_singleton.1 hi]; exact ⟨rfl, rfl⟩)) ?_
    · rw [List.mem_singleton.1 (show c ∈ [jF] from hc)]; exact .inl rfl
    · exact .cons (.bp rfl rfl) (.cons (.rp rfl rfl rfl) (.cons (.bp rfl rfl) .nil))
    · refine .old rfl rfl (GB.one (GVs.imm rfl) (fun _ => rfl)) ?_
      exact HLs_memN rfl rfl rfl rfl (fun _ => rfl) rfl rfl rfl rfl rfl rfl rfl rfl (fun q hq => Zcm hq)
    · exact Zft (fun _ _ => rfl) (fun q hq => Za9 hq)
    have hle : s.stack.length - 1 < s.stack.length := by omega
    have hat1 : (s.stack.getD (s.stack.length - 1) default).at_.toNat < b.ins.length := by rw [hft]; omega
    have hat0' : 0 ≤ (s.stack.getD (s.stack.length - 1) default).at_ := by rw [hft]; omega
    have hI' : HG Tryz.prog [jB] 113 (memN m s) [.bp jB 0, .rp jN 5 (s.stack.length - 1) 0, .agg (Zbf (b.ins.getD (s.stack.getD (s.stack.length - 1) default).at_.toNat default))] (.bool false) (mem m s1) := by rw [hft]; exact renN' hI (.cons (.bp rfl rfl) (.cons (.rp rfl rfl rfl) (.cons (.imm rfl) .nil)))
    ((repeat' first | (refine Zap tok mix (by rfl) ?_; conv => whnf) | (refine @And.intro (Zaa _ _ _ _) _ ?_ ?_; rotate_left; (conv => whnf); rotate_right)); all_goals (try ((guard_target = Zaa _ _ _ _); refine Zae ?_; (all_goals (try simp only [Zaa, kzz, kz11, kz12, maxL, Zad] at *)); all_goals omega)))
    refine .inr ⟨_, _, _, uG (QH.ddM (by simp) hI' h32 (memN_sub rfl rfl rfl rfl (fun _ => rfl)) rfl rfl (fun q hq => Zao hq)), ?_⟩
    conv => whnf
    (repeat' ((fail_if_success (show AWp _ _ _ (Code.region 4 _ _) _ _)); first | (refine Zag ?_; conv => whnf) | (refine Zaj ?_; conv => whnf) | refine Zaf rfl (fun hb => ?_) (fun hb => ?_)))
    all_goals (try (exfalso; cases hb; done))
    clear hb
    skip
    refine ⟨_, srcL [], rfl, ?_⟩
    rw [← and_assoc]
    exact ⟨Zdg (s := s1) rfl rfl rfl (Zcc rfl rfl rfl) rfl rfl rfl (fun q hq => Za9 hq), .tup .nil, fun i hi hp => Zcs i (by rw [List.mem_singleton.1 hi]; exact .head _) hp⟩
  · exfalso
    rw [hft] at hb
    simp only [decide_eq_false_iff_not] at hb
    omega
end Go.Proofs.YtoelbgjpmpoolaaGreat
namespace Go.Proofs.YtoelbgjpmpoolaaGreat
open Go Dv
set_option maxRecDepth 10000
set_option linter.unusedSimpArgs false
set_option maxHeartbeats 4000000 in
theorem c_mStep1 (m : Zak) (s : Mach) (f : Zaw) (b : Zdp) (hf : topF s = f) (hbe : Zau m f = b) (h : 0 < s.stack.length) (h32 : s.stack.length ≤ 32) (hF : OkF m f) (he : endB m f = true) (hk : b.fin.kind = 1) (ha : 0 ≤ b.fin.a ∧ b.fin.a < f.regs.length) (hc : HG Tryz.prog LW 114 (mem m s) [.bp jB 0, .int .u16 (regA f b.fin.a)] (.tup []) (mem m (Zb4 m s (regA f b.fin.a)))) :
    HG Tryz.prog [jB] 64 (mem m s) [.bp jB 0] (.tup []) (mem m (Zb4 m s (regA f b.fin.a))) := by
  refine Za6 tok Tryz.func64 rfl (by decide +kernel) (Nat.le_of_ble_eq_true rfl) ?_
  have hmx : maxL = 4294967296 := rfl
  have hft : s.stack.getD (s.stack.length - 1) default = f := hf
  have hT := Zfb m s h (by omega)
  have hB := Zda m s (s.stack.length - 1) (by omega) (by rw [hft]; exact hF)
  rw [hft] at hB
  have hE : f.at_ = (Zau m f).ins.length := of_decide_eq_true he
  have a0 := hF.a0
  have a1 := hF.a1
  rw [hbe] at hB hE a1
  (repeat' ((fail_if_success (show AWp _ _ _ (Code.region 0 _ _) _ _)); refine Zac ?_))
  (repeat' (refine Zab tok (by rfl) ?_; conv => whnf))
  refine .inr ⟨_, _, _, uG (QH.tnM (by simp) (by simp) hT h32 (Zax rfl rfl rfl rfl (fun _ => rfl)) rfl (fun q hq => Zao hq)), ?_⟩
  conv => whnf
  (repeat' ((fail_if_success (show AWp _ _ _ (Code.region 1 _ _) _ _)); refine Zac ?_))
  (repeat' (refine Zab tok (by rfl) ?_; conv => whnf))
  refine .inr ⟨_, _, _, uG (QH.tnM (by simp) (by simp) hB h32 (Zax rfl rfl rfl rfl (fun _ => Zbm (fun hq => Zao (by omega)))) rfl (fun q hq => (Zbm (fun hq => Zao (by omega))).trans (Zao hq))), ?_⟩
  conv => whnf
  ((repeat' ((fail_if_success (show AWp _ _ _ (Code.region 3 _ _) _ _)); (fail_if_success (show AWp _ _ _ (Code.region 5 _ _) _ _)); first | refine Zac ?_ | (refine Zap tok mix (by rfl) ?_; conv => whnf) | (refine Zag ?_; conv => whnf) | refine Zaf rfl (fun hb => ?_) (fun hb => ?_) | (refine @And.intro (Zaa _ _ _ _) _ ?_ ?_; rotate_left; (conv => whnf); rotate_right))); all_goals (try ((guard_target = Zaa _ _ _ _); refine Zae ?_; (all_goals (try simp only [Zaa, kzz, kz11, kz12, maxL, Zad] at *)); all_goals omega)))
  · exfalso
    rw [hft] at hb
    simp only [decide_eq_true_eq] at hb
    omega
  clear hb
  refine Za0 (weakW (m := m) (s := s) (L := [jB]) (tl := [(0, .bp jB 0), (2, .rp jF 5 (s.stack.length - 1) 0), (3, .bp (3, 0, 0) 0)]) (el := [((3, 0, 0), Zba (Zbl b))]) ?_ ?_ (fun q hq => Za9 hq) (fun i hi _ => by rw [List.mem_singleton.1 hi]; exact ⟨rfl, rfl⟩)) ?_
  · exact .cons (.bp rfl rfl) (.cons (.rp rfl rfl rfl) (.cons (.bp rfl rfl) .nil))
  · exact .old rfl rfl (GB.one (GVs.imm rfl) (fun _ => rfl)) (Zci rfl rfl rfl rfl (fun _ => rfl) rfl rfl rfl rfl rfl rfl rfl (fun q hq => Zcm hq))
  have hle : s.stack.length - 1 < s.stack.length := by omega
  (repeat' ((fail_if_success (show AWp _ _ _ (Code.region 8 _ _) _ _)); (fail_if_success (show AWp _ _ _ (Code.region 9 _ _) _ _)); first | refine Zac ?_ | (refine Zab tok (by rfl) ?_; conv => whnf) | refine Zai ?_ | refine Zaf rfl (fun hb => ?_) (fun hb => ?_)))
  rotate_left
  · exfalso; simp only [decide_eq_false_iff_not] at hb; omega
  clear hb
  have haa : b.fin.a.toNat < (topF s).regs.length := by rw [hf]; omega
  have hc' : HG Tryz.prog LW 114 (mem m s) [.bp jB 0, .int .u16 ((topF s).regs.getD (0 + b.fin.a.toNat) 0)] (.tup []) (mem m (Zb4 m s (regA f b.fin.a))) := by rw [Nat.zero_add, hf]; exact hc
  ((repeat' first | (refine Zap tok mix (by rfl) ?_; conv => whnf) | (refine @And.intro (Zaa _ _ _ _) _ ?_ ?_; rotate_left; (conv => whnf); rotate_right)); all_goals (try ((guard_target = Zaa _ _ _ _); refine Zae ?_; (all_goals (try simp only [Zaa, kzz, kz11, kz12, maxL, Zad] at *)); all_goals omega)))
  refine fAV (x := Zbc s.stack (s.stack.length - 1)) (y := .rs jT 1 0 (topF s).regs.length) (Zbb h rfl) ?_
  conv => whnf
  ((repeat' (refine @And.intro (Zaa _ _ _ _) _ ?_ ?_; rotate_left; (conv => whnf); rotate_right)); all_goals (try ((guard_target = Zaa _ _ _ _); refine Zae ?_; (all_goals (try simp only [Zaa, kzz, kz11, kz12, maxL, Zad] at *)); all_goals omega)))
  refine .inr ⟨_, _, _, uG (QH.tnM (by simp) (by simp) hc' h32 (Zax rfl rfl rfl rfl (fun _ => rfl)) rfl (fun q hq => Zao hq)), ?_⟩
  conv => whnf
  skip
  refine ⟨_, srcL [], rfl, ?_⟩
  rw [← and_assoc]
  exact ⟨Zdg (s := Zb4 m s (regA f b.fin.a)) rfl rfl rfl (Zcc rfl rfl rfl) rfl rfl rfl (fun q hq => Za9 hq), .tup .nil, fun i hi hp => Zcs i (by rw [List.mem_singleton.1 hi]; exact .head _) hp⟩
set_option maxHeartbeats 4000000 in
theorem c_mStep5 (m : Zak) (s : Mach) (f : Zaw) (b : Zdp) (hf : topF s = f) (hbe : Zau m f = b) (h : 0 < s.stack.length) (h32 : s.stack.length ≤ 32) (hF : OkF m f) (he : endB m f = true) (hk : b.fin.kind = 5) (ha : 0 ≤ b.fin.a ∧ b.fin.a < f.regs.length) (hc : HG Tryz.prog LW 117 (mem m s) [.bp jB 0, .int .u16 (regA f b.fin.a)] (.tup []) (mem m (Zbz m s (regA f b.fin.a)))) :
    HG Tryz.prog [jB] 64 (mem m s) [.bp jB 0] (.tup []) (mem m (Zbz m s (regA f b.fin.a))) := by
  refine Za6 tok Tryz.func64 rfl (by decide +kernel) (Nat.le_of_ble_eq_true rfl) ?_
  have hmx : maxL = 4294967296 := rfl
  have hft : s.stack.getD (s.stack.length - 1) default = f := hf
  have hT := Zfb m s h (by omega)
  have hB := Zda m s (s.stack.length - 1) (by omega) (by rw [hft]; exact hF)
  rw [hft] at hB
  have hE : f.at_ = (Zau m f).ins.length := of_decide_eq_true he
  have a0 := hF.a0
  have a1 := hF.a1
  rw [hbe] at hB hE a1
  (repeat' ((fail_if_success (show AWp _ _ _ (Code.region 0 _ _) _ _)); refine Zac ?_))
  (repeat' (refine Zab tok (by rfl) ?_; conv => whnf))
  refine .inr ⟨_, _, _, uG (QH.tnM (by simp) (by simp) hT h32 (Zax rfl rfl rfl rfl (fun _ => rfl)) rfl (fun q hq => Zao hq)), ?_⟩
  conv => whnf
  (repeat' ((fail_if_success (show AWp _ _ _ (Code.region 1 _ _) _ _)); refine Zac ?_))
  (repeat' (refine Zab tok (by rfl) ?_; conv => whnf))
  refine .inr ⟨_, _, _, uG (QH.tnM (by simp) (by simp) hB h32 (Zax rfl rfl rfl rfl (fun _ => Zbm (fun hq => Zao (by omega)))) rfl (fun q hq => (Zbm (fun hq => Zao (by omega))).trans (Zao hq))), ?_⟩
  conv => whnf
  ((repeat' ((fail_if_success (show AWp _ _ _ (Code.region 3 _ _) _ _)); (fail_if_success (show AWp _ _ _ (Code.region 5 _ _) _ _)); first | refine Zac ?_ | (refine Zap tok mix (by rfl) ?_; conv => whnf) | (refine Zag ?_; conv => whnf) | refine Zaf rfl (fun hb => ?_) (fun hb => ?_) | (refine @And.intro (Zaa _ _ _ _) _ ?_ ?_; rotate_left; (conv => whnf); rotate_right))); all_goals (try ((guard_target = Zaa _ _ _ _); refine Zae ?_; (all_goals (try simp only [Zaa, kzz, kz11, kz12, maxL, Zad] at *)); all_goals omega)))
  · exfalso
    rw [hft] at hb
    simp only [decide_eq_true_eq] at hb
    omega
  clear hb
  refine Za0 (weakW (m := m) (s := s) (L := [jB]) (tl := [(0, .bp jB 0), (2, .rp jF 5 (s.stack.length - 1) 0), (3, .bp (3, 0, 0) 0)]) (el := [((3, 0, 0), Zba (Zbl b))]) ?_ ?_ (fun q hq => Za9 hq) (fun i hi _ => by rw [List.mem_singleton.1 hi]; exact ⟨rfl, rfl⟩)) ?_
  · exact .cons (.bp rfl rfl) (.cons (.rp rfl rfl rfl) (.cons (.bp rfl rfl) .nil))
  · exact .old rfl rfl (GB.one (GVs.imm rfl) (fun _ => rfl)) (Zci rfl rfl rfl rfl (fun _ => rfl) rfl rfl rfl rfl rfl rfl rfl (fun q hq => Zcm hq))
  have hle : s.stack.length - 1 < s.stack.length := by omega
  (repeat' ((fail_if_success (show AWp _ _ _ (Code.region 8 _ _) _ _)); (fail_if_success (show AWp _ _ _ (Code.region 9 _ _) _ _)); first | refine Zac ?_ | (refine Zab tok (by rfl) ?_; conv => whnf) | refine Zai ?_ | refine Zaf rfl (fun hb => ?_) (fun hb => ?_)))
  · exfalso; simp only [decide_eq_true_eq] at hb; omega
  clear hb
  (repeat' ((fail_if_success (show AWp _ _ _ (Code.region 10 _ _) _ _)); (fail_if_success (show AWp _ _ _ (Code.region 11 _ _) _ _)); first | refine Zac ?_ | (refine Zab tok (by rfl) ?_; conv => whnf) | refine Zaf rfl (fun hb => ?_) (fun hb => ?_)))
  · exfalso; simp only [decide_eq_true_eq] at hb; omega
  clear hb
  (repeat' ((fail_if_success (show AWp _ _ _ (Code.region 12 _ _) _ _)); (fail_if_success (show AWp _ _ _ (Code.region 16 _ _) _ _)); first | refine Zac ?_ | (refine Zab tok (by rfl) ?_; conv => whnf) | refine Zaf rfl (fun hb => ?_) (fun hb => ?_)))
  · exfalso; simp only [decide_eq_true_eq] at hb; omega
  clear hb
  (repeat' ((fail_if_success (show AWp _ _ _ (Code.region 17 _ _) _ _)); (fail_if_success (show AWp _ _ _ (Code.region 18 _ _) _ _)); first | refine Zac ?_ | (refine Zab tok (by rfl) ?_; conv => whnf) | refine Zaf rfl (fun hb => ?_) (fun hb => ?_)))
  · exfalso; simp only [decide_eq_true_eq] at hb; omega
  clear hb
  (repeat' ((fail_if_success (show AWp _ _ _ (Code.region 19 _ _) _ _)); (fail_if_success (show AWp _ _ _ (Code.region 20 _ _) _ _)); first | refine Zac ?_ | (refine Zab tok (by rfl) ?_; conv => whnf) | refine Zaf rfl (fun hb => ?_) (fun hb => ?_)))
  rotate_left
  · exfalso; simp only [decide_eq_false_iff_not] at hb; omega
  clear hb
  have haa : b.fin.a.toNat < (topF s).regs.length := by rw [hf]; omega
  have hc' : HG Tryz.prog LW 117 (mem m s) [.bp jB 0, .int .u16 ((topF s).regs.getD (0 + b.fin.a.toNat) 0)] (.tup []) (mem m (Zbz m s (regA f b.fin.a))) := by rw [Nat.zero_add, hf]; exact hc
  ((repeat' first | (refine Zap tok mix (by rfl) ?_; conv => whnf) | (refine @And.intro (Zaa _ _ _ _) _ ?_ ?_; rotate_left; (conv => whnf); rotate_right)); all_goals (try ((guard_target = Zaa _ _ _ _); refine Zae ?_; (all_goals (try simp only [Zaa, kzz, kz11, kz12, maxL, Zad] at *)); all_goals omega)))
  refine fAV (x := Zbc s.stack (s.stack.length - 1)) (y := .rs jT 1 0 (topF s).regs.length) (Zbb h rfl) ?_
  conv => whnf
  ((repeat' (refine @And.intro (Zaa _ _ _ _) _ ?_ ?_; rotate_left; (conv => whnf); rotate_right)); all_goals (try ((guard_target = Zaa _ _ _ _); refine Zae ?_; (all_goals (try simp only [Zaa, kzz, kz11, kz12, maxL, Zad] at *)); all_goals omega)))
  refine .inr ⟨_, _, _, uG (QH.tnM (by simp) (by simp) hc' h32 (Zax rfl rfl rfl rfl (fun _ => rfl)) rfl (fun q hq => Zao hq)), ?_⟩
  conv => whnf
  skip
  refine ⟨_, srcL [], rfl, ?_⟩
  rw [← and_assoc]
  exact ⟨Zdg (s := Zbz m s (regA f b.fin.a)) rfl rfl rfl (Zcc rfl rfl rfl) rfl rfl rfl (fun q hq => Za9 hq), .tup .nil, fun i hi hp => Zcs i (by rw [List.mem_singleton.1 hi]; exact .head _) hp⟩
set_option maxHeartbeats 4000000 in
theorem c_mStep6 (m : Zak) (s : Mach) (f : Zaw) (b : Zdp) (hf : topF s = f) (hbe : Zau m f = b) (h : 0 < s.stack.length) (h32 : s.stack.length ≤ 32) (hF : OkF m f) (he : endB m f = true) (hk : b.fin.kind = 6) (hc : HG Tryz.prog LW 117 (mem m s) [.bp jB 0, .int .u16 f.fly] (.tup []) (mem m (Zbz m s f.fly))) :
    HG Tryz.prog [jB] 64 (mem m s) [.bp jB 0] (.tup []) (mem m (Zbz m s f.fly)) := by
  refine Za6 tok Tryz.func64 rfl (by decide +kernel) (Nat.le_of_ble_eq_true rfl) ?_
  have hmx : maxL = 4294967296 := rfl
  have hft : s.stack.getD (s.stack.length - 1) default = f := hf
  have hT := Zfb m s h (by omega)
  have hB := Zda m s (s.stack.length - 1) (by omega) (by rw [hft]; exact hF)
  rw [hft] at hB
  have hE : f.at_ = (Zau m f).ins.length := of_decide_eq_true he
  have a0 := hF.a0
  have a1 := hF.a1
  rw [hbe] at hB hE a1
  (repeat' ((fail_if_success (show AWp _ _ _ (Code.region 0 _ _) _ _)); refine Zac ?_))
  (repeat' (refine Zab tok (by rfl) ?_; conv => whnf))
  refine .inr ⟨_, _, _, uG (QH.tnM (by simp) (by simp) hT h32 (Zax rfl rfl rfl rfl (fun _ => rfl)) rfl (fun q hq => Zao hq)), ?_⟩
  conv => whnf
  (repeat' ((fail_if_success (show AWp _ _ _ (Code.region 1 _ _) _ _)); refine Zac ?_))
  (repeat' (refine Zab tok (by rfl) ?_; conv => whnf))
  refine .inr ⟨_, _, _, uG (QH.tnM (by simp) (by simp) hB h32 (Zax rfl rfl rfl rfl (fun _ => Zbm (fun hq => Zao (by omega)))) rfl (fun q hq => (Zbm (fun hq => Zao (by omega))).trans (Zao hq))), ?_⟩
  conv => whnf
  ((repeat' ((fail_if_success (show AWp _ _ _ (Code.region 3 _ _) _ _)); (fail_if_success (show AWp _ _ _ (Code.region 5 _ _) _ _)); first | refine Zac ?_ | (refine Zap tok mix (by rfl) ?_; conv => whnf) | (refine Zag ?_; conv => whnf) | refine Zaf rfl (fun hb => ?_) (fun hb => ?_) | (refine @And.intro (Zaa _ _ _ _) _ ?_ ?_; rotate_left; (conv => whnf); rotate_right))); all_goals (try ((guard_target = Zaa _ _ _ _); refine Zae ?_; (all_goals (try simp only [Zaa, kzz, kz11, kz12, maxL, Zad] at *)); all_goals omega)))
  · exfalso
    rw [hft] at hb
    simp only [decide_eq_true_eq] at hb
    omega
  clear hb
  refine Za0 (weakW (m := m) (s := s) (L := [jB]) (tl := [(0, .bp jB 0), (2, .rp jF 5 (s.stack.length - 1) 0), (3, .bp (3, 0, 0) 0)]) (el := [((3, 0, 0), Zba (Zbl b))]) ?_ ?_ (fun q hq => Za9 hq) (fun i hi _ => by rw [List.mem_singleton.1 hi]; exact ⟨rfl, rfl⟩)) ?_
  · exact .cons (.bp rfl rfl) (.cons (.rp rfl rfl rfl) (.cons (.bp rfl rfl) .nil))
  · exact .old rfl rfl (GB.one (GVs.imm rfl) (fun _ => rfl)) (Zci rfl rfl rfl rfl (fun _ => rfl) rfl rfl rfl rfl rfl rfl rfl (fun q hq => Zcm hq))
  have hle : s.stack.length - 1 < s.stack.length := by omega
  (repeat' ((fail_if_success (show AWp _ _ _ (Code.region 8 _ _) _ _)); (fail_if_success (show AWp _ _ _ (Code.region 9 _ _) _ _)); first | refine Zac ?_ | (refine Zab tok (by rfl) ?_; conv => whnf) | refine Zai ?_ | refine Zaf rfl (fun hb => ?_) (fun hb => ?_)))
  · exfalso; simp only [decide_eq_true_eq] at hb; omega
  clear hb
  (repeat' ((fail_if_success (show AWp _ _ _ (Code.region 10 _ _) _ _)); (fail_if_success (show AWp _ _ _ (Code.region 11 _ _) _ _)); first | refine Zac ?_ | (refine Zab tok (by rfl) ?_; conv => whnf) | refine Zaf rfl (fun hb => ?_) (fun hb => ?_)))
  · exfalso; simp only [decide_eq_true_eq] at hb; omega
  clear hb
  (repeat' ((fail_if_success (show AWp _ _ _ (Code.region 12 _ _) _ _)); (fail_if_success (show AWp _ _ _ (Code.region 16 _ _) _ _)); first | refine Zac ?_ | (refine Zab tok (by rfl) ?_; conv => whnf) | refine Zaf rfl (fun hb => ?_) (fun hb => ?_)))
  · exfalso; simp only [decide_eq_true_eq] at hb; omega
  clear hb
  (repeat' ((fail_if_success (show AWp _ _ _ (Code.region 17 _ _) _ _)); (fail_if_success (show AWp _ _ _ (Code.region 18 _ _) _ _)); first | refine Zac ?_ | (refine Zab tok (by rfl) ?_; conv => whnf) | refine Zaf rfl (fun hb => ?_) (fun hb => ?_)))
  · exfalso; simp only [decide_eq_true_eq] at hb; omega
  clear hb
  (repeat' ((fail_if_success (show AWp _ _ _ (Code.region 19 _ _) _ _)); (fail_if_success (show AWp _ _ _ (Code.region 20 _ _) _ _)); first | refine Zac ?_ | (refine Zab tok (by rfl) ?_; conv => whnf) | refine Zaf rfl (fun hb => ?_) (fun hb => ?_)))
  · exfalso; simp only [decide_eq_true_eq] at hb; omega
  clear hb
  (repeat' ((fail_if_success (show AWp _ _ _ (Code.region 21 _ _) _ _)); first | (refine Zab tok (by rfl) ?_; conv => whnf) | (refine Zag ?_; conv => whnf) | refine Zaf rfl (fun hb => ?_) (fun hb => ?_)))
  rotate_left
  · exfalso; simp only [decide_eq_false_iff_not] at hb; omega
  clear hb
  have hc' : HG Tryz.prog LW 117 (mem m s) [.bp jB 0, .int .u16 (s.stack.getD (s.stack.length - 1) default).fly] (.tup []) (mem m (Zbz m s f.fly)) := by rw [hft]; exact hc
  ((repeat' first | (refine Zab tok (by rfl) ?_; conv => whnf) | (refine @And.intro (Zaa _ _ _ _) _ ?_ ?_; rotate_left; (conv => whnf); rotate_right)); all_goals (try ((guard_target = Zaa _ _ _ _); refine Zae ?_; (all_goals (try simp only [Zaa, kzz, kz11, kz12, maxL, Zad] at *)); all_goals omega)))
  refine .inr ⟨_, _, _, uG (QH.tnM (by simp) (by simp) hc' h32 (Zax rfl rfl rfl rfl (fun _ => rfl)) rfl (fun q hq => Zao hq)), ?_⟩
  conv => whnf
  skip
  refine ⟨_, srcL [], rfl, ?_⟩
  rw [← and_assoc]
  exact ⟨Zdg (s := Zbz m s f.fly) rfl rfl rfl (Zcc rfl rfl rfl) rfl rfl rfl (fun q hq => Za9 hq), .tup .nil, fun i hi hp => Zcs i (by rw [List.mem_singleton.1 hi]; exact .head _) hp⟩
set_option maxHeartbeats 4000000 in
theorem c_mStep4 (m : Zak) (s : Mach) (f : Zaw) (b : Zdp) (hf : topF s = f) (hbe : Zau m f = b) (h : 0 < s.stack.length) (h32 : s.stack.length ≤ 32) (hF : OkF m f) (he : endB m f = true) (hk : b.fin.kind = 4) (hc : HG Tryz.prog [jB] 116 (mem m s) [.bp jB 0, iv b.fin.f, ints b.fin.args] (.tup []) (mem m (Zcq m s b.fin.f b.fin.args))) :
    HG Tryz.prog [jB] 64 (mem m s) [.bp jB 0] (.tup []) (mem m (Zcq m s b.fin.f b.fin.args)) := by
  refine Za6 tok Tryz.func64 rfl (by decide +kernel) (Nat.le_of_ble_eq_true rfl) ?_
  have hmx : maxL = 4294967296 := rfl
  have hft : s.stack.getD (s.stack.length - 1) default = f := hf
  have hT := Zfb m s h (by omega)
  have hB := Zda m s (s.stack.length - 1) (by omega) (by rw [hft]; exact hF)
  rw [hft] at hB
  have hE : f.at_ = (Zau m f).ins.length := of_decide_eq_true he
  have a0 := hF.a0
  have a1 := hF.a1
  rw [hbe] at hB hE a1
  (repeat' ((fail_if_success (show AWp _ _ _ (Code.region 0 _ _) _ _)); refine Zac ?_))
  (repeat' (refine Zab tok (by rfl) ?_; conv => whnf))
  refine .inr ⟨_, _, _, uG (QH.tnM (by simp) (by simp) hT h32 (Zax rfl rfl rfl rfl (fun _ => rfl)) rfl (fun q hq => Zao hq)), ?_⟩
  conv => whnf
  (repeat' ((fail_if_success (show AWp _ _ _ (Code.region 1 _ _) _ _)); refine Zac ?_))
  (repeat' (refine Zab tok (by rfl) ?_; conv => whnf))
  refine .inr ⟨_, _, _, uG (QH.tnM (by simp) (by simp) hB h32 (Zax rfl rfl rfl rfl (fun _ => Zbm (fun hq => Zao (by omega)))) rfl (fun q hq => (Zbm (fun hq => Zao (by omega))).trans (Zao hq))), ?_⟩
  conv => whnf
  ((repeat' ((fail_if_success (show AWp _ _ _ (Code.region 3 _ _) _ _)); (fail_if_success (show AWp _ _ _ (Code.region 5 _ _) _ _)); first | refine Zac ?_ | (refine Zap tok mix (by rfl) ?_; conv => whnf) | (refine Zag ?_; conv => whnf) | refine Zaf rfl (fun hb => ?_) (fun hb => ?_) | (refine @And.intro (Zaa _ _ _ _) _ ?_ ?_; rotate_left; (conv => whnf); rotate_right))); all_goals (try ((guard_target = Zaa _ _ _ _); refine Zae ?_; (all_goals (try simp only [Zaa, kzz, kz11, kz12, maxL, Zad] at *)); all_goals omega)))
  · exfalso
    rw [hft] at hb
    simp only [decide_eq_true_eq] at hb
    omega
  clear hb
  refine Za0 (Weak.fam (L := [jB]) (tl := [(0, .bp jB 0), (2, .rp jN 5 (s.stack.length - 1) 0), (3, .bp (3, 0, 0) 0)]) (hl := [((3, 0, 0), Zba (Zbl b))] ++ memNL m s) (F := famW s.stack) [(jN, some jF)] rfl (fun c hc => ?_) ?_ ?_ ?_ (fun i hi _ => by rw [List.mem_singleton.1 hi]; exact ⟨rfl, rfl⟩)) ?_
  · rw [List.mem_singleton.1 (show c ∈ [jF] from hc)]; exact .inl rfl
  · exact .cons (.bp rfl rfl) (.cons (.rp rfl rfl rfl) (.cons (.bp rfl rfl) .nil))
  · refine .old rfl rfl (GB.one (GVs.imm rfl) (fun _ => rfl)) ?_
    exact HLs_memN rfl rfl rfl rfl (fun _ => rfl) rfl rfl rfl rfl rfl rfl rfl rfl (fun q hq => Zcm hq)
  · exact Zft (fun _ _ => rfl) (fun q hq => Za9 hq)
  have hle : s.stack.length - 1 < s.stack.length := by omega
  (repeat' ((fail_if_success (show AWp _ _ _ (Code.region 8 _ _) _ _)); (fail_if_success (show AWp _ _ _ (Code.region 9 _ _) _ _)); first | refine Zac ?_ | (refine Zab tok (by rfl) ?_; conv => whnf) | refine Zai ?_ | refine Zaf rfl (fun hb => ?_) (fun hb => ?_)))
  · exfalso; simp only [decide_eq_true_eq] at hb; omega
  clear hb
  (repeat' ((fail_if_success (show AWp _ _ _ (Code.region 10 _ _) _ _)); (fail_if_success (show AWp _ _ _ (Code.region 11 _ _) _ _)); first | refine Zac ?_ | (refine Zab tok (by rfl) ?_; conv => whnf) | refine Zaf rfl (fun hb => ?_) (fun hb => ?_)))
  · exfalso; simp only [decide_eq_true_eq] at hb; omega
  clear hb
  (repeat' ((fail_if_success (show AWp _ _ _ (Code.region 12 _ _) _ _)); (fail_if_success (show AWp _ _ _ (Code.region 16 _ _) _ _)); first | refine Zac ?_ | (refine Zab tok (by rfl) ?_; conv => whnf) | refine Zaf rfl (fun hb => ?_) (fun hb => ?_)))
  · exfalso; simp only [decide_eq_true_eq] at hb; omega
  clear hb
  (repeat' ((fail_if_success (show AWp _ _ _ (Code.region 17 _ _) _ _)); (fail_if_success (show AWp _ _ _ (Code.region 18 _ _) _ _)); first | refine Zac ?_ | (refine Zab tok (by rfl) ?_; conv => whnf) | refine Zaf rfl (fun hb => ?_) (fun hb => ?_)))
  rotate_left
  · exfalso; simp only [decide_eq_false_iff_not] at hb; omega
  clear hb
  have hc' := renN' hc (.cons (.bp rfl rfl) (.cons (.imm rfl) (.cons (.imm rfl) .nil)))
  (repeat' (refine Zab tok (by rfl) ?_; conv => whnf))
  refine .inr ⟨_, _, _, uG (QH.ddM (by simp) hc' h32 (memN_sub rfl rfl rfl rfl (fun _ => rfl)) rfl rfl (fun q hq => Zao hq)), ?_⟩
  conv => whnf
  skip
  refine ⟨_, srcL [], rfl, ?_⟩
  rw [← and_assoc]
  exact ⟨Zdg (s := Zcq m s b.fin.f b.fin.args) rfl rfl rfl (Zcc rfl rfl rfl) rfl rfl rfl (fun q hq => Za9 hq), .tup .nil, fun i hi hp => Zcs i (by rw [List.mem_singleton.1 hi]; exact .head _) hp⟩
end Go.Proofs.YtoelbgjpmpoolaaGreat
namespace Go.Proofs.YtoelbgjpmpoolaaGreat
open Go Dv
set_option maxRecDepth 10000
set_option linter.unusedSimpArgs false
set_option maxHeartbeats 4000000 in
theorem c_mStep2 (m : Zak) (s : Mach) (f : Zaw) (b : Zdp) (hf : topF s = f) (hbe : Zau m f = b) (h : 0 < s.stack.length) (h32 : s.stack.length ≤ 32) (hF : OkF m f) (he : endB m f = true) (hk : b.fin.kind = 2) :
    HG Tryz.prog [jB] 64 (mem m s) [.bp jB 0] (.tup []) (mem m (Zbu s (goF b f))) := by
  refine Za6 tok Tryz.func64 rfl (by decide +kernel) (Nat.le_of_ble_eq_true rfl) ?_
  have hmx : maxL = 4294967296 := rfl
  have hft : s.stack.getD (s.stack.length - 1) default = f := hf
  have hT := Zfb m s h (by omega)
  have hB := Zda m s (s.stack.length - 1) (by omega) (by rw [hft]; exact hF)
  rw [hft] at hB
  have hE : f.at_ = (Zau m f).ins.length := of_decide_eq_true he
  have a0 := hF.a0
  have a1 := hF.a1
  rw [hbe] at hB hE a1
  (repeat' ((fail_if_success (show AWp _ _ _ (Code.region 0 _ _) _ _)); refine Zac ?_))
  (repeat' (refine Zab tok (by rfl) ?_; conv => whnf))
  refine .inr ⟨_, _, _, uG (QH.tnM (by simp) (by simp) hT h32 (Zax rfl rfl rfl rfl (fun _ => rfl)) rfl (fun q hq => Zao hq)), ?_⟩
  conv => whnf
  (repeat' ((fail_if_success (show AWp _ _ _ (Code.region 1 _ _) _ _)); refine Zac ?_))
  (repeat' (refine Zab tok (by rfl) ?_; conv => whnf))
  refine .inr ⟨_, _, _, uG (QH.tnM (by simp) (by simp) hB h32 (Zax rfl rfl rfl rfl (fun _ => Zbm (fun hq => Zao (by omega)))) rfl (fun q hq => (Zbm (fun hq => Zao (by omega))).trans (Zao hq))), ?_⟩
  conv => whnf
  ((repeat' ((fail_if_success (show AWp _ _ _ (Code.region 3 _ _) _ _)); (fail_if_success (show AWp _ _ _ (Code.region 5 _ _) _ _)); first | refine Zac ?_ | (refine Zap tok mix (by rfl) ?_; conv => whnf) | (refine Zag ?_; conv => whnf) | refine Zaf rfl (fun hb => ?_) (fun hb => ?_) | (refine @And.intro (Zaa _ _ _ _) _ ?_ ?_; rotate_left; (conv => whnf); rotate_right))); all_goals (try ((guard_target = Zaa _ _ _ _); refine Zae ?_; (all_goals (try simp only [Zaa, kzz, kz11, kz12, maxL, Zad] at *)); all_goals omega)))
  · exfalso
    rw [hft] at hb
    simp only [decide_eq_true_eq] at hb
    omega
  clear hb
  refine Za0 (weakW (m := m) (s := s) (L := [jB]) (tl := [(0, .bp jB 0), (2, .rp jF 5 (s.stack.length - 1) 0), (3, .bp (3, 0, 0) 0)]) (el := [((3, 0, 0), Zba (Zbl b))]) ?_ ?_ (fun q hq => Za9 hq) (fun i hi _ => by rw [List.mem_singleton.1 hi]; exact ⟨rfl, rfl⟩)) ?_
  · exact .cons (.bp rfl rfl) (.cons (.rp rfl rfl rfl) (.cons (.bp rfl rfl) .nil))
  · exact .old rfl rfl (GB.one (GVs.imm rfl) (fun _ => rfl)) (Zci rfl rfl rfl rfl (fun _ => rfl) rfl rfl rfl rfl rfl rfl rfl (fun q hq => Zcm hq))
  have hle : s.stack.length - 1 < s.stack.length := by omega
  (repeat' ((fail_if_success (show AWp _ _ _ (Code.region 8 _ _) _ _)); (fail_if_success (show AWp _ _ _ (Code.region 9 _ _) _ _)); first | refine Zac ?_ | (refine Zab tok (by rfl) ?_; conv => whnf) | refine Zai ?_ | refine Zaf rfl (fun hb => ?_) (fun hb => ?_)))
  · exfalso; simp only [decide_eq_true_eq] at hb; omega
  clear hb
  (repeat' ((fail_if_success (show AWp _ _ _ (Code.region 10 _ _) _ _)); (fail_if_success (show AWp _ _ _ (Code.region 11 _ _) _ _)); first | refine Zac ?_ | (refine Zab tok (by rfl) ?_; conv => whnf) | refine Zaf rfl (fun hb => ?_) (fun hb => ?_)))
  rotate_left
  · exfalso; simp only [decide_eq_false_iff_not] at hb; omega
  clear hb
  have hG := c_Go (topF s) b.fin.to
  have hGo : goF b f = { topF s with block := b.fin.to, at_ := 0 } := by unfold goF; rw [if_neg (fun e => by omega), hf]
  refine Zel tok mix (by rfl) [0, 1, 2, 3, 4, 5, 7] 30 (by rfl) (by rfl) (by rfl) ?_
  conv => whnf
  (repeat' first
    | (refine fAV (x := Zbc s.stack (s.stack.length - 1)) (y := .rs jT 1 0 (topF s).regs.length) (Zbb h rfl) ?_; (conv => whnf))
    | (refine @And.intro (Zaa _ _ _ _) _ ?_ ?_; rotate_left; (conv => whnf); rotate_right)
    | (guard_target = And _ _; refine @And.intro (gOp _ _ _ _ _ _ _ _ _) _ (by (conv => whnf); first | exact ⟨rfl, rfl⟩ | (refine fAV (x := Zbc s.stack (s.stack.length - 1)) (y := .rs jT 1 0 (topF s).regs.length) (Zbb h rfl) ?_; (conv => whnf); exact ⟨rfl, rfl⟩)) ?_; conv => whnf)
    | (guard_target = And _ _; refine And.intro ?_ ?_ <;> (conv => whnf)))
  all_goals (try ((guard_target = Zaa _ _ _ _); refine Zae ?_; (all_goals (try simp only [Zaa, kzz, kz11, kz12, maxL, Zad] at *)); all_goals omega))
  all_goals (try (show AV.agg [_, _, _, Zbc s.stack (s.stack.length - 1), _] = AV.agg [_, _, _, .rs jT 1 0 (topF s).regs.length, _]; rw [Zbb h rfl]; done))
  refine .inr ⟨_, _, _, uG (QH.lendF (rd := [jT]) hG (.cons (.agg (.cons (.imm rfl) (.cons (.imm rfl) (.cons (.imm rfl) (.cons (.row rfl (.head _) rfl rfl (fun q hq => rfl)) (.cons (.imm rfl) .nil)))))) (.cons (.imm rfl) .nil)) (fun i hi => by rw [Zc3 hi]; rfl) rfl (fun j b e => by
    obtain ⟨rfl, rfl⟩ := lendOne j b e
    exact fun i hi => rfl)), ?_⟩
  conv => whnf
  (repeat' first
    | (refine fAV (x := Zbc s.stack (s.stack.length - 1)) (y := .rs jT 1 0 (topF s).regs.length) (Zbb h rfl) ?_; (conv => whnf))
    | (refine @And.intro (Zaa _ _ _ _) _ ?_ ?_; rotate_left; (conv => whnf); rotate_right)
    | (guard_target = And _ _; refine @And.intro (gOp _ _ _ _ _ _ _ _ _) _ (by (conv => whnf); first | exact ⟨rfl, rfl⟩ | (refine fAV (x := Zbc s.stack (s.stack.length - 1)) (y := .rs jT 1 0 (topF s).regs.length) (Zbb h rfl) ?_; (conv => whnf); exact ⟨rfl, rfl⟩)) ?_; conv => whnf)
    | (guard_target = And _ _; refine And.intro ?_ ?_ <;> (conv => whnf)))
  all_goals (try ((guard_target = Zaa _ _ _ _); refine Zae ?_; (all_goals (try simp only [Zaa, kzz, kz11, kz12, maxL, Zad] at *)); all_goals omega))
  all_goals (try (show AV.agg [_, _, _, Zbc s.stack (s.stack.length - 1), _] = AV.agg [_, _, _, .rs jT 1 0 (topF s).regs.length, _]; rw [Zbb h rfl]; done))
  skip
  refine ⟨_, srcT jE r0, rfl, ?_⟩
  rw [← and_assoc]
  refine ⟨leaveG (s := s) (g := { topF s with block := b.fin.to, at_ := 0 }) (n' := s.stack.length) h (by rw [hGo]) rfl (.inr (.inl rfl)) (.inl rfl) rfl ?_ rfl (Nat.le_refl _) (fun q hq => ?_) ?_ rfl (Zd7 _) rfl (Zbs _) (fun q hq => ?_), .tup .nil, fun i hi hp => keepT i (by rw [List.mem_singleton.1 hi]; exact .head _) hp⟩
  · exact Zd6 (s := Zbu s (goF b f)) (Zc5 (s := s) h).symm rfl rfl rfl rfl
  · exact Zcv (by omega)
  · exact Zdi
  · refine Zev (d := []) (u := oneR (topF s).regs) rfl rfl ?_
    exact Za2 hq
set_option maxHeartbeats 4000000 in
theorem c_mStep3 (m : Zak) (s : Mach) (f : Zaw) (b : Zdp) (hf : topF s = f) (hbe : Zau m f = b) (h : 0 < s.stack.length) (h32 : s.stack.length ≤ 32) (hF : OkF m f) (he : endB m f = true) (hk : b.fin.kind = 3) (ha : 0 ≤ b.fin.a ∧ b.fin.a < f.regs.length) :
    HG Tryz.prog [jB] 64 (mem m s) [.bp jB 0] (.tup []) (mem m (Zbu s (goF b f))) := by
  refine Za6 tok Tryz.func64 rfl (by decide +kernel) (Nat.le_of_ble_eq_true rfl) ?_
  have hmx : maxL = 4294967296 := rfl
  have hft : s.stack.getD (s.stack.length - 1) default = f := hf
  have hT := Zfb m s h (by omega)
  have hB := Zda m s (s.stack.length - 1) (by omega) (by rw [hft]; exact hF)
  rw [hft] at hB
  have hE : f.at_ = (Zau m f).ins.length := of_decide_eq_true he
  have a0 := hF.a0
  have a1 := hF.a1
  rw [hbe] at hB hE a1
  (repeat' ((fail_if_success (show AWp _ _ _ (Code.region 0 _ _) _ _)); refine Zac ?_))
  (repeat' (refine Zab tok (by rfl) ?_; conv => whnf))
  refine .inr ⟨_, _, _, uG (QH.tnM (by simp) (by simp) hT h32 (Zax rfl rfl rfl rfl (fun _ => rfl)) rfl (fun q hq => Zao hq)), ?_⟩
  conv => whnf
  (repeat' ((fail_if_success (show AWp _ _ _ (Code.region 1 _ _) _ _)); refine Zac ?_))
  (repeat' (refine Zab tok (by rfl) ?_; conv => whnf))
  refine .inr ⟨_, _, _, uG (QH.tnM (by simp) (by simp) hB h32 (Zax rfl rfl rfl rfl (fun _ => Zbm (fun hq => Zao (by omega)))) rfl (fun q hq => (Zbm (fun hq => Zao (by omega))).trans (Zao hq))), ?_⟩
  conv => whnf
  ((repeat' ((fail_if_success (show AWp _ _ _ (Code.region 3 _ _) _ _)); (fail_if_success (show AWp _ _ _ (Code.region 5 _ _) _ _)); first | refine Zac ?_ | (refine Zap tok mix (by rfl) ?_; conv => whnf) | (refine Zag ?_; conv => whnf) | refine Zaf rfl (fun hb => ?_) (fun hb => ?_) | (refine @And.intro (Zaa _ _ _ _) _ ?_ ?_; rotate_left; (conv => whnf); rotate_right))); all_goals (try ((guard_target = Zaa _ _ _ _); refine Zae ?_; (all_goals (try simp only [Zaa, kzz, kz11, kz12, maxL, Zad] at *)); all_goals omega)))
  · exfalso
    rw [hft] at hb
    simp only [decide_eq_true_eq] at hb
    omega
  clear hb
  refine Za0 (weakW (m := m) (s := s) (L := [jB]) (tl := [(0, .bp jB 0), (2, .rp jF 5 (s.stack.length - 1) 0), (3, .bp (3, 0, 0) 0)]) (el := [((3, 0, 0), Zba (Zbl b))]) ?_ ?_ (fun q hq => Za9 hq) (fun i hi _ => by rw [List.mem_singleton.1 hi]; exact ⟨rfl, rfl⟩)) ?_
  · exact .cons (.bp rfl rfl) (.cons (.rp rfl rfl rfl) (.cons (.bp rfl rfl) .nil))
  · exact .old rfl rfl (GB.one (GVs.imm rfl) (fun _ => rfl)) (Zci rfl rfl rfl rfl (fun _ => rfl) rfl rfl rfl rfl rfl rfl rfl (fun q hq => Zcm hq))
  have hle : s.stack.length - 1 < s.stack.length := by omega
  (repeat' ((fail_if_success (show AWp _ _ _ (Code.region 8 _ _) _ _)); (fail_if_success (show AWp _ _ _ (Code.region 9 _ _) _ _)); first | refine Zac ?_ | (refine Zab tok (by rfl) ?_; conv => whnf) | refine Zai ?_ | refine Zaf rfl (fun hb => ?_) (fun hb => ?_)))
  · exfalso; simp only [decide_eq_true_eq] at hb; omega
  clear hb
  (repeat' ((fail_if_success (show AWp _ _ _ (Code.region 10 _ _) _ _)); (fail_if_success (show AWp _ _ _ (Code.region 11 _ _) _ _)); first | refine Zac ?_ | (refine Zab tok (by rfl) ?_; conv => whnf) | refine Zaf rfl (fun hb => ?_) (fun hb => ?_)))
  · exfalso; simp only [decide_eq_true_eq] at hb; omega
  clear hb
  (repeat' ((fail_if_success (show AWp _ _ _ (Code.region 12 _ _) _ _)); (fail_if_success (show AWp _ _ _ (Code.region 16 _ _) _ _)); first | refine Zac ?_ | (refine Zab tok (by rfl) ?_; conv => whnf) | refine Zaf rfl (fun hb => ?_) (fun hb => ?_)))
  rotate_left
  · exfalso; simp only [decide_eq_false_iff_not] at hb; omega
  clear hb
  have haa : b.fin.a.toNat < (topF s).regs.length := by rw [hf]; omega
  ((repeat' first | refine Zac ?_ | (refine Zab tok (by rfl) ?_; conv => whnf) | (refine Zap tok mix (by rfl) ?_; conv => whnf) | (refine @And.intro (Zaa _ _ _ _) _ ?_ ?_; rotate_left; (conv => whnf); rotate_right)); all_goals (try ((guard_target = Zaa _ _ _ _); refine Zae ?_; (all_goals (try simp only [Zaa, kzz, kz11, kz12, maxL, Zad] at *)); all_goals omega)))
  refine fAV (x := Zbc s.stack (s.stack.length - 1)) (y := .rs jT 1 0 (topF s).regs.length) (Zbb h rfl) ?_
  conv => whnf
  ((repeat' ((fail_if_success (show AWp _ _ _ (Code.region 14 _ _) _ _)); (fail_if_success (show AWp _ _ _ (Code.region 15 _ _) _ _)); first | (refine Zag ?_; conv => whnf) | refine Zaf rfl (fun hb => ?_) (fun hb => ?_) | (refine @And.intro (Zaa _ _ _ _) _ ?_ ?_; rotate_left; (conv => whnf); rotate_right))); all_goals (try ((guard_target = Zaa _ _ _ _); refine Zae ?_; (all_goals (try simp only [Zaa, kzz, kz11, kz12, maxL, Zad] at *)); all_goals omega)))
  · have hz : ¬ regA f b.fin.a = 0 := by
      unfold regA
      rw [Nat.zero_add, hf] at hb
      simpa using hb
    clear hb
    have hG := c_Go (topF s) b.fin.to
    have hGo : goF b f = { topF s with block := b.fin.to, at_ := 0 } := by unfold goF; rw [if_neg (fun e => hz e.2), hf]
    ((repeat' first | (refine Zab tok (by rfl) ?_; conv => whnf) | (refine @And.intro (Zaa _ _ _ _) _ ?_ ?_; rotate_left; (conv => whnf); rotate_right)); all_goals (try ((guard_target = Zaa _ _ _ _); refine Zae ?_; (all_goals (try simp only [Zaa, kzz, kz11, kz12, maxL, Zad] at *)); all_goals omega)))
    refine fAV (x := Zbc s.stack (s.stack.length - 1)) (y := .rs jT 1 0 (topF s).regs.length) (Zbb h rfl) ?_
    conv => whnf
    skip
    refine .inr ⟨_, _, _, uG (QH.lendF (rd := [jT]) hG (.cons (.agg (.cons (.imm rfl) (.cons (.imm rfl) (.cons (.imm rfl) (.cons (.row rfl (.head _) rfl rfl (fun q hq => rfl)) (.cons (.imm rfl) .nil)))))) (.cons (.imm rfl) .nil)) (fun i hi => by rw [Zc3 hi]; rfl) rfl (fun j b e => by
      obtain ⟨rfl, rfl⟩ := lendOne j b e
      exact fun i hi => rfl)), ?_⟩
    conv => whnf
    ((repeat' (refine @And.intro (Zaa _ _ _ _) _ ?_ ?_; rotate_left; (conv => whnf); rotate_right)); all_goals (try ((guard_target = Zaa _ _ _ _); refine Zae ?_; (all_goals (try simp only [Zaa, kzz, kz11, kz12, maxL, Zad] at *)); all_goals omega)))
    refine ⟨_, srcT jE r0, rfl, ?_⟩
    rw [← and_assoc]
    refine ⟨leaveG (s := s) (g := { topF s with block := b.fin.to, at_ := 0 }) (n' := s.stack.length) h (by rw [hGo]) rfl (.inr (.inl rfl)) (.inl rfl) rfl ?_ rfl (Nat.le_refl _) (fun q hq => ?_) ?_ rfl (Zd7 _) rfl (Zbs _) (fun q hq => ?_), .tup .nil, fun i hi hp => keepT i (by rw [List.mem_singleton.1 hi]; exact .head _) hp⟩
    · exact Zd6 (s := Zbu s (goF b f)) (Zc5 (s := s) h).symm rfl rfl rfl rfl
    · exact Zcv (by omega)
    · exact Zdi
    · refine Zev (d := []) (u := oneR (topF s).regs) rfl rfl ?_
      exact Za2 hq
  · have hz : regA f b.fin.a = 0 := by
      unfold regA
      rw [Nat.zero_add, hf] at hb
      simpa using hb
    clear hb
    have hG := c_Go (topF s) b.fin.els
    have hGo : goF b f = { topF s with block := b.fin.els, at_ := 0 } := by unfold goF; rw [if_pos ⟨hk, hz⟩, hf]
    ((repeat' first | (refine Zab tok (by rfl) ?_; conv => whnf) | (refine @And.intro (Zaa _ _ _ _) _ ?_ ?_; rotate_left; (conv => whnf); rotate_right)); all_goals (try ((guard_target = Zaa _ _ _ _); refine Zae ?_; (all_goals (try simp only [Zaa, kzz, kz11, kz12, maxL, Zad] at *)); all_goals omega)))
    refine fAV (x := Zbc s.stack (s.stack.length - 1)) (y := .rs jT 1 0 (topF s).regs.length) (Zbb h rfl) ?_
    conv => whnf
    skip
    refine .inr ⟨_, _, _, uG (QH.lendF (rd := [jT]) hG (.cons (.agg (.cons (.imm rfl) (.cons (.imm rfl) (.cons (.imm rfl) (.cons (.row rfl (.head _) rfl rfl (fun q hq => rfl)) (.cons (.imm rfl) .nil)))))) (.cons (.imm rfl) .nil)) (fun i hi => by rw [Zc3 hi]; rfl) rfl (fun j b e => by
      obtain ⟨rfl, rfl⟩ := lendOne j b e
      exact fun i hi => rfl)), ?_⟩
    conv => whnf
    ((repeat' (refine @And.intro (Zaa _ _ _ _) _ ?_ ?_; rotate_left; (conv => whnf); rotate_right)); all_goals (try ((guard_target = Zaa _ _ _ _); refine Zae ?_; (all_goals (try simp only [Zaa, kzz, kz11, kz12, maxL, Zad] at *)); all_goals omega)))
    refine ⟨_, srcT jE r0, rfl, ?_⟩
    rw [← and_assoc]
    refine ⟨leaveG (s := s) (g := { topF s with block := b.fin.els, at_ := 0 }) (n' := s.stack.length) h (by rw [hGo]) rfl (.inr (.inl rfl)) (.inl rfl) rfl ?_ rfl (Nat.le_refl _) (fun q hq => ?_) ?_ rfl (Zd7 _) rfl (Zbs _) (fun q hq => ?_), .tup .nil, fun i hi hp => keepT i (by rw [List.mem_singleton.1 hi]; exact .head _) hp⟩
    · exact Zd6 (s := Zbu s (goF b f)) (Zc5 (s := s) h).symm rfl rfl rfl rfl
    · exact Zcv (by omega)
    · exact Zdi
    · refine Zev (d := []) (u := oneR (topF s).regs) rfl rfl ?_
      exact Za2 hq
end Go.Proofs.YtoelbgjpmpoolaaGreat
namespace Go.Proofs.YtoelbgjpmpoolaaGreat
open Go Dv
set_option maxRecDepth 10000
set_option linter.unusedSimpArgs false
theorem withM_two {s : Mach} {f g : Zaw} (h : 0 < s.stack.length) : Zbu (Zbu s f) g = Zbu s g := by
  unfold Zbu
  simp only [List.length_append, List.length_take, List.length_singleton]
  congr 2
  rw [List.take_append, List.take_take, List.length_take]
  have e1 : min (s.stack.length - 1) s.stack.length = s.stack.length - 1 := by omega
  rw [e1]
  have e2 : s.stack.length - 1 + 1 - 1 - (s.stack.length - 1) = 0 := by omega
  rw [e2]
  have e3 : min (s.stack.length - 1 + 1 - 1) (s.stack.length - 1) = s.stack.length - 1 := by omega
  rw [e3]; simp
theorem top_withM {s : Mach} {f : Zaw} (h : 0 < s.stack.length) : topF (Zbu s f) = f := by
  unfold topF; rw [with_len h]; exact with_top h
abbrev HGstep (m : Zak) (s s1 : Mach) : Prop := HG Tryz.prog [jB] 64 (mem m s) [.bp jB 0] (.tup []) (mem m s1)
theorem c_mStepI {m : Zak} {s : Mach} (hr : Zbg m = true) (h : OkM m s) (hp : 0 < s.stack.length) (hev : s.events.length < 1000000) (he : endB m (topF s) = false) : HGstep m s (insM m s (topF s) (Zbi m (topF s))) := by
  have hF := h.fr _ (top_mem hp)
  have hI := (okF_ins hr hF he).2
  have h64 := (Zfq hr hF).1
  have a0 := hF.a0
  have a1 := hF.a1
  have hR := hF.regs
  have hl := h.len
  have no8 : ∀ n, 8 < n → (Zbi m (topF s)).op = n → ¬ (Zbi m (topF s)).op ≤ 8 := fun n _ e => by omega
  have r8 : ∀ (h1 : 1 ≤ (Zbi m (topF s)).op) (h8 : (Zbi m (topF s)).op ≤ 8) (hd : 0 ≤ (Zbi m (topF s)).dst ∧ (Zbi m (topF s)).dst < (topF s).regs.length) (ha : 1 < (Zbi m (topF s)).op → 0 ≤ (Zbi m (topF s)).a ∧ (Zbi m (topF s)).a < (topF s).regs.length) (hb' : 2 < (Zbi m (topF s)).op → 0 ≤ (Zbi m (topF s)).b ∧ (Zbi m (topF s)).b < (topF s).regs.length), HGstep m s (insM m s (topF s) (Zbi m (topF s))) := fun h1 h8 hd ha hb' =>
    c_mStepF m s _ (topF s) rfl hp hl hF he (c_mIns8 m s (topF s) (Zbi m (topF s)) rfl hp hl a0 (by omega) h1 h8 hd ha hb')
  have run : ∀ s1 g, s1.stack.length = s.stack.length → HG Tryz.prog LW 113 (mem m s) [.bp jB 0, .rp jF 5 (s.stack.length - 1) 0, .agg (Zbf (Zbi m (topF s)))] (.bool true) (mem m s1) → topF s1 = g → g.at_ = (topF s).at_ → HGstep m s (Zbu s1 (goOn g)) := fun s1 g e hc e2 e3 => by
    subst e2
    exact c_mStepT m s s1 (topF s) rfl hp hl hF he e (by omega) (by omega) hc
  rcases hI with h1 | h1 | h1 | h1 | h1 | h1 | h1
  · have hd := (Zad _ _).1 h1.2.1
    exact r8 (by omega) (by omega) (by rw [hR]; exact hd) (fun h => by omega) (fun h => by omega)
  · have hd := (Zad _ _).1 h1.2.1
    have ha := (Zad _ _).1 h1.2.2.1
    rcases h1.1 with ho | ho
    · exact r8 (by omega) (by omega) (by rw [hR]; exact hd) (fun h => by rw [hR]; exact ha) (fun h => by omega)
    · have hM : insM m s (topF s) (Zbi m (topF s)) = if 16 ≤ (topF s).regs.getD (Zbi m (topF s)).a.toNat 0 then endM s 4 0 else Zbu s (goOn (frW (topF s) (Zbi m (topF s)).dst (s.cells.getD (cellN (topF s) (Zbi m (topF s))) 0))) := by
        unfold insM; rw [if_neg (by omega), if_neg (by omega), if_pos ho]
      rw [hM]
      split
      · rename_i h16
        exact c_mStepF m s _ (topF s) rfl hp hl hF he (c_mIns9n m s (Zbi m (topF s)) ho hp hl (by rw [hR]; exact ha) h16)
      · rename_i h16
        have := run _ _ (with_len hp) (c_mIns9y m s (Zbi m (topF s)) _ ho hp hl (by rw [hR]; exact ha) (by rw [hR]; exact hd) (by omega) rfl) (top_withM hp) rfl
        rw [withM_two hp] at this
        exact this
  · have hd := (Zad _ _).1 h1.2.1
    have ha := (Zad _ _).1 h1.2.2.1
    have hb := (Zad _ _).1 h1.2.2.2.1
    exact r8 (by omega) (by omega) (by rw [hR]; exact hd) (fun h => by rw [hR]; exact ha) (fun h => by rw [hR]; exact hb)
  · have ho := h1.1
    have ha := (Zad _ _).1 h1.2.2.1
    have hb := (Zad _ _).1 h1.2.2.2.1
    have hM : insM m s (topF s) (Zbi m (topF s)) = if 16 ≤ (topF s).regs.getD (Zbi m (topF s)).a.toNat 0 then endM s 4 0 else Zbu (stM s (cellN (topF s) (Zbi m (topF s))) ((topF s).regs.getD (Zbi m (topF s)).b.toNat 0)) (goOn (topF s)) := by
      unfold insM; rw [if_neg (by omega), if_neg (by omega), if_neg (by omega), if_pos ho]; rfl
    rw [hM]
    split
    · rename_i h16
      exact c_mStepF m s _ (topF s) rfl hp hl hF he (c_mIns10n m s (Zbi m (topF s)) ho hp hl (by rw [hR]; exact ha) h16)
    · rename_i h16
      exact run _ _ rfl (c_mIns10y m s (Zbi m (topF s)) _ ho hp hl (by rw [hR]; exact ha) (by rw [hR]; exact hb) h.cells (by omega) rfl) rfl rfl
  · have hA := argsB_n h1.2.2.2.2.2
    have hM : insM m s (topF s) (Zbi m (topF s)) = Zcq m s (Zbi m (topF s)).f (Zbi m (topF s)).args := by unfold insM; rw [if_pos h1.1]
    rw [hM]
    exact c_mStepC m s _ (topF s) rfl hp hl hF he (c_mIns11 m s (Zbi m (topF s)) _ h1.1 hl (c_mCall m s _ _ hr hp hl hA.1.1 hA.1.2 hA.2.1 (fun p hp' => by rw [hR]; exact hA.2.2 p hp')))
  · have ho := h1.1
    have ha := (Zad _ _).1 h1.2.2.1
    have hM : insM m s (topF s) (Zbi m (topF s)) = Zbu (evM s ((topF s).regs.getD (Zbi m (topF s)).a.toNat 0)) (goOn (topF s)) := by
      unfold insM; rw [if_neg (by omega), if_neg (by omega), if_neg (by omega), if_neg (by omega), if_pos ho]; rfl
    rw [hM]
    exact run _ _ rfl (c_mIns12 m s (Zbi m (topF s)) ho hp (by rw [hR]; exact ha) hev) rfl rfl
  · have ho := h1.1
    have hd := (Zad _ _).1 h1.2.1
    have hM : insM m s (topF s) (Zbi m (topF s)) = if s.inputs.length = 0 then endM s 6 0 else Zbu (inM s) (goOn (frW (topF s) (Zbi m (topF s)).dst (s.inputs.getD 0 0))) := by
      unfold insM; rw [if_neg (by omega), if_neg (by omega), if_neg (by omega), if_neg (by omega), if_neg (by omega), if_pos ho]; rfl
    rw [hM]
    split
    · rename_i hz
      exact c_mStepF m s _ (topF s) rfl hp hl hF he (c_mIns13a m s (Zbi m (topF s)) ho hl hz)
    · rename_i hz
      have := run _ _ (with_len (s := inM s) hp) (c_mIns13b m s (Zbi m (topF s)) ho hp hz h.inp.2 (by rw [hR]; exact hd) hev) (top_withM (s := inM s) hp) rfl
      rw [withM_two (s := inM s) hp] at this
      exact this
theorem c_mStepOk {m : Zak} {s : Mach} (hr : Zbg m = true) (h : OkM m s) (hev : s.events.length < 1000000) (hd : s.done = 0) : HGstep m s (stepM m s) := by
  have hp := h.pos hd
  have hF := h.fr _ (top_mem hp)
  have hE := (Zfq hr hF).2
  have hl := h.len
  have hR := hF.regs
  rw [show stepM m s = stepE m s (topF s) (Zau m (topF s)) from if_pos hd]
  unfold stepE
  cases he : endB m (topF s) with
  | false => rw [if_pos rfl]; exact c_mStepI hr h hp hev he
  | true =>
    rw [if_neg (by decide)]
    have hT : ∀ w, HG Tryz.prog LW 117 (mem m s) [.bp jB 0, .int .u16 w] (.tup []) (mem m (Zbz m s w)) := fun w => c_mThr m s w hr hp hl (fun i hi => h.fr _ (Zck _ hi))
    have hA : ∀ w, HG Tryz.prog LW 114 (mem m s) [.bp jB 0, .int .u16 w] (.tup []) (mem m (Zb4 m s w)) := fun w => by
      refine c_mAns m s w hp hl (fun h2 => (pop_top h h2).1) (fun h2 => ?_) (fun h2 he => ?_) (fun h2 he => ?_)
      · have hF := (pop_top h h2).1
        have := (Zfq hr hF).1
        have := hF.a1
        omega
      · exact ((callF_dst hr (pop_top h h2).1 (pop_top h h2).2).1 he).1
      · exact (callF_dst hr (pop_top h h2).1 (pop_top h h2).2).2 he
    have k1 := c_mStep1 m s (topF s) _ rfl rfl hp hl hF he
    have k2 := c_mStep2 m s (topF s) _ rfl rfl hp hl hF he
    have k3 := c_mStep3 m s (topF s) _ rfl rfl hp hl hF he
    have k4 := c_mStep4 m s (topF s) _ rfl rfl hp hl hF he
    have k5 := c_mStep5 m s (topF s) _ rfl rfl hp hl hF he
    have k6 := c_mStep6 m s (topF s) _ rfl rfl hp hl hF he
    rcases hE with e | e | e | e | e
    · rcases e.1 with e1 | e1
      · rw [if_pos e1]; exact k1 e1 (by rw [hR]; exact (Zad _ _).1 e.2.1) (hA _)
      · rw [if_neg (by omega), if_neg (by omega), if_pos e1]; exact k5 e1 (by rw [hR]; exact (Zad _ _).1 e.2.1) (hT _)
    · rw [if_neg (by omega), if_neg (by omega), if_neg (by omega), if_neg (by omega)]; exact k2 e.1
    · rw [if_neg (by omega), if_neg (by omega), if_neg (by omega), if_neg (by omega)]; exact k3 e.1 (by rw [hR]; exact (Zad _ _).1 e.2.1)
    · have hA := argsB_n e.2.2.2.1
      rw [if_neg (by omega), if_pos e.1]; exact k4 e.1 (c_mCall m s _ _ hr hp hl hA.1.1 hA.1.2 hA.2.1 (fun p hp' => by rw [hR]; exact hA.2.2 p hp'))
    · rw [if_neg (by omega), if_neg (by omega), if_neg (by omega), if_pos e.1]; exact k6 e.1 (hT _)
end Go.Proofs.YtoelbgjpmpoolaaGreat
namespace Go.Proofs.YtoelbgjpmpoolaaGreat
open Go Dv
set_option maxRecDepth 10000
set_option linter.unusedSimpArgs false
def newC (F : Dv.Id) (inputs : List Int) : List AV := [.rs F 5 0 1, .int .u16 0, .int .u16 0, .int .u16 0, .int .u16 0, .int .u16 0, .int .u16 0, .int .u16 0, .int .u16 0, .int .u16 0, .int .u16 0, .int .u16 0, .int .u16 0, .int .u16 0, .int .u16 0, .int .u16 0, .int .u16 0, u16s inputs, .nsl, iv 0, .int .u16 0]
def newL (m : Zak) (inputs : List Int) : List (Dv.Id × Zam) := [(jN, Zc2 (newM m inputs).stack), (jT, regB (frN m 0 []).regs)]
set_option maxHeartbeats 4000000 in
theorem c_mNew (m : Zak) (inputs : List Int) (hr : Zbg m = true) : HF Tryz.prog 31 [.agg (Zbj m), u16s inputs] (.tup [.agg (newC jN inputs), iv 0]) (orH (Zaz (newL m inputs)) noH) := by
  refine Zf1 tok Tryz.func31 rfl (by decide +kernel) (Nat.le_of_ble_eq_true rfl) ?_
  have hmx : maxL = 4294967296 := rfl
  have h0 := right0 hr
  have hN := c_fNew m 0 [] hr (by omega) (by omega) (by simp only [List.length_nil]; exact h0.2.symm)
  refine Zas 1 (fun hl => ?_)
  have hl0 : inputs.length ≤ maxL := hl.1
  clear hl
  (repeat' first | refine Zac ?_ | (refine Zab tok (by rfl) ?_; conv => whnf))
  refine .inr ⟨_, _, _, uG (QH.lendF (rd := []) hN (.cons (.imm rfl) (.cons (.imm rfl) (.cons .nsl .nil))) (fun i hi => by rw [Zc3 hi]; rfl) rfl (fun j b e => by
    obtain ⟨rfl, rfl⟩ := lendOne j b e
    exact fun i hi => rfl)), ?_⟩
  conv => whnf
  (repeat' ((fail_if_success (show AWp _ _ _ (Code.region 3 _ _) _ _)); (fail_if_success (show AWp _ _ _ (Code.region 4 _ _) _ _)); first | refine Zac ?_ | (refine Zab tok (by rfl) ?_; conv => whnf) | (refine Zag ?_; conv => whnf) | refine Zaf rfl (fun hb => ?_) (fun hb => ?_)))
  · exfalso; cases hb
  clear hb
  refine Zel tok mix (by rfl) [0, 2] 30 (by rfl) (by rfl) (by rfl) ?_
  conv => whnf
  (repeat' first
    | (refine @And.intro (Zaa _ _ _ _) _ ?_ ?_; rotate_left; (conv => whnf); rotate_right)
    | (guard_target = And _ _; refine @And.intro (gOp _ _ _ _ _ _ _ _ _) _ (by (conv => whnf); exact ⟨rfl, rfl⟩) ?_; conv => whnf)
    | (guard_target = And _ _; refine And.intro ?_ ?_ <;> (conv => whnf))
    | (refine .inl ⟨_, _, _, uG (QC.fo (rd := []) (Zfz inputs) (Ress.imms rfl) (.inl rfl) rfl), ?_⟩; (conv => whnf)))
  all_goals (try ((guard_target = Zaa _ _ _ _); skip; all_goals omega))
  all_goals
    (repeat' (refine Zaj ?_; conv => whnf))
    refine ⟨_, srcL [(jN, some (18, 0, 0)), (jT, some r0)], rfl, ?_⟩
    rw [← and_assoc]
    refine ⟨leaveR [(jN, some (18, 0, 0)), (jT, some r0)] rfl (fun c hc => ?_) (.old rfl rfl (GB.row (Nat.le_refl _) (fun q hq => ?_) (fun e => by cases e)) (.old rfl rfl (Zbs _) .nil)) (fun j b e => by cases e), .tup (.cons (.agg (.cons (.rs rfl rfl rfl rfl) (.cons (.imm rfl) (.cons (.imm rfl) (.cons (.imm rfl) (.cons (.imm rfl) (.cons (.imm rfl) (.cons (.imm rfl) (.cons (.imm rfl) (.cons (.imm rfl) (.cons (.imm rfl) (.cons (.imm rfl) (.cons (.imm rfl) (.cons (.imm rfl) (.cons (.imm rfl) (.cons (.imm rfl) (.cons (.imm rfl) (.cons (.imm rfl) (.cons (GV.frz (fun j hj e => ?_) rfl (by omega) rfl (fun x hx => by rw [Nat.zero_add]; exact .cons (.imm rfl) .nil) (fun x hx => rfl)) (.cons (.imm rfl) (.cons (.imm rfl) (.cons (.imm rfl) .nil)))))))))))))))))))))) (.cons (.imm rfl) .nil))⟩
    · rcases List.mem_cons.1 (show c ∈ [(18, 0, 0), r0] from hc) with rfl | hc
      · exact .inl rfl
      · rw [List.mem_singleton.1 hc]; exact .inl rfl
    · have hq0 : q = 0 := by have : q < 1 := hq; omega
      subst hq0
      exact .cons (.imm rfl) (.cons (.imm rfl) (.cons (.imm rfl) (.cons (.cc rfl rfl (.rs rfl rfl rfl rfl)) (.cons (.imm rfl) .nil))))
    · cases e1 : idEq jN j with
      | true => rw [← Za3.1 e1] at e; cases e
      | false =>
        cases e2 : idEq jT j with
        | true => rw [← Za3.1 e2] at e; cases e
        | false =>
          have hj' : (orH (Zaz (newL m inputs)) noH j).isSome = true := hj
          unfold orH newL at hj'
          simp only [Zaz, e1, e2, cond_false, noH] at hj'
          cases hj'
end Go.Proofs.YtoelbgjpmpoolaaGreat
namespace Go.Proofs.YtoelbgjpmpoolaaGreat
open Go Dv
set_option maxRecDepth 10000
set_option linter.unusedSimpArgs false
theorem c_CloneFrames (l : List Zaw) : FO Tryz.prog 78 [frs l] 5 l.length (fun i => Zbp (l.getD i default)) := by
  refine Zei tok Tryz.func78 rfl (by decide +kernel) (Nat.le_of_ble_eq_true rfl) ?_
  refine Zas 0 (fun hl => ?_)
  have hl0 : l.length ≤ maxL := hl.1
  ((repeat' first | refine Zac ?_ | (refine Zab tok (by rfl) ?_; conv => whnf) | (refine Zag ?_; conv => whnf) | (refine Zaj ?_; conv => whnf) | refine Zaf rfl (fun hb => ?_) (fun hb => ?_) | (refine @And.intro (Zaa _ _ _ _) _ ?_ ?_; rotate_left; (conv => whnf); rotate_right) | (refine fun (bn : Bool) (hbn : (0 < _ → bn = _)) => ?_; conv => whnf)); all_goals (try ((guard_target = Zaa _ _ _ _); refine Zae ?_; (first | refine And.intro srcObl_sl ?_ | skip); (all_goals (try simp only [Zaa, kzz, kz11, kz12, maxL, Zad] at *)); all_goals omega)))
  · refine ⟨_, rfl, RelO.nsl' ?_⟩
    rcases Nat.eq_zero_or_pos l.length with h | h
    · exact h
    · rw [hbn h] at hb; cases hb
  · refine ⟨_, rfl, RelO.rs rfl (Nat.le_refl _) (by simp) (fun i hi => ?_)⟩
    show appR 0 (Zfm 5 []) (fun i => Zbp (l.getD i default)) i = _
    exact appR_zero
def famG (l : List Zaw) (k : Nat) : Zan := famC 945 (fun z q => bif Nat.beq z 0 && Nat.blt q k then some (regB (l.getD q default).regs) else none)
theorem famG_some {l : List Zaw} {k : Nat} {j : Dv.Id} {b : Zam} (h : famG l k j = some b) : ∃ q, j = (945, 0, q) ∧ q < k ∧ b = regB (l.getD q default).regs := by
  obtain ⟨z, q, rfl, h3⟩ := famC_some h
  cases e : (Nat.beq z 0 && Nat.blt q k) with
  | false => rw [e] at h3; cases h3
  | true =>
    rw [e] at h3
    rw [Bool.and_eq_true, Nat.blt_eq] at e
    have hz : z = 0 := Nat.eq_of_beq_eq_true e.1
    subst hz
    exact ⟨q, rfl, e.2, (Option.some.inj h3).symm⟩
theorem famG_at {l : List Zaw} {k q : Nat} (h : q < k) : famG l k (945, 0, q) = some (regB (l.getD q default).regs) := by
  show (bif Nat.beq 0 0 && Nat.blt q k then some (regB (l.getD q default).regs) else none) = _
  rw [show (Nat.beq 0 0 && Nat.blt q k) = true from by rw [Bool.and_eq_true, Nat.blt_eq]; exact ⟨rfl, h⟩]; rfl
def cpR (l : List Zaw) (i q : Nat) : AV := sel (Nat.blt q i) (.rs (945, 0, q) 1 0 (l.getD q default).regs.length) (u16s (l.getD q default).regs)
def cpF (l : List Zaw) (i q : Nat) : List AV := [iv (l.getD q default).f, iv (l.getD q default).block, iv (l.getD q default).at_, cpR l i q, .int .u16 (l.getD q default).fly]
def rowCp (l : List Zaw) (i : Nat) : Zam := .row false 5 l.length (cpF l i)
def cpB (F E : Dv.Id) (s : Mach) : List AV := [.rs F 5 0 s.stack.length, cw s.cells 0, cw s.cells 1, cw s.cells 2, cw s.cells 3, cw s.cells 4, cw s.cells 5, cw s.cells 6, cw s.cells 7, cw s.cells 8, cw s.cells 9, cw s.cells 10, cw s.cells 11, cw s.cells 12, cw s.cells 13, cw s.cells 14, cw s.cells 15, u16s s.inputs, .rs E 1 0 s.events.length, iv s.done, .int .u16 s.value]
def cpH (s : Mach) : Zan := orH (Zaz [(jN, rowCp s.stack s.stack.length), (jE, evB s.events)]) (famG s.stack s.stack.length)
theorem GVs_cpB {src : Dv.Id → Option Dv.Id} {h h' : Zan} {F F' E E' : Dv.Id} {s : Mach} (h1 : GV src h h' (.rs F 5 0 s.stack.length) (.rs F' 5 0 s.stack.length)) (h2 : GV src h h' (.rs E 1 0 s.events.length) (.rs E' 1 0 s.events.length)) : GVs src h h' (cpB F E s) (cpB F' E' s) :=
  .cons h1 (.cons (.imm rfl) (.cons (.imm rfl) (.cons (.imm rfl) (.cons (.imm rfl) (.cons (.imm rfl) (.cons (.imm rfl) (.cons (.imm rfl) (.cons (.imm rfl) (.cons (.imm rfl) (.cons (.imm rfl) (.cons (.imm rfl) (.cons (.imm rfl) (.cons (.imm rfl) (.cons (.imm rfl) (.cons (.imm rfl) (.cons (.imm rfl) (.cons (.imm rfl) (.cons h2 (.cons (.imm rfl) (.cons (.imm rfl) .nil))))))))))))))))))))
theorem srcG_eq {k k' : Nat} {o : Option Dv.Id} : srcL [((945, k', k), o)] (945, k', k) = o := by
  show (bif idEq (945, k', k) (945, k', k) then _ else _) = _
  rw [Za3.2 rfl]; rfl
theorem srcG_ne {k q : Nat} {o : Option Dv.Id} (h : q ≠ k) : srcL [((945, 0, k), o)] (945, 0, q) = some (945, 0, q) := by
  show (bif idEq (945, 0, k) (945, 0, q) then _ else _) = _
  rw [Zbq.2 (fun e => h (congrArg (fun x => x.2.2) e).symm)]; rfl
set_option maxHeartbeats 4000000 in
theorem c_mCopyH (s : Mach) : HF Tryz.prog 43 [.agg (Zcf s)] (.agg (cpB jN jE s)) (cpH s) := by
  refine Zf1 tok Tryz.func43 rfl (by decide +kernel) (Nat.le_of_ble_eq_true rfl) ?_
  refine Zas 0 (fun hl => ?_)
  have hl0 : s.stack.length ≤ maxL := hl.1.1
  have hmx : maxL = 4294967296 := rfl
  clear hl
  (repeat' ((fail_if_success (show AWp _ _ _ (Code.region 1 _ _) _ _)); first | refine Zac ?_ | (refine Zab tok (by rfl) ?_; conv => whnf)))
  refine Zel tok mix (by rfl) [0, 1, 3, 4, 6, 7, 9, 11, 13] 40 (by rfl) (by rfl) (by rfl) ?_
  conv => whnf
  (repeat' first
    | (refine @And.intro (Zaa _ _ _ _) _ ?_ ?_; rotate_left; (conv => whnf); rotate_right)
    | (guard_target = And _ _; refine @And.intro (gOp _ _ _ _ _ _ _ _ _) _ (by (conv => whnf); exact ⟨rfl, rfl⟩) ?_; conv => whnf)
    | (guard_target = And _ _; refine And.intro ?_ ?_ <;> (conv => whnf))
    | (refine .inl ⟨_, _, _, uG (QC.fo (rd := []) (c_CloneFrames s.stack) (Ress.imms rfl) (.inl rfl) rfl), ?_⟩; (conv => whnf))
    | (refine .inl ⟨_, _, _, uG (QC.fo (rd := []) (Zfz s.inputs) (Ress.imms rfl) (.inl rfl) rfl), ?_⟩; (conv => whnf))
    | (refine .inl ⟨_, _, _, uG (QC.fo (rd := []) (c_CloneInts s.events) (Ress.imms rfl) (.inl rfl) rfl), ?_⟩; (conv => whnf)))
  all_goals (try ((guard_target = Zaa _ _ _ _); skip; all_goals omega))
  (repeat' ((fail_if_success (show AWp _ _ _ (Code.region 3 _ _) _ _)); first | refine Zac ?_ | (refine Zab tok (by rfl) ?_; conv => whnf) | refine Zai ?_))
  refine Zay (fun k : Nat => mkF [(1, .bp (1, 0, 0) 0), (2, .bp (2, 0, 0) 0), (18, iv s.stack.length), (19, iv k)] [((1, 0, 0), .row false 21 1 (fun _ => cpB (6, 0, 0) (12, 0, 0) s)), ((2, 0, 0), Zba zMach), ((6, 0, 0), rowCp s.stack k), ((12, 0, 0), evB s.events)] (famG s.stack k)) (fun k => k ≤ s.stack.length) (fun k => s.stack.length - k) 0 (Nat.zero_le _) ?_ ?_
  · refine Weak.fam [] rfl (fun i hi => by cases hi) ?_ ?_ (fun j b e => by obtain ⟨q, _, h, _⟩ := famG_some e; omega) (fun i hi => by cases hi)
    · (repeat' first | exact TLg.nil | refine TLg.cons (GV.imm rfl) ?_ | refine TLg.cons (GV.bp rfl rfl) ?_)
      all_goals rfl
    · refine .old rfl rfl (GB.one ?_ (fun e => by cases e)) (.old rfl rfl (GB.one (GVs.imm rfl) (fun _ => rfl)) (.old rfl rfl (GB.row (Nat.le_refl _) (fun q hq => ?_) (fun e => by cases e)) (.old rfl rfl (Zd7 _) .nil)))
      · refine .cons (.rs rfl rfl rfl rfl) (.cons (.imm rfl) (.cons (.imm rfl) (.cons (.imm rfl) (.cons (.imm rfl) (.cons (.imm rfl) (.cons (.imm rfl) (.cons (.imm rfl) (.cons (.imm rfl) (.cons (.imm rfl) (.cons (.imm rfl) (.cons (.imm rfl) (.cons (.imm rfl) (.cons (.imm rfl) (.cons (.imm rfl) (.cons (.imm rfl) (.cons (.imm rfl) (.cons (GV.frz (fun j hj e => ?_) rfl (by omega) rfl (fun x hx => by rw [Nat.zero_add x]; exact .cons (.imm rfl) .nil) (fun x hx => rfl)) (.cons (.rs rfl rfl rfl rfl) (.cons (.imm rfl) (.cons (.imm rfl) .nil))))))))))))))))))))
        have e' : j = (9, 0, 0) := Option.some.inj e
        subst e'
        cases hj
      · exact .cons (.imm rfl) (.cons (.imm rfl) (.cons (.imm rfl) (.cons (.cc rfl (Zdk (Nat.zero_le _)) (.imm rfl)) (.cons (.imm rfl) .nil))))
  intro k hk
  (repeat' ((fail_if_success (show AWp _ _ _ (Code.region 5 _ _) _ _)); (fail_if_success (show AWp _ _ _ (Code.region 7 _ _) _ _)); first | refine Zac ?_ | (refine Zab tok (by rfl) ?_; conv => whnf) | refine Zai ?_ | (refine Zag ?_; conv => whnf) | (refine Za1 ?_; conv => whnf) | refine Zaf rfl (fun hb => ?_) (fun hb => ?_)))
  · have hkl : k < s.stack.length := by simp only [decide_eq_true_eq] at hb; omega
    clear hb
    have hsel : cpR s.stack k (0 + k) = u16s (s.stack.getD k default).regs := by rw [Nat.zero_add]; exact Zdk (Nat.le_refl _)
    refine Zel tok mix (by rfl) [0, 1, 2, 3, 4, 5, 6, 7, 10, 11] 30 (by rfl) (by rfl) (by rfl) ?_
    conv => whnf
    (repeat' first
      | (refine fAV (x := cpR s.stack k (0 + k)) (y := u16s (s.stack.getD k default).regs) hsel ?_; (conv => whnf))
      | (refine @And.intro (Zaa _ _ _ _) _ ?_ ?_; rotate_left; (conv => whnf); rotate_right)
      | (guard_target = And _ _; refine @And.intro (gOp _ _ _ _ _ _ _ _ _) _ (by (conv => whnf); first | exact ⟨rfl, rfl⟩ | (refine fAV (x := cpR s.stack k (0 + k)) (y := u16s (s.stack.getD k default).regs) hsel ?_; (conv => whnf); exact ⟨rfl, rfl⟩)) ?_; conv => whnf)
      | (guard_target = And _ _; refine And.intro ?_ ?_ <;> (conv => whnf))
      | (refine .inl ⟨_, _, _, uG (QC.fo (rd := []) (Zfz (s.stack.getD k default).regs) (Ress.imms rfl) (.inl rfl) rfl), ?_⟩; (conv => whnf)))
    all_goals (try rfl)
    all_goals (try ((guard_target = Zaa _ _ _ _); refine Zae ?_; (all_goals (try simp only [Zaa, kzz, kz11, kz12, maxL, Zad] at *)); all_goals omega))
    (repeat' (refine Zab tok (by rfl) ?_; conv => whnf))
    refine ⟨k + 1, hkl, by omega, ?_⟩
    refine Weak.fam [((945, 0, k), some (31, 0, 0))] rfl (fun c hc => by simp only [tgts, List.mem_singleton] at hc; subst hc; exact .inl rfl) ?_ ?_ (fun j b e => ?_) (fun i hi => by cases hi)
    · (repeat' first | exact TLg.nil | refine TLg.cons (GV.imm rfl) ?_ | refine TLg.cons (GV.bp rfl rfl) ?_ | refine TLg.cons (GV.int ?_) ?_)
      all_goals first | rfl | (simp (disch := omega) only [Zal]; omega)
    · refine .old rfl rfl (GB.one (GVs_cpB (.rs rfl rfl rfl rfl) (.rs rfl rfl rfl rfl)) (fun e => by cases e)) (.old rfl rfl (GB.one (GVs.imm rfl) (fun _ => rfl)) (.old rfl rfl (GB.row (Nat.le_refl _) (fun q hq => ?_) (fun e => by cases e)) (.old rfl rfl (Zd7 _) .nil)))
      show GVs _ _ _ (updR (cpF s.stack k) (0 + k) [iv (s.stack.getD (0 + k) default).f, iv (s.stack.getD (0 + k) default).block, iv (s.stack.getD (0 + k) default).at_, .rs (31, 0, 0) 1 0 (s.stack.getD k default).regs.length, .int .u16 (s.stack.getD (0 + k) default).fly] q) (cpF s.stack (k + 1) q)
      rw [Nat.zero_add k]
      by_cases e : q = k
      · subst e
        rw [Zdi]
        exact .cons (.imm rfl) (.cons (.imm rfl) (.cons (.imm rfl) (.cons (.cc rfl (Zcx (Nat.lt_succ_self _)) (.rs (famG_at (Nat.lt_succ_self _)) srcG_eq rfl rfl)) (.cons (.imm rfl) .nil))))
      · rw [Zcv (Ne.symm e)]
        refine .cons (.imm rfl) (.cons (.imm rfl) (.cons (.imm rfl) (.cons ?_ (.cons (.imm rfl) .nil))))
        by_cases e2 : q < k
        · exact .cc (Zcx e2) (Zcx (Nat.lt_succ_of_lt e2)) (.rs (famG_at (Nat.lt_succ_of_lt e2)) (srcG_ne e) rfl rfl)
        · exact .cc (Zdk (by omega)) (Zdk (by omega)) (.imm rfl)
    · obtain ⟨q, rfl, hq, rfl⟩ := famG_some e
      by_cases e : q = k
      · subst e
        exact HOk.mk srcG_eq rfl (Zbs _)
      · exact HOk.mk (srcG_ne e) (show famG s.stack k (945, 0, q) = _ from famG_at (by omega)) (Zbs _)
  · have hkl : k = s.stack.length := by simp only [decide_eq_false_iff_not] at hb; omega
    clear hb
    subst hkl
    (repeat' first | (refine Zab tok (by rfl) ?_; conv => whnf) | (refine Zaj ?_; conv => whnf))
    refine ⟨_, srcL [(jN, some (6, 0, 0)), (jE, some (12, 0, 0))], rfl, ?_⟩
    rw [← and_assoc]
    refine ⟨leaveR [(jN, some (6, 0, 0)), (jE, some (12, 0, 0))] rfl (fun c hc => ?_) (.old rfl rfl (GB.row (Nat.le_refl _) (fun q hq => ?_) (fun e => by cases e)) (.old rfl rfl (Zd7 _) .nil)) (fun j b e => ?_), .agg (GVs_cpB (.rs rfl rfl rfl rfl) (.rs rfl rfl rfl rfl))⟩
    · rcases List.mem_cons.1 (show c ∈ [(6, 0, 0), (12, 0, 0)] from hc) with rfl | hc
      · exact .inl rfl
      · rw [List.mem_singleton.1 hc]; exact .inl rfl
    · exact .cons (.imm rfl) (.cons (.imm rfl) (.cons (.imm rfl) (.cons (.cc (Zcx hq) (Zcx hq) (.rs (famG_at hq) rfl rfl rfl)) (.cons (.imm rfl) .nil))))
    · obtain ⟨q, rfl, hq, rfl⟩ := famG_some e
      exact HOk.mk rfl (show famG s.stack s.stack.length (945, 0, q) = _ from famG_at hq) (Zbs _)
end Go.Proofs.YtoelbgjpmpoolaaGreat
namespace Go.Proofs.YtoelbgjpmpoolaaGreat
open Go Dv
set_option maxRecDepth 10000
set_option linter.unusedSimpArgs false
abbrev noH0 : Zan := fun _ => none
theorem GV.rel {src : Dv.Id → Option Dv.Id} {h : Zan} {x y : AV} (g : GV src h noH0 x y) : Rel h x y := fun X ι w v s hv => by
  have h1 := g X ι w v s hv
  have e : plc src noH0 ι = ι0 := funext fun j => rfl
  rw [e] at h1
  exact Zbo keep_out y v (Sub.refl _) h1
theorem frz_frs {src : Dv.Id → Option Dv.Id} {h h' : Zan} {F : Dv.Id} {l : List Zaw} {imm : Bool} {f : Nat → List AV} {R : Nat → Dv.Id} (hd : ∀ j, (h' j).isSome = true → src j ≠ some F) (hr : ∀ q, q < l.length → ∀ j, (h' j).isSome = true → src j ≠ some (R q)) (hF : h F = some (.row imm 5 l.length f))
    (hf : ∀ q, q < l.length → ∃ y, f q = [iv (l.getD q default).f, iv (l.getD q default).block, iv (l.getD q default).at_, y, .int .u16 (l.getD q default).fly] ∧ y = .rs (R q) 1 0 (l.getD q default).regs.length ∧ h (R q) = some (regB (l.getD q default).regs)) : GV src h h' (.rs F 5 0 l.length) (frs l) := by
  refine GV.frz hd hF (by omega) rfl (fun x hx => ?_) (fun x hx => rfl)
  obtain ⟨y, e1, e2, e3⟩ := hf x hx
  rw [Nat.zero_add x, e1]
  refine .cons (.imm rfl) (.cons (.imm rfl) (.cons (.imm rfl) (.cons ?_ (.cons (.imm rfl) .nil))))
  rw [e2]
  exact GV.frz (hr x hx) e3 (by omega) rfl (fun z hz => by rw [Nat.zero_add z]; exact .cons (.imm rfl) .nil) (fun z hz => rfl)
theorem c_mCopy (s : Mach) : FC Tryz.prog 43 [.agg (Zcf s)] (.agg (Zcf s)) := by
  refine HF.fc (c_mCopyH s) (GV.rel (src := fun _ => none) (.agg ?_))
  refine .cons (frz_frs (R := fun q => (945, 0, q)) (fun _ h => by cases h) (fun _ _ _ h => by cases h) rfl (fun q hq => ⟨_, rfl, Zcx hq, famG_at hq⟩)) (.cons (.imm rfl) (.cons (.imm rfl) (.cons (.imm rfl) (.cons (.imm rfl) (.cons (.imm rfl) (.cons (.imm rfl) (.cons (.imm rfl) (.cons (.imm rfl) (.cons (.imm rfl) (.cons (.imm rfl) (.cons (.imm rfl) (.cons (.imm rfl) (.cons (.imm rfl) (.cons (.imm rfl) (.cons (.imm rfl) (.cons (.imm rfl) (.cons (.imm rfl) (.cons (GV.frz (fun _ h => by cases h) rfl (by omega) rfl (fun z hz => by rw [Nat.zero_add z]; exact .cons (.imm rfl) .nil) (fun z hz => rfl)) (.cons (.imm rfl) (.cons (.imm rfl) .nil))))))))))))))))))))
end Go.Proofs.YtoelbgjpmpoolaaGreat
namespace Go.Proofs.YtoelbgjpmpoolaaGreat
open Go Dv
set_option maxRecDepth 10000
set_option linter.unusedSimpArgs false
theorem c_mStepN {m : Zak} {s : Mach} (hr : Zbg m = true) (h : OkM m s) (hev : s.events.length < 1000000) (hd : s.done = 0) : HG Tryz.prog [jB] 64 (memN m s) [.bp jB 0] (.tup []) (mem m (stepM m s)) :=
  renN (c_mStepOk hr h hev hd) (.cons (.bp rfl rfl) .nil)
def regN' (l : List Zaw) (q : Nat) : Dv.Id := bif Nat.blt q (l.length - 1) then (945, 0, q) else jT
theorem GVs_frzM {src : Dv.Id → Option Dv.Id} {h h' : Zan} {m : Zak} {s : Mach} {F : Dv.Id} (hd : ∀ j i, (h' j).isSome = true → src j = some i → i ≠ F ∧ i ≠ jE ∧ i ≠ jT ∧ ∀ q, i ≠ (945, 0, q)) (h1 : h F = some (Zc2 s.stack)) (h2 : h jE = some (evB s.events)) (h3 : h jT = some (regB (topF s).regs)) (h4 : ∀ q, q < s.stack.length - 1 → h (945, 0, q) = some (regB (s.stack.getD q default).regs)) :
    GVs src h h' (macX F m s) (Zcf s ++ [funcss m.funcs]) := by
  refine .cons ?_ (.cons (.imm rfl) (.cons (.imm rfl) (.cons (.imm rfl) (.cons (.imm rfl) (.cons (.imm rfl) (.cons (.imm rfl) (.cons (.imm rfl) (.cons (.imm rfl) (.cons (.imm rfl) (.cons (.imm rfl) (.cons (.imm rfl) (.cons (.imm rfl) (.cons (.imm rfl) (.cons (.imm rfl) (.cons (.imm rfl) (.cons (.imm rfl) (.cons (.imm rfl) (.cons (GV.frz (fun j hj e => (hd j _ hj e).2.1 rfl) h2 (by omega) rfl (fun z hz => by rw [Nat.zero_add z]; exact .cons (.imm rfl) .nil) (fun z hz => rfl)) (.cons (.imm rfl) (.cons (.imm rfl) (.cons (.imm rfl) .nil)))))))))))))))))))))
  refine frz_frs (R := regN' s.stack) (fun j hj e => (hd j _ hj e).1 rfl) (fun q hq j hj e => ?_) h1 (fun q hq => ⟨_, rfl, ?_, ?_⟩)
  · have := hd j _ hj e
    unfold regN' at this
    cases e2 : Nat.blt q (s.stack.length - 1) with
    | true => rw [e2] at this; exact this.2.2.2 q rfl
    | false => rw [e2] at this; exact this.2.2.1 rfl
  · unfold Zbc regN'
    by_cases e : q < s.stack.length - 1
    · rw [Zcx e, show Nat.blt q (s.stack.length - 1) = true from by rw [Nat.blt_eq]; exact e]; rfl
    · rw [Zdk (by omega), show Nat.blt q (s.stack.length - 1) = false from by rw [Bool.eq_false_iff]; intro h; rw [Nat.blt_eq] at h; omega]; rfl
  · unfold regN'
    by_cases e : q < s.stack.length - 1
    · rw [show Nat.blt q (s.stack.length - 1) = true from by rw [Nat.blt_eq]; exact e]
      exact h4 q e
    · rw [show Nat.blt q (s.stack.length - 1) = false from by rw [Bool.eq_false_iff]; intro h; rw [Nat.blt_eq] at h; omega]
      show h jT = _
      rw [h3]; unfold topF; rw [show s.stack.length - 1 = q by omega]
theorem newL_names {m : Zak} {inputs : List Int} {i : Dv.Id} (h : (orH (Zaz (newL m inputs)) noH i).isSome = true) : i = jN ∨ i = jT := by
  cases e1 : idEq jN i with
  | true => exact .inl (Za3.1 e1).symm
  | false =>
    cases e2 : idEq jT i with
    | true => exact .inr (Za3.1 e2).symm
    | false =>
      unfold orH newL at h
      simp only [Zaz, e1, e2, cond_false, noH] at h
      cases h
set_option maxHeartbeats 4000000 in
theorem c_mRun (m : Zak) (inputs : List Int) (n : Int) (hr : Zbg m = true) (hi : (∀ x ∈ inputs, 0 ≤ x ∧ x ≤ 65535) ∧ inputs.length < 1000000) (hn : n < 900000) : FC Tryz.prog 28 [.agg (Zbj m), u16s inputs, iv n] (.tup [.agg (Zcf (runM m inputs n.toNat)), iv 0]) := by
  refine Zav tok Tryz.func28 rfl (by decide +kernel) (Nat.le_of_ble_eq_true rfl) ?_
  have hmx : maxL = 4294967296 := rfl
  (repeat' first | refine Zac ?_ | (refine Zab tok (by rfl) ?_; conv => whnf))
  refine .inr ⟨_, _, _, uG (QH.ofF (c_mNew m inputs hr) rfl (fun i hi => ?_)), ?_⟩
  · rcases newL_names hi with rfl | rfl <;> rfl
  conv => whnf
  (repeat' ((fail_if_success (show AWp _ _ _ (Code.region 3 _ _) _ _)); (fail_if_success (show AWp _ _ _ (Code.region 4 _ _) _ _)); first | refine Zac ?_ | (refine Zab tok (by rfl) ?_; conv => whnf) | (refine Zag ?_; conv => whnf) | refine Zaf rfl (fun hb => ?_) (fun hb => ?_)))
  · exfalso
    have : ¬ (1048576 : Int) < n := by omega
    simp [this] at hb
  clear hb
  (repeat' ((fail_if_success (show AWp _ _ _ (Code.region 5 _ _) _ _)); first | refine Zac ?_ | (refine Zab tok (by rfl) ?_; conv => whnf)))
  refine AWp_max tok 1 rfl (by rfl) rfl rfl rfl rfl rfl ?_; conv => whnf
  refine ⟨_, _, _, rfl, rfl, rfl, ?_⟩
  conv => whnf
  (repeat' ((fail_if_success (show AWp _ _ _ (Code.region 6 _ _) _ _)); refine Zai ?_))
  refine Zay (fun i : Nat => mkF [(2, iv n), (3, .bp (3, 0, 0) 0), (6, .bp (6, 0, 0) 0), (10, .bp jB 0), (29, iv n.toNat), (30, iv i)] ([((3, 0, 0), Zba (Zbj m)), ((6, 0, 0), Zba zMach)] ++ memNL m (runM m inputs i)) (famW (runM m inputs i).stack)) (fun i => i ≤ n.toNat) (fun i => n.toNat - i) 0 (Nat.zero_le _) ?_ ?_
  · refine Weak.fam (L := []) (tl := [(2, iv n), (3, .bp (3, 0, 0) 0), (6, .bp (6, 0, 0) 0), (10, .bp jB 0), (29, iv n.toNat), (30, iv 0)]) (hl := [((3, 0, 0), Zba (Zbj m)), ((6, 0, 0), Zba zMach)] ++ memNL m (runM m inputs 0)) (F := famW (runM m inputs 0).stack) [(jB, some (27, 0, 0)), (jE, none)] rfl (fun c hc => ?_) ?_ ?_ ?_ (fun i hi => by cases hi)
    · rw [List.mem_singleton.1 (show c ∈ [(27, 0, 0)] from hc)]; exact .inl rfl
    · exact .cons (.imm rfl) (.cons (.bp rfl rfl) (.cons (.bp rfl rfl) (.cons (.bp rfl rfl) (.cons (.int (by omega)) (.cons (.imm rfl) .nil)))))
    · refine .old rfl rfl (GB.one (GVs.imm rfl) (fun _ => rfl)) (.old rfl rfl (GB.one (GVs.imm rfl) (fun _ => rfl)) (.old rfl rfl (GB.one ?_ (fun e => by cases e)) (.old rfl rfl (GB_fr (fun q hq => by have : q < 1 - 1 := hq; omega) rfl (fun q hq => by have : q < 1 - 1 := hq; omega) rfl) (.new rfl (.old rfl rfl (Zbs _) .nil)))))
      exact .cons (.rs rfl rfl rfl rfl) (.cons (.imm rfl) (.cons (.imm rfl) (.cons (.imm rfl) (.cons (.imm rfl) (.cons (.imm rfl) (.cons (.imm rfl) (.cons (.imm rfl) (.cons (.imm rfl) (.cons (.imm rfl) (.cons (.imm rfl) (.cons (.imm rfl) (.cons (.imm rfl) (.cons (.imm rfl) (.cons (.imm rfl) (.cons (.imm rfl) (.cons (.imm rfl) (.cons (.imm rfl) (.cons (.nil rfl rfl rfl) (.cons (.imm rfl) (.cons (.imm rfl) (.cons (.imm rfl) .nil)))))))))))))))))))))
    · exact fun j b e => by
        obtain ⟨q, _, hq, _⟩ := famW_some e
        have : q < 1 - 1 := hq
        omega
  intro i hi2
  have hok := okM_run hr hi i
  have hev := ev_run (m := m) (inputs := inputs) i
  generalize hs : runM m inputs i = s at hok hev
  (repeat' ((fail_if_success (show AWp _ _ _ (Code.region 8 _ _) _ _)); (fail_if_success (show AWp _ _ _ (Code.region 10 _ _) _ _)); first | refine Zac ?_ | (refine Zab tok (by rfl) ?_; conv => whnf) | refine Zai ?_ | (refine Zag ?_; conv => whnf) | (refine Za1 ?_; conv => whnf) | refine Zaf rfl (fun hb => ?_) (fun hb => ?_)))
  · rename_i hlt
    have hd : ¬ s.done = 0 := by simpa using hb
    have he : runM m inputs n.toNat = s := by
      have := run_done (m := m) (inputs := inputs) (i := i) (by rw [hs]; exact hd) (n.toNat - i)
      rw [show i + (n.toNat - i) = n.toNat by omega, hs] at this
      exact this
    rw [he]
    clear hb
    refine Za0 (Weak.fam (L := []) (tl := [(3, .bp (3, 0, 0) 0), (6, .bp (6, 0, 0) 0), (10, .bp jB 0)]) (hl := [((3, 0, 0), Zba (Zbj m)), ((6, 0, 0), Zba zMach)] ++ [(jB, .row false 22 1 (fun _ => Zcf s ++ [funcss m.funcs]))]) (F := noH) [] rfl (fun c hc => by cases hc) ?_ ?_ noF (fun i hi => by cases hi)) ?_
    · (repeat' first | exact TLg.nil | refine TLg.cons (GV.bp rfl rfl) ?_)
    · refine .old rfl rfl (GB.one (GVs.imm rfl) (fun _ => rfl)) (.old rfl rfl (GB.one (GVs.imm rfl) (fun _ => rfl)) (.old rfl rfl (GB.one (GVs_frzM (fun j i hj e => ?_) rfl rfl rfl (fun q hq => ?_)) (fun e => by cases e)) .nil))
      · have e' : j = i := Option.some.inj e
        subst e'
        exact ⟨(fun e2 => by subst e2; cases hj), (fun e2 => by subst e2; cases hj), (fun e2 => by subst e2; cases hj), (fun q e2 => by subst e2; cases hj)⟩
      · show famW s.stack (945, 0, q) = _
        exact Za2 hq
    (repeat' (refine Zab tok (by rfl) ?_; conv => whnf))
    refine .inl ⟨_, _, _, uG (QC.fc (c_mCopy s) rfl), ?_⟩
    conv => whnf
    (repeat' (refine Zaj ?_; conv => whnf))
    exact ⟨_, rfl, Rel.tup (.cons (Rel.agg (Rels.imm rfl)) (.cons (Rel.int rfl) .nil))⟩
  · rename_i hlt
    have hlt : i < n.toNat := by simp only [decide_eq_true_eq] at hlt; omega
    have hd : s.done = 0 := by simpa using hb
    clear hb
    (repeat' (refine Zab tok (by rfl) ?_; conv => whnf))
    refine .inr ⟨_, _, _, uG (QH.ddM (by simp) (c_mStepN hr hok (by omega) hd) hok.len (memN_sub rfl rfl rfl rfl (fun _ => rfl)) rfl rfl (fun q hq => Zao hq)), ?_⟩
    conv => whnf
    (repeat' (refine Zab tok (by rfl) ?_; conv => whnf))
    refine ⟨i + 1, hlt, by omega, ?_⟩
    have hs1 : runM m inputs (i + 1) = stepM m s := by show stepM m (runM m inputs i) = _; rw [hs]
    rw [hs1]
    refine Weak.fam (L := []) (tl := [(2, iv n), (3, .bp (3, 0, 0) 0), (6, .bp (6, 0, 0) 0), (10, .bp jB 0), (29, iv n.toNat), (30, iv (i + 1))]) (hl := [((3, 0, 0), Zba (Zbj m)), ((6, 0, 0), Zba zMach)] ++ memNL m (stepM m s)) (F := famW (stepM m s).stack) [(jN, some jF)] rfl (fun c hc => ?_) ?_ ?_ ?_ (fun i hi => by cases hi)
    · rw [List.mem_singleton.1 (show c ∈ [jF] from hc)]; exact .inl rfl
    · exact .cons (.imm rfl) (.cons (.bp rfl rfl) (.cons (.bp rfl rfl) (.cons (.bp rfl rfl) (.cons (.imm rfl) (.cons (.int (Zal (by omega) (by omega))) .nil)))))
    · refine .old rfl rfl (GB.one (GVs.imm rfl) (fun _ => rfl)) (.old rfl rfl (GB.one (GVs.imm rfl) (fun _ => rfl)) ?_)
      exact HLs_memN rfl rfl rfl rfl (fun _ => rfl) rfl rfl rfl rfl rfl rfl rfl rfl (fun q hq => Zcm hq)
    · refine Zft (fun _ _ => rfl) (fun q hq => ?_)
      exact Za9 hq
  · have he : runM m inputs n.toNat = s := by
      have : i = n.toNat := by simp only [decide_eq_false_iff_not] at hb; omega
      rw [← this, hs]
    rw [he]
    clear hb
    refine Za0 (Weak.fam (L := []) (tl := [(3, .bp (3, 0, 0) 0), (6, .bp (6, 0, 0) 0), (10, .bp jB 0)]) (hl := [((3, 0, 0), Zba (Zbj m)), ((6, 0, 0), Zba zMach)] ++ [(jB, .row false 22 1 (fun _ => Zcf s ++ [funcss m.funcs]))]) (F := noH) [] rfl (fun c hc => by cases hc) ?_ ?_ noF (fun i hi => by cases hi)) ?_
    · (repeat' first | exact TLg.nil | refine TLg.cons (GV.bp rfl rfl) ?_)
    · refine .old rfl rfl (GB.one (GVs.imm rfl) (fun _ => rfl)) (.old rfl rfl (GB.one (GVs.imm rfl) (fun _ => rfl)) (.old rfl rfl (GB.one (GVs_frzM (fun j i hj e => ?_) rfl rfl rfl (fun q hq => ?_)) (fun e => by cases e)) .nil))
      · have e' : j = i := Option.some.inj e
        subst e'
        exact ⟨(fun e2 => by subst e2; cases hj), (fun e2 => by subst e2; cases hj), (fun e2 => by subst e2; cases hj), (fun q e2 => by subst e2; cases hj)⟩
      · show famW s.stack (945, 0, q) = _
        exact Za2 hq
    (repeat' (refine Zab tok (by rfl) ?_; conv => whnf))
    refine .inl ⟨_, _, _, uG (QC.fc (c_mCopy s) rfl), ?_⟩
    conv => whnf
    (repeat' (refine Zaj ?_; conv => whnf))
    exact ⟨_, rfl, Rel.tup (.cons (Rel.agg (Rels.imm rfl)) (.cons (Rel.int rfl) .nil))⟩
end Go.Proofs.YtoelbgjpmpoolaaGreat
namespace Go.Proofs.YtoelbgjpmpoolaaGreat
open Go Dv
set_option maxRecDepth 10000
set_option linter.unusedSimpArgs false
theorem c_WordsEq (l : List Int) : FC Tryz.prog 65 [u16s l, u16s l] (.bool true) := by
  refine Zav tok Tryz.func65 rfl (by decide +kernel) (Nat.le_of_ble_eq_true rfl) ?_
  refine Zas 0 (fun hl => ?_)
  have hl0 : l.length ≤ maxL := hl.1
  have hmx : maxL = 4294967296 := rfl
  clear hl
  (repeat' ((fail_if_success (show AWp _ _ _ (Code.region 2 _ _) _ _)); (fail_if_success (show AWp _ _ _ (Code.region 3 _ _) _ _)); first | refine Zac ?_ | (refine Zab tok (by rfl) ?_; conv => whnf) | (refine Zag ?_; conv => whnf) | refine Zaf rfl (fun hb => ?_) (fun hb => ?_)))
  · exfalso; simp at hb
  clear hb
  (repeat' ((fail_if_success (show AWp _ _ _ (Code.region 4 _ _) _ _)); first | (refine Zab tok (by rfl) ?_; conv => whnf) | refine Zai ?_))
  refine Zay (fun i : Nat => mkS [(0, u16s l), (1, u16s l), (5, iv i)] []) (fun i => i ≤ l.length) (fun i => l.length - i) 0 (Nat.zero_le _) ?_ ?_
  · refine Weak.list [] rfl (by rfl) ?_ .nil
    ((repeat' first | exact TLes.nil | refine TLes.cons (TLe.eq rfl) ?_); skip)
  intro i hi
  (repeat' ((fail_if_success (show AWp _ _ _ (Code.region 6 _ _) _ _)); (fail_if_success (show AWp _ _ _ (Code.region 8 _ _) _ _)); first | refine Zac ?_ | (refine Zab tok (by rfl) ?_; conv => whnf) | refine Zai ?_ | (refine Zag ?_; conv => whnf) | (refine Za1 ?_; conv => whnf) | refine Zaf rfl (fun hb => ?_) (fun hb => ?_)))
  · have hil : i < l.length := by simp only [decide_eq_true_eq] at hb; omega
    clear hb
    ((repeat' first | refine Zac ?_ | (refine Zab tok (by rfl) ?_; conv => whnf) | (refine Zap tok mix (by rfl) ?_; conv => whnf) | (refine Zag ?_; conv => whnf) | (refine Zaj ?_; conv => whnf) | refine Zaf rfl (fun hb => ?_) (fun hb => ?_) | (refine @And.intro (Zaa _ _ _ _) _ ?_ ?_; rotate_left; (conv => whnf); rotate_right)); all_goals (try ((guard_target = Zaa _ _ _ _); refine Zae ?_; (all_goals (try simp only [Zaa, kzz, kz11, kz12, maxL, Zad] at *)); all_goals omega)))
    · exfalso; simp at hb
    clear hb
    refine ⟨i + 1, hil, by omega, ?_⟩
    refine Weak.list [] rfl (by rfl) ?_ .nil
    ((repeat' first | exact TLes.nil | refine TLes.cons (TLe.eq rfl) ?_ | refine TLes.cons (TLe.int ?_) ?_); (all_goals first | ((try (simp only [Zaa, kzz, kz11, kz12, maxL, Zad] at *)); exact Zal (by omega) (by omega)) | skip))
  · (repeat' first | (refine Zab tok (by rfl) ?_; conv => whnf) | (refine Zaj ?_; conv => whnf))
    exact ⟨_, rfl, Rel.bool rfl⟩
theorem c_FrSameEq (f : Zaw) : FC Tryz.prog 66 [.agg (Zbp f), .agg (Zbp f)] (.bool true) := by
  refine Zav tok Tryz.func66 rfl (by decide +kernel) (Nat.le_of_ble_eq_true rfl) ?_
  refine Zas 0 (fun hl => ?_)
  have hl0 : f.regs.length ≤ maxL := hl.2.2.2.1.1
  have hmx : maxL = 4294967296 := rfl
  clear hl
  (repeat' ((fail_if_success (show AWp _ _ _ (Code.region 2 _ _) _ _)); (fail_if_success (show AWp _ _ _ (Code.region 3 _ _) _ _)); first | refine Zac ?_ | (refine Zab tok (by rfl) ?_; conv => whnf) | (refine Zag ?_; conv => whnf) | refine Zaf rfl (fun hb => ?_) (fun hb => ?_)))
  · exfalso; simp at hb
  clear hb
  (repeat' ((fail_if_success (show AWp _ _ _ (Code.region 4 _ _) _ _)); first | (refine Zab tok (by rfl) ?_; conv => whnf) | refine Zai ?_))
  refine Zay (fun i : Nat => mkS [(2, .bp (2, 0, 0) 0), (3, .bp (3, 0, 0) 0), (5, iv i)] [((2, 0, 0), Zba (Zbp f)), ((3, 0, 0), Zba (Zbp f))]) (fun i => i ≤ f.regs.length) (fun i => f.regs.length - i) 0 (Nat.zero_le _) ?_ ?_
  · refine Weak.list [((2, 0, 0), .old (2, 0, 0), Zba (Zbp f)), ((3, 0, 0), .old (3, 0, 0), Zba (Zbp f))] rfl (by rfl) ?_ (.old rfl (BLe.refl _) (.old rfl (BLe.refl _) .nil))
    ((repeat' first | exact TLes.nil | refine TLes.cons (TLe.eq rfl) ?_); skip)
  intro i hi
  (repeat' ((fail_if_success (show AWp _ _ _ (Code.region 6 _ _) _ _)); (fail_if_success (show AWp _ _ _ (Code.region 8 _ _) _ _)); first | refine Zac ?_ | (refine Zab tok (by rfl) ?_; conv => whnf) | refine Zai ?_ | (refine Zag ?_; conv => whnf) | (refine Za1 ?_; conv => whnf) | refine Zaf rfl (fun hb => ?_) (fun hb => ?_)))
  · have hil : i < f.regs.length := by simp only [decide_eq_true_eq] at hb; omega
    clear hb
    ((repeat' first | refine Zac ?_ | (refine Zab tok (by rfl) ?_; conv => whnf) | (refine Zap tok mix (by rfl) ?_; conv => whnf) | (refine Zag ?_; conv => whnf) | (refine Zaj ?_; conv => whnf) | refine Zaf rfl (fun hb => ?_) (fun hb => ?_) | (refine @And.intro (Zaa _ _ _ _) _ ?_ ?_; rotate_left; (conv => whnf); rotate_right)); all_goals (try ((guard_target = Zaa _ _ _ _); refine Zae ?_; (all_goals (try simp only [Zaa, kzz, kz11, kz12, maxL, Zad] at *)); all_goals omega)))
    · exfalso; simp at hb
    clear hb
    refine ⟨i + 1, hil, by omega, ?_⟩
    refine Weak.list [((2, 0, 0), .old (2, 0, 0), Zba (Zbp f)), ((3, 0, 0), .old (3, 0, 0), Zba (Zbp f))] rfl (by rfl) ?_ (.old rfl (BLe.refl _) (.old rfl (BLe.refl _) .nil))
    ((repeat' first | exact TLes.nil | refine TLes.cons (TLe.eq rfl) ?_ | refine TLes.cons (TLe.int ?_) ?_); (all_goals first | ((try (simp only [Zaa, kzz, kz11, kz12, maxL, Zad] at *)); exact Zal (by omega) (by omega)) | skip))
  · (repeat' first | (refine Zab tok (by rfl) ?_; conv => whnf) | (refine Zaj ?_; conv => whnf))
    exact ⟨_, rfl, Rel.bool rfl⟩
set_option maxHeartbeats 4000000 in
theorem c_MSameEq (s : Mach) : FC Tryz.prog 29 [.agg (Zcf s), .agg (Zcf s)] (.bool true) := by
  refine Zav tok Tryz.func29 rfl (by decide +kernel) (Nat.le_of_ble_eq_true rfl) ?_
  refine Zas 0 (fun hl => ?_)
  have hl0 : s.stack.length ≤ maxL := hl.1.1
  have hmx : maxL = 4294967296 := rfl
  clear hl
  have hI := c_rInts s.events s.events
  rw [decide_eq_true rfl] at hI
  (repeat' first | refine Zac ?_ | (refine Zab tok (by rfl) ?_; conv => whnf))
  refine .inl ⟨_, _, _, uG (QC.fc (c_WordsEq s.inputs) rfl), ?_⟩
  conv => whnf
  skip
  refine .inl ⟨_, _, _, uG (QC.fc hI rfl), ?_⟩
  conv => whnf
  (repeat' ((fail_if_success (show AWp _ _ _ (Code.region 2 _ _) _ _)); (fail_if_success (show AWp _ _ _ (Code.region 3 _ _) _ _)); first | refine Zac ?_ | (refine Zag ?_; conv => whnf) | refine Zaf rfl (fun hb => ?_) (fun hb => ?_)))
  · exfalso; simp at hb
  clear hb
  (repeat' ((fail_if_success (show AWp _ _ _ (Code.region 4 _ _) _ _)); first | (refine Zab tok (by rfl) ?_; conv => whnf) | refine Zai ?_))
  refine Zay (fun i : Nat => mkS [(2, .bp (2, 0, 0) 0), (3, .bp (3, 0, 0) 0), (5, iv i)] [((2, 0, 0), Zba (Zcf s)), ((3, 0, 0), Zba (Zcf s))]) (fun i => i ≤ s.stack.length) (fun i => s.stack.length - i) 0 (Nat.zero_le _) ?_ ?_
  · refine Weak.list [((2, 0, 0), .old (2, 0, 0), Zba (Zcf s)), ((3, 0, 0), .old (3, 0, 0), Zba (Zcf s))] rfl (by rfl) ?_ (.old rfl (BLe.refl _) (.old rfl (BLe.refl _) .nil))
    ((repeat' first | exact TLes.nil | refine TLes.cons (TLe.eq rfl) ?_); skip)
  intro i hi
  (repeat' ((fail_if_success (show AWp _ _ _ (Code.region 6 _ _) _ _)); (fail_if_success (show AWp _ _ _ (Code.region 8 _ _) _ _)); first | refine Zac ?_ | (refine Zab tok (by rfl) ?_; conv => whnf) | refine Zai ?_ | (refine Zag ?_; conv => whnf) | (refine Za1 ?_; conv => whnf) | refine Zaf rfl (fun hb => ?_) (fun hb => ?_)))
  · have hil : i < s.stack.length := by simp only [decide_eq_true_eq] at hb; omega
    clear hb
    ((repeat' first | (refine Zap tok mix (by rfl) ?_; conv => whnf) | (refine @And.intro (Zaa _ _ _ _) _ ?_ ?_; rotate_left; (conv => whnf); rotate_right)); all_goals (try ((guard_target = Zaa _ _ _ _); refine Zae ?_; (all_goals (try simp only [Zaa, kzz, kz11, kz12, maxL, Zad] at *)); all_goals omega)))
    refine .inl ⟨_, _, _, uG (QC.fc (c_FrSameEq (s.stack.getD i default)) rfl), ?_⟩
    conv => whnf
    (repeat' first | refine Zac ?_ | (refine Zab tok (by rfl) ?_; conv => whnf) | (refine Zag ?_; conv => whnf) | (refine Zaj ?_; conv => whnf) | refine Zaf rfl (fun hb => ?_) (fun hb => ?_))
    · exfalso; cases hb
    clear hb
    refine ⟨i + 1, hil, by omega, ?_⟩
    refine Weak.list [((2, 0, 0), .old (2, 0, 0), Zba (Zcf s)), ((3, 0, 0), .old (3, 0, 0), Zba (Zcf s))] rfl (by rfl) ?_ (.old rfl (BLe.refl _) (.old rfl (BLe.refl _) .nil))
    ((repeat' first | exact TLes.nil | refine TLes.cons (TLe.eq rfl) ?_ | refine TLes.cons (TLe.int ?_) ?_); (all_goals first | ((try (simp only [Zaa, kzz, kz11, kz12, maxL, Zad] at *)); exact Zal (by omega) (by omega)) | skip))
  · (repeat' first | (refine Zab tok (by rfl) ?_; conv => whnf) | (refine Zaj ?_; conv => whnf))
    exact ⟨_, rfl, Rel.bool rfl⟩
end Go.Proofs.YtoelbgjpmpoolaaGreat
namespace Go.Proofs.YtoelbgjpmpoolaaGreat
open Go Dv
set_option maxRecDepth 10000
set_option linter.unusedSimpArgs false
theorem FC.arg {P : Program} {f : FuncId} {args args' : List AV} {r : AV} (h : FC P f args' r) (ha : ∀ (X : Nat → Prop) (w : World) (vals : List Value), Vs w X args ι0 vals → Vs w X args' ι0 vals) : FC P f args r :=
  ⟨h.1, fun X w vals hX hV => h.2 X w vals hX (ha X w vals hV)⟩
theorem V_nsl {w : World} {own : Nat → Prop} {ι : Zah} {sz : Nat} {f : Nat → List AV} {v : Value} (hv : V w own .nsl ι v) : V w own (.sl sz 0 f) ι v := by
  simp only [V] at hv ⊢
  exact ⟨none, 0, hv, Nat.le_refl _, Nat.zero_le _, .inl trivial⟩
inductive NS : List AV → List AV → Prop where
  | nil : NS [] []
  | e {x : AV} {xs ys : List AV} (h : NS xs ys) : NS (x :: xs) (x :: ys)
  | n {sz : Nat} {f : Nat → List AV} {xs ys : List AV} (h : NS xs ys) : NS (.nsl :: xs) (.sl sz 0 f :: ys)
theorem NS.Vs {w : World} {own : Nat → Prop} {ι : Zah} : ∀ {xs ys : List AV} {vs : List Value}, NS xs ys → Dv.Vs w own xs ι vs → Dv.Vs w own ys ι vs
  | _, _, _, .nil, h => h
  | _, _, _, .e hr, h => by
      simp only [Dv.Vs] at h ⊢
      obtain ⟨v, r, e, h1, h2⟩ := h
      exact ⟨v, r, e, h1, hr.Vs h2⟩
  | _, _, _, .n hr, h => by
      simp only [Dv.Vs] at h ⊢
      obtain ⟨v, r, e, h1, h2⟩ := h
      exact ⟨v, r, e, V_nsl h1, hr.Vs h2⟩
theorem V_zMach {w : World} {own : Nat → Prop} {ι : Zah} {v : Value} (h : V w own (.agg zMach) ι v) : V w own (.agg (Zcf default)) ι v := by
  simp only [V] at h ⊢
  obtain ⟨a, e, h1⟩ := h
  exact ⟨a, e, NS.Vs (.n (.e (.e (.e (.e (.e (.e (.e (.e (.e (.e (.e (.e (.e (.e (.e (.e (.n (.n (.e (.e .nil))))))))))))))))))))) h1⟩
theorem c_MSameZero : FC Tryz.prog 29 [.agg zMach, .agg zMach] (.bool true) :=
  FC.arg (c_MSameEq default) (fun X w vals hV => by
    simp only [Vs] at hV ⊢
    obtain ⟨v1, r1, e1, h1, v2, r2, e2, h2, h3⟩ := hV
    exact ⟨v1, r1, e1, V_zMach h1, v2, r2, e2, V_zMach h2, h3⟩)
theorem c_fFunBad (m : Zak) (n : Int) (hr : Zbg m = false) : FC Tryz.prog 118 [.agg (Zbj m), iv n] (.tup [.agg [iv 0, iv 0, .nsl], .bool false]) := by
  refine Zav tok Tryz.func118 rfl (by decide +kernel) (Nat.le_of_ble_eq_true rfl) ?_
  have hR := c_lRight c_lpad m
  rw [hr] at hR
  (repeat' first | refine Zac ?_ | (refine Zab tok (by rfl) ?_; conv => whnf))
  refine .inl ⟨_, _, _, uG (QC.fc hR rfl), ?_⟩
  conv => whnf
  (repeat' ((fail_if_success (show AWp _ _ _ (Code.region 2 _ _) _ _)); (fail_if_success (show AWp _ _ _ (Code.region 3 _ _) _ _)); first | refine Zac ?_ | (refine Zag ?_; conv => whnf) | refine Zaf rfl (fun hb => ?_) (fun hb => ?_)))
  · (repeat' first | (refine Zab tok (by rfl) ?_; conv => whnf) | (refine Zaj ?_; conv => whnf))
    exact ⟨_, rfl, Rel.tup (.cons (Rel.agg (Rels.imm rfl)) (.cons (Rel.imm rfl) .nil))⟩
  · exfalso; cases hb
theorem c_fNewBad (m : Zak) (n : Int) (args : List Int) (hr : Zbg m = false) : FC Tryz.prog 67 [.agg (Zbj m), iv n, u16s args] (.tup [.agg [iv 0, iv 0, iv 0, .nsl, .int .u16 0], iv 1]) := by
  refine Zav tok Tryz.func67 rfl (by decide +kernel) (Nat.le_of_ble_eq_true rfl) ?_
  (repeat' first | refine Zac ?_ | (refine Zab tok (by rfl) ?_; conv => whnf))
  refine .inl ⟨_, _, _, uG (QC.fc (c_fFunBad m n hr) rfl), ?_⟩
  conv => whnf
  (repeat' ((fail_if_success (show AWp _ _ _ (Code.region 3 _ _) _ _)); (fail_if_success (show AWp _ _ _ (Code.region 4 _ _) _ _)); first | refine Zac ?_ | (refine Zab tok (by rfl) ?_; conv => whnf) | (refine Zag ?_; conv => whnf) | refine Zaf rfl (fun hb => ?_) (fun hb => ?_)))
  · (repeat' first | (refine Zab tok (by rfl) ?_; conv => whnf) | (refine Zaj ?_; conv => whnf))
    exact ⟨_, rfl, Rel.tup (.cons (Rel.agg (Rels.imm rfl)) (.cons (Rel.imm rfl) .nil))⟩
  · exfalso; cases hb
theorem c_mNewBad (m : Zak) (inputs : List Int) (hr : Zbg m = false) : FC Tryz.prog 31 [.agg (Zbj m), u16s inputs] (.tup [.agg zMach, iv 1]) := by
  refine Zav tok Tryz.func31 rfl (by decide +kernel) (Nat.le_of_ble_eq_true rfl) ?_
  (repeat' first | refine Zac ?_ | (refine Zab tok (by rfl) ?_; conv => whnf))
  refine .inl ⟨_, _, _, uG (QC.sc (rd := []) (c_fNewBad m 0 [] hr) (.cons (.imm rfl) (.cons (.imm rfl) (.cons .nsl .nil))) rfl), ?_⟩
  conv => whnf
  (repeat' ((fail_if_success (show AWp _ _ _ (Code.region 3 _ _) _ _)); (fail_if_success (show AWp _ _ _ (Code.region 4 _ _) _ _)); first | refine Zac ?_ | (refine Zab tok (by rfl) ?_; conv => whnf) | (refine Zag ?_; conv => whnf) | refine Zaf rfl (fun hb => ?_) (fun hb => ?_)))
  · (repeat' first | (refine Zab tok (by rfl) ?_; conv => whnf) | (refine Zaj ?_; conv => whnf))
    exact ⟨_, rfl, Rel.tup (.cons (Rel.agg (Rels.imm rfl)) (.cons (Rel.imm rfl) .nil))⟩
  · exfalso; cases hb
theorem c_mRunBad (m : Zak) (inputs : List Int) (n : Int) (hr : Zbg m = false) : FC Tryz.prog 28 [.agg (Zbj m), u16s inputs, iv n] (.tup [.agg zMach, iv 1]) := by
  refine Zav tok Tryz.func28 rfl (by decide +kernel) (Nat.le_of_ble_eq_true rfl) ?_
  (repeat' first | refine Zac ?_ | (refine Zab tok (by rfl) ?_; conv => whnf))
  refine .inl ⟨_, _, _, uG (QC.fc (c_mNewBad m inputs hr) rfl), ?_⟩
  conv => whnf
  (repeat' ((fail_if_success (show AWp _ _ _ (Code.region 3 _ _) _ _)); (fail_if_success (show AWp _ _ _ (Code.region 4 _ _) _ _)); first | refine Zac ?_ | (refine Zab tok (by rfl) ?_; conv => whnf) | (refine Zag ?_; conv => whnf) | refine Zaf rfl (fun hb => ?_) (fun hb => ?_)))
  · (repeat' first | (refine Zab tok (by rfl) ?_; conv => whnf) | (refine Zaj ?_; conv => whnf))
    exact ⟨_, rfl, Rel.tup (.cons (Rel.agg (Rels.imm rfl)) (.cons (Rel.imm rfl) .nil))⟩
  · exfalso; cases hb
end Go.Proofs.YtoelbgjpmpoolaaGreat
namespace Go.Proofs.YtoelbgjpmpoolaaGreat
open Go Dv
set_option maxRecDepth 10000
set_option linter.unusedSimpArgs false
set_option linter.unusedVariables false
set_option maxHeartbeats 4000000 in
theorem c_FlowReaches (m : Zak) (inputs : List Int) (fuel : Int) : FC Tryz.prog 9 [.agg (Zbj m), u16s inputs, .int .u8 fuel] (.bool true) := by
  refine Zav tok Tryz.func9 rfl (by decide +kernel) (Nat.le_of_ble_eq_true rfl) ?_
  refine Zas 1 (fun hl => ?_)
  have hwords : ∀ x ∈ inputs, 0 ≤ x ∧ x ≤ 65535 := fun x hx => by
    obtain ⟨i, hi, rfl⟩ := List.getElem_of_mem hx
    have := (hl.2 i hi).1
    rw [Zca 0 hi] at this; exact this
  clear hl
  refine Zas 2 (fun hl => ?_)
  have hf0 : 0 ≤ fuel ∧ fuel ≤ 255 := hl
  clear hl
  have hmx : maxL = 4294967296 := rfl
  (repeat' first | refine Zac ?_ | (refine Zab tok (by rfl) ?_; conv => whnf))
  refine .inl ⟨_, _, _, uG (QC.fc Fl.fc15 rfl), ?_⟩
  conv => whnf
  (repeat' first | refine Zac ?_ | (refine Zab tok (by rfl) ?_; conv => whnf) | (refine Zag ?_; conv => whnf) | (refine Zaj ?_; conv => whnf) | refine Zaf rfl (fun hb => ?_) (fun hb => ?_))
  · cases hb
  clear hb
  refine .inl ⟨_, _, _, uG (QC.fc (c_r6Small m inputs) rfl), ?_⟩
  conv => whnf
  ((repeat' first | refine Zac ?_ | (refine Zab tok (by rfl) ?_; conv => whnf) | (refine Zag ?_; conv => whnf) | (refine Zaj ?_; conv => whnf) | refine Zaf rfl (fun hb => ?_) (fun hb => ?_) | (refine @And.intro (Zaa _ _ _ _) _ ?_ ?_; rotate_left; (conv => whnf); rotate_right)); all_goals (try ((guard_target = Zaa _ _ _ _); refine Zae ?_; (all_goals (try simp only [Zaa, kzz, kz11, kz12, maxL, Zad] at *)); all_goals omega)))
  · exact ⟨_, rfl, Rel.bool rfl⟩
  have hsm : smallB m inputs = true := by simpa using hb
  clear hb
  unfold smallB at hsm
  rw [Bool.and_eq_true, decide_eq_true_eq] at hsm
  have hi : (∀ x ∈ inputs, 0 ≤ x ∧ x ≤ 65535) ∧ inputs.length < 1000000 := ⟨hwords, by omega⟩
  cases hr : Zbg m with
  | false =>
    refine .inl ⟨_, _, _, uG (QC.fc (c_mRunBad m inputs _ hr) rfl), ?_⟩
    conv => whnf
    (repeat' ((fail_if_success (show AWp _ _ _ (Code.region 7 _ _) _ _)); (fail_if_success (show AWp _ _ _ (Code.region 8 _ _) _ _)); first | refine Zac ?_ | (refine Zab tok (by rfl) ?_; conv => whnf) | (refine Zag ?_; conv => whnf) | refine Zaf rfl (fun hb => ?_) (fun hb => ?_)))
    · (repeat' (refine Zab tok (by rfl) ?_; conv => whnf))
      refine .inl ⟨_, _, _, uG (QC.fc c_MSameZero rfl), ?_⟩
      conv => whnf
      (repeat' (refine Zaj ?_; conv => whnf))
      exact ⟨_, rfl, Rel.bool rfl⟩
    · exfalso; cases hb
  | true =>
    have h8 := Zc8 .u8 (fuel.tmod 200)
    rw [show IntKind.u8.min = 0 from rfl, show IntKind.u8.max = 255 from rfl] at h8
    have hN : IntKind.i64.wrap (IntKind.u8.wrap (fuel.tmod 200)) ≤ 255 := by rw [Zal (by omega) (by omega)]; omega
    have hgen : ∃ N, IntKind.i64.wrap (IntKind.u8.wrap (fuel.tmod 200)) = N := ⟨_, rfl⟩
    obtain ⟨N, hNe⟩ := hgen
    rw [hNe] at hN
    have hRun := c_mRun m inputs N hr hi (by omega)
    have hS := okM_run hr hi N.toNat
    have hQ := all_run hr (reach_inv hr) hi N.toNat
    generalize runM m inputs N.toNat = s at hRun hS hQ
    rw [← hNe] at hRun
    refine .inl ⟨_, _, _, uG (QC.fc hRun rfl), ?_⟩
    conv => whnf
    (repeat' ((fail_if_success (show AWp _ _ _ (Code.region 7 _ _) _ _)); (fail_if_success (show AWp _ _ _ (Code.region 8 _ _) _ _)); first | refine Zac ?_ | (refine Zab tok (by rfl) ?_; conv => whnf) | (refine Zag ?_; conv => whnf) | refine Zaf rfl (fun hb => ?_) (fun hb => ?_)))
    · exfalso; cases hb
    clear hb
    have h32 := hS.len
    (repeat' ((fail_if_success (show AWp _ _ _ (Code.region 9 _ _) _ _)); first | (refine Zab tok (by rfl) ?_; conv => whnf) | refine Zai ?_))
    refine Zay (fun i : Nat => mkS [(3, .bp (3, 0, 0) 0), (7, .bp (7, 0, 0) 0), (9, iv i)] [((3, 0, 0), Zba (Zbj m)), ((7, 0, 0), .row true 21 1 (fun _ => Zcf s))]) (fun i => i ≤ s.stack.length) (fun i => s.stack.length - i) 0 (Nat.zero_le _) ?_ ?_
    · refine Weak.list [((3, 0, 0), .old (3, 0, 0), Zba (Zbj m)), ((7, 0, 0), .old (7, 0, 0), .row true 21 1 (fun _ => Zcf s))] rfl (by rfl) ?_ (.old rfl (BLe.refl _) (.old rfl (BLe.rowW (Nat.le_refl _) (ltS (Wks.of rfl) lt0)) .nil))
      ((repeat' first | exact TLes.nil | refine TLes.cons (TLe.eq rfl) ?_); skip)
    intro i hi2
    (repeat' ((fail_if_success (show AWp _ _ _ (Code.region 11 _ _) _ _)); (fail_if_success (show AWp _ _ _ (Code.region 13 _ _) _ _)); first | refine Zac ?_ | (refine Zab tok (by rfl) ?_; conv => whnf) | refine Zai ?_ | (refine Zag ?_; conv => whnf) | (refine Za1 ?_; conv => whnf) | refine Zaf rfl (fun hb => ?_) (fun hb => ?_)))
    · have hil : i < s.stack.length := by simp only [decide_eq_true_eq] at hb; omega
      clear hb
      have hF : OkF m (s.stack.getD i default) := hS.fr _ (Zck _ hil)
      have hR : ReachF m (s.stack.getD i default) := hQ _ (Zck _ hil)
      have f0 := hF.f0
      have f1 := hF.f1
      have b0 := hF.b0
      have b1 : (s.stack.getD i default).block < (m.funcs.getD (s.stack.getD i default).f.toNat default).blocks.length := hF.b1
      have hz := Fl.fo22 (m.funcs.getD (s.stack.getD i default).f.toNat default)
      rw [Fl.walked_reach] at hz
      have hRB := (Fl.reachB_get _ _).2 hR
      ((repeat' first | (refine Zap tok mix (by rfl) ?_; conv => whnf) | (refine @And.intro (Zaa _ _ _ _) _ ?_ ?_; rotate_left; (conv => whnf); rotate_right)); all_goals (try ((guard_target = Zaa _ _ _ _); refine Zae ?_; (all_goals (try simp only [Zaa, kzz, kz11, kz12, maxL, Zad] at *)); all_goals omega)))
      refine .inl ⟨_, _, _, uG (QC.fo (rd := []) hz (Ress.imms rfl) (.inl rfl) rfl), ?_⟩
      conv => whnf
      ((repeat' ((fail_if_success (show AWp _ _ _ (Code.region 12 _ _) _ _)); (fail_if_success (show AWp _ _ _ (Code.region 10 _ _) _ _)); first | refine Zac ?_ | (refine Zag ?_; conv => whnf) | refine Zaf rfl (fun hb => ?_) (fun hb => ?_) | (refine @And.intro (Zaa _ _ _ _) _ ?_ ?_; rotate_left; (conv => whnf); rotate_right))); all_goals (try ((guard_target = Zaa _ _ _ _); refine Zae ?_; (all_goals (try simp only [Zaa, kzz, kz11, kz12, maxL, Zad] at *)); all_goals omega)))
      · exfalso
        rw [Nat.zero_add] at hb
        have h2 : (!(Fl.reachB (m.funcs.getD (s.stack.getD i default).f.toNat default)).getD (s.stack.getD i default).block.toNat false) = true := hb
        have h3 : (Fl.reachB (m.funcs.getD (s.stack.getD i default).f.toNat default)).getD (s.stack.getD i default).block.toNat false = true := hRB
        rw [h3] at h2
        cases h2
      clear hb
      (repeat' (refine Zab tok (by rfl) ?_; conv => whnf))
      refine ⟨i + 1, hil, by omega, ?_⟩
      refine Weak.list [((3, 0, 0), .old (3, 0, 0), Zba (Zbj m)), ((7, 0, 0), .old (7, 0, 0), .row true 21 1 (fun _ => Zcf s))] rfl (by rfl) ?_ (.old rfl (BLe.refl _) (.old rfl (BLe.refl _) .nil))
      ((repeat' first | exact TLes.nil | refine TLes.cons (TLe.eq rfl) ?_ | refine TLes.cons (TLe.int ?_) ?_); (all_goals first | ((try (simp only [Zaa, kzz, kz11, kz12, maxL, Zad] at *)); exact Zal (by omega) (by omega)) | skip))
    · (repeat' first | (refine Zab tok (by rfl) ?_; conv => whnf) | (refine Zaj ?_; conv => whnf))
      exact ⟨_, rfl, Rel.bool rfl⟩
end Go.Proofs.YtoelbgjpmpoolaaGreat
namespace Go.Proofs.YtoelbgjpmpoolaaGreat
open Go Dv Go.ChangeShapes Go.WideShapes Go.ChangeAt Go.RowKit
open Go.Proofs.YtoelbgjpmpoolaaGreat
set_option maxRecDepth 10000
set_option linter.unusedVariables false
section
variable {H : Type} {enc : TypeId × Value → H} {w : World}
abbrev Sm (H : Type) : DataW H → Prop := fun d => Rows.uptoBulk d ≤ 1048576
theorem bulk_all {ds : List (DataW H)} {n : Nat} (h : Rows.uptoBulkAll ds ≤ n) : ∀ d ∈ ds, Rows.uptoBulk d ≤ n := by
  induction ds with
  | nil => intro d hd; cases hd
  | cons x r ih =>
    simp only [Rows.uptoBulkAll] at h
    intro d hd
    simp only [List.mem_cons] at hd
    rcases hd with rfl | hd
    · omega
    · exact ih (by omega) d hd
theorem bulk_pos (d : DataW H) : 1 ≤ Rows.uptoBulk d := by
  cases d with
  | lit l => cases l <;> simp only [Rows.uptoBulk] <;> omega
  | _ => simp only [Rows.uptoBulk]; omega
theorem bulk_len {ds : List (DataW H)} {n : Nat} (h : Rows.uptoBulkAll ds ≤ n) : ds.length ≤ n := by
  induction ds generalizing n with
  | nil => simp
  | cons x r ih =>
    simp only [Rows.uptoBulkAll] at h
    have := bulk_pos x
    have := ih (n := n - Rows.uptoBulk x) (by omega)
    simp only [List.length_cons]; omega
theorem sm_agg (ds : List (DataW H)) (h : Sm H (.agg ds)) : ∀ d ∈ ds, Sm H d := by
  simp only [Sm, Rows.uptoBulk] at h; exact bulk_all (by omega)
theorem sm_slice (es sp : List (DataW H)) (h : Sm H (.slice es sp)) : es.length ≤ maxL ∧ ∀ x ∈ es, Sm H x := by
  simp only [Sm, Rows.uptoBulk] at h
  have h1 : Rows.uptoBulkAll es ≤ 1048576 := by omega
  exact ⟨Nat.le_trans (bulk_len h1) (by decide), bulk_all h1⟩
theorem Zd8 : Rd enc Tryz.prog w (Sm H) 3 Int (fun n => [iv n]) := Rd.int Tryz.underlying3
theorem rd_u16 : Rd enc Tryz.prog w (Sm H) 50 Int (fun n => [.int .u16 n]) := Rd.int Tryz.underlying50
theorem rd_bool : Rd enc Tryz.prog w (Sm H) 4 Bool (fun b => [.bool b]) := Rd.bool Tryz.underlying4
theorem rd_ints : Rd enc Tryz.prog w (Sm H) 42 (List Int) (fun l => [ints l]) := Rd.slice Tryz.underlying42 (by decide +kernel) (Nat.le_refl _) (fun _ => ⟨rfl, rfl⟩) Zd8 sm_slice
theorem rd_u16s : Rd enc Tryz.prog w (Sm H) 25 (List Int) (fun l => [u16s l]) := Rd.slice Tryz.underlying25 (by decide +kernel) (Nat.le_refl _) (fun _ => ⟨rfl, rfl⟩) rd_u16 sm_slice
theorem rd_Ins : Rd enc Tryz.prog w (Sm H) 70 Ins Zbf :=
  Rd.map (fun x => ⟨x.1, x.2.1, x.2.2.1, x.2.2.2.1, x.2.2.2.2.1, x.2.2.2.2.2.1, x.2.2.2.2.2.2.1⟩)
    (Rd.struct (fl := [(3, 1), (3, 1), (3, 1), (3, 1), (50, 1), (3, 1), (42, 1)]) Tryz.underlying70 (.cons Zd8 (.cons Zd8 (.cons Zd8 (.cons Zd8 (.cons rd_u16 (.cons Zd8 (.cons rd_ints .nil)))))))
      rfl (by decide +kernel) (by decide +kernel) sm_agg) (fun _ => rfl)
theorem rd_inss : Rd enc Tryz.prog w (Sm H) 41 (List Ins) (fun l => [inss l]) := Rd.slice Tryz.underlying41 (by decide +kernel) (by decide) (fun _ => ⟨rfl, rfl⟩) rd_Ins sm_slice
theorem rd_End : Rd enc Tryz.prog w (Sm H) 44 End Zea :=
  Rd.map (fun x => ⟨x.1, x.2.1, x.2.2.1, x.2.2.2.1, x.2.2.2.2.1, x.2.2.2.2.2.1, x.2.2.2.2.2.2.1, x.2.2.2.2.2.2.2.1⟩)
    (Rd.struct (fl := [(3, 1), (3, 1), (3, 1), (3, 1), (42, 1), (3, 1), (3, 1), (3, 1)]) Tryz.underlying44 (.cons Zd8 (.cons Zd8 (.cons Zd8 (.cons Zd8 (.cons rd_ints (.cons Zd8 (.cons Zd8 (.cons Zd8 .nil))))))))
      rfl (by decide +kernel) (by decide +kernel) sm_agg) (fun _ => rfl)
theorem rd_Pad : Rd enc Tryz.prog w (Sm H) 40 Pad encPad :=
  Rd.map (fun x => ⟨x.1, x.2.1, x.2.2.1, x.2.2.2.1⟩)
    (Rd.struct (fl := [(3, 1), (25, 1), (4, 1), (4, 1)]) Tryz.underlying40 (.cons Zd8 (.cons rd_u16s (.cons rd_bool (.cons rd_bool .nil))))
      rfl (by decide +kernel) (by decide +kernel) sm_agg) (fun _ => rfl)
theorem rd_Block : Rd enc Tryz.prog w (Sm H) 46 Zdp Zbl :=
  Rd.map (fun x => ⟨x.1, x.2.1, x.2.2.1, x.2.2.2.1⟩)
    (Rd.struct (fl := [(4, 1), (40, 4), (41, 1), (44, 8)]) Tryz.underlying46 (.cons rd_bool (.cons rd_Pad (.cons rd_inss (.cons rd_End .nil))))
      rfl (by decide +kernel) (by decide +kernel) sm_agg) (fun _ => rfl)
theorem rd_blocks : Rd enc Tryz.prog w (Sm H) 36 (List Zdp) (fun l => [blockss l]) := Rd.slice Tryz.underlying36 (by decide +kernel) (by decide) (fun _ => ⟨rfl, rfl⟩) rd_Block sm_slice
theorem rd_Func : Rd enc Tryz.prog w (Sm H) 38 Func Zcg :=
  Rd.map (fun x => ⟨x.1, x.2.1, x.2.2.1⟩)
    (Rd.struct (fl := [(3, 1), (3, 1), (36, 1)]) Tryz.underlying38 (.cons Zd8 (.cons Zd8 (.cons rd_blocks .nil)))
      rfl (by decide +kernel) (by decide +kernel) sm_agg) (fun _ => rfl)
theorem rd_funcs : Rd enc Tryz.prog w (Sm H) 22 (List Func) (fun l => [funcss l]) := Rd.slice Tryz.underlying22 (by decide +kernel) (by decide) (fun _ => ⟨rfl, rfl⟩) rd_Func sm_slice
theorem rd_Module : Rd enc Tryz.prog w (Sm H) 24 Zak Zbj :=
  Rd.map (fun x => ⟨x.1⟩)
    (Rd.struct (fl := [(22, 1)]) Tryz.underlying24 (.cons rd_funcs .nil)
      rfl (by decide +kernel) (by decide +kernel) sm_agg) (fun _ => rfl)
end
theorem small_of {H : Type} {ds gs : List (DataW H)} (hk : Rows.uptoSmall H (ds ++ gs) = true) : ∀ d ∈ ds, Sm H d := by
  have h := of_decide_eq_true hk
  exact fun d hd => bulk_all h d (List.mem_append_left _ hd)
end Go.Proofs.YtoelbgjpmpoolaaGreat
namespace Go.Proofs.YtoelbgjpmpoolaaGreat
open Go Dv Go.ChangeShapes Go.WideShapes Go.ChangeAt Go.RowKit
open Go.Proofs.YtoelbgjpmpoolaaGreat
set_option maxRecDepth 100000
set_option linter.unusedVariables false
namespace flowReaches
theorem own : ownKnob Tryz.prog.godebug = none := by kernel_rfl
theorem contract (H : Type) (enc : TypeId × Value → H) (W : World) (base : Nat) (args : Array Value) (ds gs : List (DataW H)) (Zdo : List MemPlace) (hk : Rows.uptoSmall H (ds ++ gs) = true)
    (hval : ∀ (j : Nat) t v, Tryz.f9.params[j]? = some t → args[j]? = some v → Value.okWide Tryz.prog W .any base t v)
    (hW : DataW.Whole enc Tryz.prog Tryz.f9.params.toList Rows.flowReachesSpec.vars false W args.toList ds gs Zdo) :
    Calls Tryz.prog 9 args W fun e W' => ∃ v, e = .returned v ∧ Rows.flowReachesSpec.post enc Tryz.prog Tryz.f9 false true false false W args v W' := by
  have hsm := small_of hk
  have hW' := hW
  obtain ⟨p, q, hA0, hV, rfl, hfz, hnd⟩ := hW
  have hA : DataW.TrodAll enc Tryz.prog W 0 (fun _ => true) true Tryz.f9.params.toList args.toList ds p := hA0
  rw [Tryz.params9] at hA hval
  obtain ⟨v0, vs0, d0, ds0, p0, q0, hargs, rfl, rfl, h0, r0⟩ := trodAll_cons hA
  obtain ⟨v1, vs1, d1, ds1, p1, q1, rfl, rfl, rfl, h1, r1⟩ := trodAll_cons r0
  obtain ⟨v2, vs2, d2, ds2, p2, q2, rfl, rfl, rfl, h2, r2⟩ := trodAll_cons r1
  obtain ⟨rfl, rfl, rfl⟩ := trodAll_nil r2
  obtain rfl : args = #[v0, v1, v2] := by cases args; simp_all
  obtain ⟨x0, hx0⟩ := arg_struct Tryz.underlying24 (hval 0 _ v0 rfl rfl) h0 rd_Module (hsm d0 (by simp))
  obtain ⟨x1, hx1⟩ := arg_slice Tryz.underlying25 (hval 1 _ v1 rfl rfl) h1 rd_u16s (hsm d1 (by simp))
  obtain ⟨x2, hx2⟩ := arg_int Tryz.underlying5 (hval 2 _ v2 rfl rfl) h2
  have hb2 := hx2
  simp only [V] at hb2
  obtain ⟨rfl, rfl⟩ := trodVars_none hV
  refine law_contract (tb := 4) (by decide +kernel) (by rw [Tryz.params9]; decide +kernel) rfl (by kernel_rfl) Tryz.underlying4 hW' ⟨rfl, rfl, rfl⟩ (FC.calls (c_FlowReaches x0 x1 x2) ?_)
  simp only [Vs]
  exact ⟨_, _, rfl, hx0, _, _, rfl, hx1, _, _, rfl, hx2, rfl⟩
theorem lifted (os : Os) (started : os.Started) (H : Type) (enc : TypeId × Value → H) (F : Stop.Interp) :
    ReturnsInHanded {} Tryz.checked os 9 .any ((Rows.OpenSpec.upto Rows.flowReachesSpec).pre6 enc Tryz.prog Tryz.f9 Rows.flowReachesUptoRow.domain false) (((Rows.OpenSpec.upto Rows.flowReachesSpec).at F).post enc Tryz.prog Tryz.f9 false true false false) := by
  refine returnsInHanded_of_cond (C := Tryz.checked) (s := Rows.OpenSpec.upto Rows.flowReachesSpec) (k := Rows.uptoSmall) rfl own started (by kernel_rfl) Tryz.func9
    (OpenSpec.witness (enc := enc) (C := Tryz.checked) (s := Rows.OpenSpec.upto Rows.flowReachesSpec) (k := Rows.uptoSmall) rfl false ⟨#[], #[.agg #[.slice none 0 0], .slice none 0 0, .int .u8 0], []⟩ 64 (by kernel_rfl) (by kernel_rfl) (by kernel_rfl)
      (x := ([.agg [.nil], .nil, .lit (.int .u8 0)], [], [])) (by kernel_rfl) rfl (by kernel_rfl)) ?_
  intro W base args ds gs Zdo hval hW _ hk _
  exact contract H enc W base args ds gs Zdo hk hval hW
theorem over : Rows.flowReachesUptoRow.holds Tryz.pinned (Rows.OpenSpec.upto Rows.flowReachesSpec) :=
  OpenClaim.holds_of_cond 9 Tryz.f9 rfl rfl rfl rfl rfl rfl rfl ⟨rfl, rfl, rfl, rfl, rfl⟩ rfl rfl rfl rfl rfl (by kernel_rfl) Tryz.func9 (by kernel_rfl)
    (of_decide_eq_true (by kernel_rfl)) (by unfold Func.isWrapper; first | (rw [if_pos (by decide +kernel)]; kernel_rfl) | (rw [if_neg (by decide +kernel)]; exact ⟨rfl, rfl⟩))
    (fun os started H enc _ F => lifted os started H enc F)
end flowReaches
theorem flowReaches_holds : Rows.FlowReachesUptoSaid := flowReaches.over
end Go.Proofs.YtoelbgjpmpoolaaGreat
