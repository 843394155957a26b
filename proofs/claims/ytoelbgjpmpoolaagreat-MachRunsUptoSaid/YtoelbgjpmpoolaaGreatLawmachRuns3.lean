/- Whatever a module, the words told to it, and the fuel: mach.Run runs it as davitref06.Run does, with the same in all places, or refuses it where the module may not be or the fuel is too much. -/
import Derived.Test.YtoelbgjpmpoolaaGreatDvc3
import Derived.Test.YtoelbgjpmpoolaaGreatLawmachRuns2
import Derived.Test.YtoelbgjpmpoolaaGreatRows
import Derived.WalkKit
import Derived.ProofKit
import Derived.OpenShut
import Derived.JoinedCond
import Derived.KernelRfl
set_option linter.unusedVariables false
set_option linter.unusedSimpArgs false
set_option linter.unnecessarySimpa false
namespace Go.Proofs.YtoelbgjpmpoolaaGreat
open Go Dv
set_option maxRecDepth 10000
set_option linter.unusedSimpArgs false
theorem Zec {src : Dv.Id → Option Dv.Id} {m : Zaj} {s : Mach} {h h' : Zap} {imm : Bool} {f : Nat → List AV} (hf : f 0 = macC m s) (sF : src jF = some jF) (sE : src jE = some jE) (hF : (h' jF).isSome = true) (hE : (h' jE).isSome = true) : GB src h h' (.row imm 22 1 f) (macB m s) := by
  cases e1 : h' jF with
  | none => rw [e1] at hF; cases hF
  | some b1 =>
    cases e2 : h' jE with
    | none => rw [e2] at hE; cases hE
    | some b2 =>
      refine GB.one ?_ (fun e => by cases e)
      rw [hf]
      exact (.cons (.rs e1 sF rfl rfl) (.cons (.imm rfl) (.cons (.imm rfl) (.cons (.imm rfl) (.cons (.imm rfl) (.cons (.imm rfl) (.cons (.imm rfl) (.cons (.imm rfl) (.cons (.imm rfl) (.cons (.imm rfl) (.cons (.imm rfl) (.cons (.imm rfl) (.cons (.imm rfl) (.cons (.imm rfl) (.cons (.imm rfl) (.cons (.imm rfl) (.cons (.imm rfl) (.cons (.imm rfl) (.cons (.rs e2 sE rfl rfl) (.cons (.imm rfl) (.cons (.imm rfl) (.cons (.imm rfl) .nil))))))))))))))))))))))
theorem Zcm {src : Dv.Id → Option Dv.Id} {m : Zaj} {s : Mach} {h h' : Zap} (sB : src jB = some jB) (sF : src jF = some jF) (sE : src jE = some jE) (sT : src jT = some jT) (sW : ∀ q, src (945, 0, q) = some (945, 0, q)) (h1 : h jB = some (macB m s)) (h2 : h jF = some (Zc2 s.stack)) (h3 : h jE = some (evB s.events)) (h4 : h jT = some (regB (topF s).regs))
    (k2 : (h' jF).isSome = true) (k3 : (h' jE).isSome = true) (k4 : (h' jT).isSome = true) (k5 : ∀ q, q < s.stack.length - 1 → (h' (945, 0, q)).isSome = true) : HLs src h h' (memL m s) :=
  .old sB h1 (Zec rfl sF sE k2 k3) (.old sF h2 (GB_fr (fun q _ => sW q) sT k5 k4) (.old sE h3 (Zed _) (.old sT h4 (Zbv _) .nil)))
theorem Zco {l : List Za2} {q : Nat} (hq : q < l.length - 1) : (famW l (945, 0, q)).isSome = true := by rw [Za7 hq]; rfl
theorem map_regAV {ρ : Dv.Id → Option Dv.Id} {l : List Za2} (h1 : ∀ q, ρ (945, 0, q) = some (945, 0, q)) (h2 : ρ jT = some jT) (q : Nat) : Zbk ρ (Zbj l q) = Zbj l q := by
  unfold Zbj
  cases Nat.blt q (l.length - 1) with
  | true => show (match ρ (945, 0, q) with | some j => AV.rs j 1 0 _ | none => .any) = _; rw [h1]; rfl
  | false => show (match ρ jT with | some j => AV.rs j 1 0 _ | none => .any) = _; rw [h2]; rfl
theorem map_fr {ρ : Dv.Id → Option Dv.Id} {l : List Za2} (h1 : ∀ q, ρ (945, 0, q) = some (945, 0, q)) (h2 : ρ jT = some jT) : Dv.mapB ρ (Zc2 l) = Zc2 l := by
  show Zan.row false 5 l.length (fun q => Zbl ρ (frC l q)) = Zan.row false 5 l.length (frC l)
  congr 1
  funext q
  show [_, _, _, Zbk ρ (Zbj l q), _] = _
  rw [map_regAV h1 h2]; rfl
theorem killH_fam {h : Zap} {i : Dv.Id} {q : Nat} {l : List Int} (hi : idEq i (945, 0, q) = false) (e : h (945, 0, q) = some (regB l)) : killH i h (945, 0, q) = some (regB l) := by
  unfold killH; rw [hi, e]; rfl
theorem Zew {d : List Dv.Id} {u h : Zap} {q : Nat} {l : List Int} (hu : u (945, 0, q) = none) (hd : memI (945, 0, q) d = false) (e : h (945, 0, q) = some (regB l)) : bigH d u h (945, 0, q) = some (regB l) := by
  unfold bigH; rw [hu, hd, e]
  cases d <;> rfl
theorem Zbh {s : Mach} (h : 0 < s.stack.length) {q : Nat} (hq : q = s.stack.length - 1) : Zbj s.stack q = .rs jT 1 0 (topF s).regs.length := by
  subst hq; unfold Zbj; rw [Zdk (Nat.le_refl _)]; rfl
set_option maxHeartbeats 4000000 in
theorem c_mCall (m : Zaj) (s : Mach) (n : Int) (places : List Int) (hr : Zbg m = true) (h : 0 < s.stack.length) (h32 : s.stack.length ≤ 32) (h0 : 0 ≤ n) (h1 : n < m.funcs.length) (hp : (places.length : Int) = (m.funcs.getD n.toNat default).params)
    (hpl : ∀ p ∈ places, 0 ≤ p ∧ p < (topF s).regs.length) : HG Tryz.prog [jB] 116 (mem m s) [.bp jB 0, iv n, ints places] (.tup []) (mem m (Zb2 m s n places)) := by
  refine Zbc tok Tryz.func116 rfl (by decide +kernel) (Nat.le_of_ble_eq_true rfl) ?_
  have hmx : maxL = 4294967296 := rfl
  have hT := Zfd m s h (by omega)
  have hp8 : places.length ≤ 8 := by
    have := (okF_funP (Zd4 hr (show n.toNat < m.funcs.length by omega))).2.1
    omega
  (repeat' ((fail_if_success (show AWp _ _ _ (Code.region 1 _ _) _ _)); (fail_if_success (show AWp _ _ _ (Code.region 2 _ _) _ _)); first | refine Zac ?_ | (refine Zab tok (by rfl) ?_; conv => whnf) | (refine Zag ?_; conv => whnf) | refine Zae rfl (fun hb => ?_) (fun hb => ?_)))
  · have h32' : 32 ≤ s.stack.length := by simp only [decide_eq_true_eq] at hb; omega
    clear hb
    rw [show Zb2 m s n places = endM s 5 0 from if_pos h32']
    (repeat' (refine Zab tok (by rfl) ?_; conv => whnf))
    refine .inr ⟨_, _, _, uG (QH.tnM (by simp) (by simp) (c_mEnd m s 5 0) h32 (Za5 rfl rfl rfl rfl (fun _ => rfl)) rfl (fun q hq => Zaq hq)), ?_⟩
    conv => whnf
    (repeat' (refine Zah ?_; conv => whnf))
    refine ⟨_, srcL [], rfl, ?_⟩
    rw [← and_assoc]
    refine ⟨Zdf (s := endM s 5 0) rfl rfl rfl (Zcj rfl rfl rfl) rfl rfl rfl (fun q hq => Zbf (s := endM s 5 0) hq), .tup .nil, fun i hi _ => ?_⟩
    rw [List.mem_singleton.1 hi]; exact ⟨rfl, rfl⟩
  have h32' : ¬ 32 ≤ s.stack.length := by simp only [decide_eq_false_iff_not] at hb; omega
  clear hb
  have hcm : Zb2 m s n places = { s with stack := s.stack ++ [frN m n (Zb1 (topF s) places)] } := if_neg h32'
  (repeat' ((fail_if_success (show AWp _ _ _ (Code.region 4 _ _) _ _)); first | refine Zac ?_ | (refine Zab tok (by rfl) ?_; conv => whnf) | refine Zai ?_))
  refine Za1 (fun j : Nat => mkF [(0, .bp jB 0), (1, iv n), (2, ints places), (6, .rs (101, 0, 0) 1 0 j), (20, ints places), (21, iv places.length), (22, iv j)] ([((101, 0, 0), .row true 1 j (fun q => [.int .u16 ((Zb1 (topF s) places).getD q 0)]))] ++ memL m s) (famW s.stack)) (fun j => j ≤ places.length) (fun j => places.length - j) 0 (Nat.zero_le _) ?_ ?_
  · refine Weak.fam (L := [jB]) (tl := [(0, .bp jB 0), (1, iv n), (2, ints places), (6, .rs (101, 0, 0) 1 0 0), (20, ints places), (21, iv places.length), (22, iv 0)]) (hl := [((101, 0, 0), .row true 1 0 (fun q => [.int .u16 ((Zb1 (topF s) places).getD q 0)]))] ++ memL m s) (F := famW s.stack) [((101, 0, 0), none)] rfl (fun c hc => by cases hc) ?_ ?_ ?_ (fun i hi _ => by rw [List.mem_singleton.1 hi]; exact ⟨rfl, rfl⟩)
    · exact .cons (.bp rfl rfl) (.cons (.imm rfl) (.cons (.imm rfl) (.cons (.nil rfl rfl rfl) (.cons (.imm rfl) (.cons (.imm rfl) (.cons (.imm rfl) .nil))))))
    · exact .new rfl (Zcm rfl rfl rfl rfl (fun _ => rfl) rfl rfl rfl rfl rfl rfl rfl (fun q hq => Zco hq))
    · exact Zfw (fun _ _ => rfl) (fun q hq => Za7 hq)
  intro j hj
  (repeat' ((fail_if_success (show AWp _ _ _ (Code.region 5 _ _) _ _)); (fail_if_success (show AWp _ _ _ (Code.region 8 _ _) _ _)); first | refine Zac ?_ | (refine Zab tok (by rfl) ?_; conv => whnf) | refine Zai ?_ | (refine Zag ?_; conv => whnf) | (refine Za3 ?_; conv => whnf) | refine Zae rfl (fun hb => ?_) (fun hb => ?_)))
  · have hlt : j < places.length := by simp only [decide_eq_true_eq] at hb; omega
    clear hb
    have hjz : (j : Int).toNat = j := by simp
    have hpj := hpl _ (Zcz 0 hlt)
    have hpj' : 0 ≤ places.getD (j : Int).toNat 0 ∧ places.getD (j : Int).toNat 0 < (topF s).regs.length := by rw [hjz]; exact hpj
    ((repeat' first | (refine Zab tok (by rfl) ?_; conv => whnf) | (refine @And.intro (Zaa _ _ _ _) _ ?_ ?_; rotate_left; (conv => whnf); rotate_right)); all_goals (try ((guard_target = Zaa _ _ _ _); refine Zaf ?_; (all_goals (try simp only [Zaa, kzz, kz11, kz12, maxL, Zad] at *)); all_goals omega)))
    refine .inr ⟨_, _, _, uG (QH.tnM (by simp) (by simp) hT h32 (Za5 rfl rfl rfl rfl (fun _ => rfl)) rfl (fun q hq => Zaq hq)), ?_⟩
    conv => whnf
    ((repeat' (refine @And.intro (Zaa _ _ _ _) _ ?_ ?_; rotate_left; (conv => whnf); rotate_right)); all_goals (try ((guard_target = Zaa _ _ _ _); refine Zaf ?_; (all_goals (try simp only [Zaa, kzz, kz11, kz12, maxL, Zad] at *)); all_goals omega)))
    refine fAV (y := .rs jT 1 0 (topF s).regs.length) ?_ ?_
    · exact Zbh h rfl
    conv => whnf
    have hv : (topF s).regs.getD (0 + (places.getD (j : Int).toNat 0).toNat) 0 = (Zb1 (topF s) places).getD j 0 := by
      unfold Zb1
      rw [Nat.zero_add, hjz, List.getD_eq_getElem?_getD (l := places.map _), List.getElem?_map, List.getElem?_eq_getElem hlt, Zb5 0 hlt]; rfl
    ((repeat' first | (refine Zab tok (by rfl) ?_; conv => whnf) | (refine @And.intro (Zaa _ _ _ _) _ ?_ ?_; rotate_left; (conv => whnf); rotate_right)); all_goals (try ((guard_target = Zaa _ _ _ _); refine Zaf ?_; (first | refine And.intro (Zc5 rfl ?_) ?_ | skip); (all_goals (try simp only [Zaa, kzz, kz11, kz12, maxL, Zad] at *)); all_goals omega)))
    refine ⟨j + 1, hlt, by omega, ?_⟩
    refine Weak.fam (L := [jB]) (tl := [(0, .bp jB 0), (1, iv n), (2, ints places), (6, .rs (101, 0, 0) 1 0 (j + 1)), (20, ints places), (21, iv places.length), (22, iv (j + 1))]) (hl := [((101, 0, 0), .row true 1 (j + 1) (fun q => [.int .u16 ((Zb1 (topF s) places).getD q 0)]))] ++ memL m s) (F := famW s.stack) [((101, 0, 0), some (36, 0, 0))] rfl (fun c hc => ?_) ?_ ?_ ?_ (fun i hi _ => by rw [List.mem_singleton.1 hi]; exact ⟨rfl, rfl⟩)
    · rw [List.mem_singleton.1 (show c ∈ [(36, 0, 0)] from hc)]; exact .inl rfl
    · exact .cons (.bp rfl rfl) (.cons (.imm rfl) (.cons (.imm rfl) (.cons (.rs rfl rfl rfl rfl) (.cons (.imm rfl) (.cons (.imm rfl) (.cons (.int (Zal (by omega) (by omega))) .nil))))))
    · refine .old rfl rfl (GB.rowI (Nat.le_refl _) (fun q hq => ?_)) (Zcm rfl rfl rfl rfl (fun _ => rfl) rfl ((congrArg (Option.map (Dv.mapB (kill (101, 0, 0)))) (rfl : some (Zc2 s.stack) = some (Zc2 s.stack))).trans (by rw [Option.map_some, map_fr (ρ := kill (101, 0, 0)) (fun _ => rfl) rfl])) rfl rfl rfl rfl rfl (fun q hq => Zco hq))
      have e := appF (g := fun q => (Zb1 (topF s) places).getD q 0) hq hv
      simp only [allB, Zca, Bool.true_and, Bool.and_true, Bool.and_self, cond_true]
      exact ⟨by rw [show appR j (fun q => [AV.int IntKind.u16 ((Zb1 (topF s) places).getD q 0)]) _ q = _ from e]; rfl, e⟩
    · refine Zfw (fun _ _ => rfl) (fun q hq => ?_)
      refine killH_fam (i := (101, 0, 0)) rfl ?_
      exact Zbf hq
  · have hjl : j = places.length := by simp only [decide_eq_false_iff_not] at hb; omega
    clear hb
    subst hjl
    have hal : (Zb1 (topF s) places).length = places.length := by simp [Zb1]
    have hN := c_fNew m n (Zb1 (topF s) places) hr h0 h1 (by rw [hal]; exact hp)
    (repeat' (refine Zab tok (by rfl) ?_; conv => whnf))
    refine .inr ⟨_, _, _, uG (QH.giveF (rd := [(101, 0, 0)]) hN (.cons (.imm rfl) (.cons (.imm rfl) (.cons (.row rfl (.head _) rfl hal.symm (fun q hq => rfl)) .nil))) (fun i hi => by rw [Zc3 hi]; rfl)), ?_⟩
    conv => whnf
    skip
    refine Zau (Weak.fam (L := [jB]) (tl := [(0, .bp jB 0), (1, iv n), (2, ints places), (9, .bp (9, 0, 0) 0)]) (hl := [((1, 7, 0), .row false 22 1 (fun _ => macX (103, 0, 0) m s)), ((103, 0, 0), Zc2 s.stack), ((942, 0, 0), evB s.events), ((944, 0, 0), regB (topF s).regs), ((9, 0, 0), .row false 5 1 (fun _ => frO (frN m n (Zb1 (topF s) places)) (.rs r0 1 0 (frN m n (Zb1 (topF s) places)).regs.length))), ((905, 0, 0), regB (frN m n (Zb1 (topF s) places)).regs)]) (F := famW s.stack) [((103, 0, 0), some jF)] rfl (fun c hc => ?_) ?_ ?_ ?_ (fun i hi _ => by rw [List.mem_singleton.1 hi]; exact ⟨rfl, rfl⟩)) ?_
    · rw [List.mem_singleton.1 (show c ∈ [jF] from hc)]; exact .inl rfl
    · exact .cons (.bp rfl rfl) (.cons (.imm rfl) (.cons (.imm rfl) (.cons (.bp rfl rfl) .nil)))
    · refine .old rfl rfl (GB.one ?_ (fun e => by cases e)) (.old rfl rfl ?_ (.old rfl rfl (Zed _) (.old rfl rfl (Zbv _) (.old rfl rfl (GB.one (.cons (.imm rfl) (.cons (.imm rfl) (.cons (.imm rfl) (.cons (.rs rfl rfl rfl rfl) (.cons (.imm rfl) .nil))))) (fun e => by cases e)) (.old rfl rfl (Zbv _) .nil)))))
      rotate_left
      · show GB _ _ _ (mapKB [(101, 0, 0)] (Zc2 s.stack)) (Zc2 s.stack)
        rw [mapKB_eq, map_fr (ρ := killL [(101, 0, 0)]) (fun _ => rfl) rfl]
        refine GB_fr (fun _ _ => rfl) rfl (fun q hq => ?_) rfl
        exact Zco hq
      exact (.cons (.rs rfl rfl rfl rfl) (.cons (.imm rfl) (.cons (.imm rfl) (.cons (.imm rfl) (.cons (.imm rfl) (.cons (.imm rfl) (.cons (.imm rfl) (.cons (.imm rfl) (.cons (.imm rfl) (.cons (.imm rfl) (.cons (.imm rfl) (.cons (.imm rfl) (.cons (.imm rfl) (.cons (.imm rfl) (.cons (.imm rfl) (.cons (.imm rfl) (.cons (.imm rfl) (.cons (.imm rfl) (.cons (.rs rfl rfl rfl rfl) (.cons (.imm rfl) (.cons (.imm rfl) (.cons (.imm rfl) .nil))))))))))))))))))))))
    · refine Zfw (fun _ _ => rfl) (fun q hq => ?_)
      refine Zew (d := [(101, 0, 0)]) (u := oneR (frN m n (Zb1 (topF s) places)).regs) rfl rfl ?_
      exact Za7 hq
    refine Zc9 tok mix (by rfl) [0, 1, 2, 3, 4, 5, 6, 9, 10, 11] 30 (by rfl) (by rfl) (by rfl) ?_
    conv => whnf
    repeat' first
      | (refine @And.intro (Zaa _ _ _ _) _ ?_ ?_; rotate_left; (conv => whnf); rotate_right)
      | (guard_target = And _ _; refine @And.intro (gOp _ _ _ _ _ _ _ _ _) _ (by (conv => whnf); exact ⟨rfl, rfl⟩) ?_; conv => whnf)
      | (guard_target = And _ _; refine And.intro ?_ ?_ <;> (conv => whnf))
    all_goals (try ((guard_target = Zaa _ _ _ _); refine Zaf ?_; (first | refine And.intro (Zc5 rfl ?_) ?_ | skip); (all_goals (try simp only [Zaa, kzz, kz11, kz12, maxL, Zad] at *)); all_goals omega))
    all_goals skip
    rw [hcm]
    have hg : frN m n (Zb1 (topF s) places) = frN m n (Zb1 (topF s) places) := rfl
    generalize frN m n (Zb1 (topF s) places) = g
    have hlen : (s.stack ++ [g]).length = s.stack.length + 1 := by simp
    have htop : topF { s with stack := s.stack ++ [g] } = g := by
      unfold topF; show (s.stack ++ [g]).getD ((s.stack ++ [g]).length - 1) default = g
      rw [hlen, Zfy, if_neg (by omega), if_pos (by omega)]
    have hold : ∀ q, q < s.stack.length → (s.stack ++ [g]).getD q default = s.stack.getD q default := fun q hq => by rw [Zfy, if_pos hq]
    have hnew : (s.stack ++ [g]).getD s.stack.length default = g := by rw [Zfy, if_neg (by omega), if_pos rfl]
    have hs1 : ∀ q, q < s.stack.length - 1 → srcL [(jF, some (56, 0, 0)), (jT, some r0), ((945, 0, s.stack.length - 1), some jT)] (945, 0, q) = some (945, 0, q) := fun q hq => by
      show (bif idEq (945, 0, s.stack.length - 1) (945, 0, q) then some jT else some (945, 0, q)) = _
      rw [Zbs.2 (fun e => by injection e with _ e; injection e with e _; omega)]; rfl
    have hs2 : srcL [(jF, some (56, 0, 0)), (jT, some r0), ((945, 0, s.stack.length - 1), some jT)] (945, 0, s.stack.length - 1) = some jT := by
      show (bif idEq (945, 0, s.stack.length - 1) (945, 0, s.stack.length - 1) then some jT else some (945, 0, s.stack.length - 1)) = _
      rw [Za6.2 rfl]; rfl
    refine ⟨_, srcL [(jF, some (56, 0, 0)), (jT, some r0), ((945, 0, s.stack.length - 1), some jT)], rfl, Zez rfl (fun i hi => ?_), fun j b e => ?_, .tup .nil, fun i hi _ => ?_⟩
    · rcases List.mem_cons.1 (show i ∈ [(56, 0, 0), r0, jT] from hi) with rfl | hi
      · exact .inl rfl
      rcases List.mem_cons.1 hi with rfl | hi
      · exact .inl rfl
      rw [List.mem_singleton.1 hi]; exact .inr (by simp)
    · rcases Zb8 e with ⟨rfl, rfl⟩ | ⟨rfl, rfl⟩ | ⟨rfl, rfl⟩ | ⟨rfl, rfl⟩ | ⟨q, rfl, hq2, rfl⟩
      · refine HOk.mk rfl rfl (GB.one ?_ (fun e => by cases e))
        refine .cons (.rs rfl rfl rfl hlen.symm) (.cons (.imm rfl) (.cons (.imm rfl) (.cons (.imm rfl) (.cons (.imm rfl) (.cons (.imm rfl) (.cons (.imm rfl) (.cons (.imm rfl) (.cons (.imm rfl) (.cons (.imm rfl) (.cons (.imm rfl) (.cons (.imm rfl) (.cons (.imm rfl) (.cons (.imm rfl) (.cons (.imm rfl) (.cons (.imm rfl) (.cons (.imm rfl) (.cons (.imm rfl) (.cons (.rs rfl rfl rfl rfl) (.cons (.imm rfl) (.cons (.imm rfl) (.cons (.imm rfl) .nil)))))))))))))))))))))
      · refine HOk.mk rfl rfl ?_
        refine GB.row (Nat.le_of_eq hlen) (fun q hq => ?_) (fun e => by cases e)
        have hq3 : q < s.stack.length + 1 := by rw [← hlen]; exact hq
        show GVs _ _ _ (Zbl (kill (103, 0, 0)) (appR s.stack.length (frC s.stack) (fun i => rowOf 5 (frO g (.rs r0 1 0 g.regs.length)) (0 + i)) q)) (frC (s.stack ++ [g]) q)
        by_cases e1 : q < s.stack.length
        · have ea : appR s.stack.length (frC s.stack) (fun i => rowOf 5 (frO g (.rs r0 1 0 g.regs.length)) (0 + i)) q = frC s.stack q := by
            unfold appR; rw [show Nat.blt q s.stack.length = true from by rw [Nat.blt_eq]; exact e1]; rfl
          have eb : Zbl (kill (103, 0, 0)) (frC s.stack q) = frC s.stack q := by
            show [_, _, _, Zbk _ (Zbj s.stack q), _] = _
            rw [map_regAV (ρ := kill (103, 0, 0)) (fun _ => rfl) rfl]; rfl
          rw [ea, eb]
          unfold frC
          rw [hold q e1]
          refine .cons (.imm rfl) (.cons (.imm rfl) (.cons (.imm rfl) (.cons ?_ (.cons (.imm rfl) .nil))))
          unfold Zbj
          rw [hold q e1]
          have hq4 : q < (s.stack ++ [g]).length - 1 := by omega
          have hq5 : mem m { s with stack := s.stack ++ [g] } (945, 0, q) = some (regB ((s.stack ++ [g]).getD q default).regs) := Za7 hq4
          by_cases e2 : q < s.stack.length - 1
          · exact .cc (Zcy e2) (Zcy hq4) (.rs hq5 (hs1 q e2) rfl rfl)
          · have : q = s.stack.length - 1 := by omega
            subst this
            exact .cc (Zdk (Nat.le_refl _)) (Zcy hq4) (.rs hq5 hs2 rfl rfl)
        · have : q = s.stack.length := by omega
          subst this
          have ea : appR s.stack.length (frC s.stack) (fun i => rowOf 5 (frO g (.rs r0 1 0 g.regs.length)) (0 + i)) s.stack.length = frO g (.rs r0 1 0 g.regs.length) := by
            unfold appR; rw [show Nat.blt s.stack.length s.stack.length = false from by rw [Bool.eq_false_iff]; intro h; rw [Nat.blt_eq] at h; omega, Nat.sub_self]; rfl
          rw [ea]
          unfold frC
          rw [hnew]
          refine .cons (.imm rfl) (.cons (.imm rfl) (.cons (.imm rfl) (.cons ?_ (.cons (.imm rfl) .nil))))
          unfold Zbj
          rw [hnew]
          exact .cc rfl (Zdk (by omega)) (.rs rfl rfl rfl rfl)
      · exact HOk.mk rfl rfl (Zed _)
      · refine HOk.mk rfl rfl ?_
        rw [htop]; exact Zbv _
      · have hq3 : q < s.stack.length := by have : q < (s.stack ++ [g]).length - 1 := hq2; omega
        show HOk _ _ _ _ (regB ((s.stack ++ [g]).getD q default).regs)
        rw [hold q hq3]
        by_cases e : q < s.stack.length - 1
        · refine HOk.mk (hs1 q e) (b0 := regB (s.stack.getD q default).regs) ?_ (Zbv _)
          refine killH_fam (i := (103, 0, 0)) rfl ?_
          exact Za7 e
        · have : q = s.stack.length - 1 := by omega
          subst this
          exact HOk.mk hs2 rfl (Zbv (topF s).regs)
    · rw [List.mem_singleton.1 hi]; exact ⟨rfl, rfl⟩
end Go.Proofs.YtoelbgjpmpoolaaGreat
namespace Go.Proofs.YtoelbgjpmpoolaaGreat
open Go Dv
set_option maxRecDepth 10000
set_option linter.unusedSimpArgs false
theorem with_len {s : Mach} {g : Za2} (h : 0 < s.stack.length) : (Zbo s g).stack.length = s.stack.length := by simp [Zbo]; omega
theorem with_old {s : Mach} {g : Za2} {q : Nat} (hq : q < s.stack.length - 1) : (Zbo s g).stack.getD q default = s.stack.getD q default := by
  show (s.stack.take (s.stack.length - 1) ++ [g]).getD q default = _
  rw [Zfy, List.length_take, if_pos (by omega), Zb3 _ hq]
theorem with_top {s : Mach} {g : Za2} (h : 0 < s.stack.length) : (Zbo s g).stack.getD (s.stack.length - 1) default = g := by
  show (s.stack.take (s.stack.length - 1) ++ [g]).getD (s.stack.length - 1) default = g
  rw [Zfy, List.length_take, if_neg (by omega), if_pos (by omega)]
abbrev srcT (E T : Dv.Id) : Dv.Id → Option Dv.Id := srcL [(jE, some E), (jT, some T)]
theorem leaveG {m : Zaj} {s s' : Mach} {g : Za2} {h : Zap} {E T : Dv.Id} {n' : Nat} {F : Nat → List AV} {b0 bE bT : Zan} (hp : 0 < s.stack.length) (hst : s'.stack = (Zbo s g).stack) (hnd : Zcn [E, T] = true)
    (hE : mem m s' E = none ∨ E = jE ∨ E = jT) (hT : mem m s' T = none ∨ T = jE ∨ T = jT) (h1 : h jB = some b0) (hB : GB (srcT E T) h (mem m s') b0 (macB m s')) (h2 : h jF = some (.row false 5 n' F)) (hn : s.stack.length ≤ n') (hF1 : ∀ q, q < s.stack.length - 1 → F q = frC s.stack q)
    (hF2 : F (s.stack.length - 1) = frO g (.rs T 1 0 g.regs.length)) (h3 : h E = some bE) (gE : GB (srcT E T) h (mem m s') bE (evB s'.events)) (h4 : h T = some bT) (gT : GB (srcT E T) h (mem m s') bT (regB g.regs)) (h5 : ∀ q, q < s.stack.length - 1 → h (945, 0, q) = some (regB (s.stack.getD q default).regs)) :
    (∀ j j' i, (mem m s' j).isSome = true → (mem m s' j').isSome = true → srcT E T j = some i → srcT E T j' = some i → j = j') ∧ ∀ j b, mem m s' j = some b → HOk (srcT E T) h (mem m s') j b := by
  have hl : s'.stack.length = s.stack.length := by rw [hst]; exact with_len hp
  have hold : ∀ q, q < s.stack.length - 1 → s'.stack.getD q default = s.stack.getD q default := fun q hq => by rw [hst]; exact with_old hq
  have hnew : s'.stack.getD (s.stack.length - 1) default = g := by rw [hst]; exact with_top hp
  have htop : topF s' = g := by unfold topF; rw [hl]; exact hnew
  refine ⟨Zez hnd (fun i hi => ?_), fun j b e => ?_⟩
  · rcases List.mem_cons.1 (show i ∈ [E, T] from hi) with rfl | hi
    · rcases hE with h | h | h
      · exact .inl h
      · exact .inr (by rw [h]; simp)
      · exact .inr (by rw [h]; simp)
    · rw [List.mem_singleton.1 hi]
      rcases hT with h | h | h
      · exact .inl h
      · exact .inr (by rw [h]; simp)
      · exact .inr (by rw [h]; simp)
  · rcases Zb8 e with ⟨rfl, rfl⟩ | ⟨rfl, rfl⟩ | ⟨rfl, rfl⟩ | ⟨rfl, rfl⟩ | ⟨q, rfl, hq2, rfl⟩
    · exact HOk.mk rfl h1 hB
    · refine HOk.mk rfl h2 ?_
      refine GB.row (by rw [hl]; exact hn) (fun q hq => ?_) (fun e => by cases e)
      rw [hl] at hq
      by_cases e1 : q < s.stack.length - 1
      · rw [hF1 q e1]
        unfold frC
        rw [hold q e1]
        refine .cons (.imm rfl) (.cons (.imm rfl) (.cons (.imm rfl) (.cons ?_ (.cons (.imm rfl) .nil))))
        unfold Zbj
        rw [hold q e1]
        have hq5 : mem m s' (945, 0, q) = some (regB (s'.stack.getD q default).regs) := Za7 (by rw [hl]; exact e1)
        exact .cc (Zcy e1) (Zcy (by rw [hl]; exact e1)) (.rs hq5 rfl rfl rfl)
      · have : q = s.stack.length - 1 := by omega
        subst this
        rw [hF2]
        unfold frC
        rw [hnew]
        refine .cons (.imm rfl) (.cons (.imm rfl) (.cons (.imm rfl) (.cons ?_ (.cons (.imm rfl) .nil))))
        unfold Zbj
        rw [hnew]
        exact .cc rfl (Zdk (by rw [hl]; exact Nat.le_refl _)) (.rs rfl rfl rfl rfl)
    · exact HOk.mk rfl h3 gE
    · refine HOk.mk rfl h4 ?_
      rw [htop]; exact gT
    · rw [hl] at hq2
      rw [hold q hq2]
      exact HOk.mk rfl (h5 q hq2) (Zbv _)
theorem frC_top {l : List Za2} (h : 0 < l.length) : frC l (l.length - 1) = frO (l.getD (l.length - 1) default) (.rs jT 1 0 (l.getD (l.length - 1) default).regs.length) := by
  unfold frC frO Zbj
  rw [Zdk (Nat.le_refl _)]
theorem keepT {m : Zaj} {s' : Mach} {E T : Dv.Id} : ∀ i ∈ [jB, jF], Zeh i = true → (mem m s' i).isSome = true ∧ srcT E T i = some i := fun i hi _ => by
  rcases List.mem_cons.1 hi with rfl | hi
  · exact ⟨rfl, rfl⟩
  · rw [List.mem_singleton.1 hi]; exact ⟨rfl, rfl⟩
theorem stack_top {s : Mach} (h : 0 < s.stack.length) : s.stack = s.stack.take (s.stack.length - 1) ++ [topF s] := by
  have e1 : s.stack.take (s.stack.length - 1 + 1) = s.stack.take (s.stack.length - 1) ++ [s.stack.getD (s.stack.length - 1) default] := by
    rw [List.take_add_one, List.getD_eq_getElem?_getD, List.getElem?_eq_getElem (by omega)]; rfl
  rw [show s.stack.length - 1 + 1 = s.stack.length by omega, List.take_length] at e1
  exact e1
theorem Zc6 {m : Zaj} {s : Mach} {g : Za2} (h : 0 < s.stack.length) : macC m (Zbo s g) = macC m s := by
  unfold macC; rw [with_len h]; rfl
end Go.Proofs.YtoelbgjpmpoolaaGreat
namespace Go.Proofs.YtoelbgjpmpoolaaGreat
open Go Dv
set_option maxRecDepth 10000
set_option linter.unusedSimpArgs false
set_option maxHeartbeats 4000000 in
theorem c_mIns8 (m : Zaj) (s : Mach) (f : Za2) (x : Ins) (hf : topF s = f) (h : 0 < s.stack.length) (hl : s.stack.length ≤ 32) (hat0 : 0 ≤ f.at_) (hat : f.at_ < 1000000) (h1 : 1 ≤ x.op) (h8 : x.op ≤ 8) (hd : 0 ≤ x.dst ∧ x.dst < f.regs.length) (ha : 1 < x.op → 0 ≤ x.a ∧ x.a < f.regs.length) (hb' : 2 < x.op → 0 ≤ x.b ∧ x.b < f.regs.length) :
    HG Tryz.prog [jB, jF] 113 (mem m s) [.bp jB 0, .rp jF 5 (s.stack.length - 1) 0, .agg (Zba x)] (.bool false) (mem m (insM m s f x)) := by
  refine Zbc tok Tryz.func113 rfl (by decide +kernel) (Nat.le_of_ble_eq_true rfl) ?_
  have hmx : maxL = 4294967296 := rfl
  have hM : insM m s f x = if (Zce f x).2 = true then Zbo s (Zce f x).1 else endM s 3 0 := by
    unfold insM; rw [if_neg (by omega), if_pos h8]
  rw [hM]
  have hR := c_fReckon f x hat0 hat h1 h8 hd ha hb'
  have hle : s.stack.length - 1 < (endM s 3 0).stack.length := by show s.stack.length - 1 < s.stack.length; omega
  have hft : s.stack.getD (s.stack.length - 1) default = f := hf
  (repeat' ((fail_if_success (show AWp _ _ _ (Code.region 8 _ _) _ _)); (fail_if_success (show AWp _ _ _ (Code.region 12 _ _) _ _)); first | refine Zac ?_ | (refine Zab tok (by rfl) ?_; conv => whnf) | refine Zai ?_ | refine Zae rfl (fun hb => ?_) (fun hb => ?_)))
  · exfalso; simp only [decide_eq_true_eq] at hb; omega
  clear hb
  (repeat' ((fail_if_success (show AWp _ _ _ (Code.region 13 _ _) _ _)); (fail_if_success (show AWp _ _ _ (Code.region 17 _ _) _ _)); first | refine Zac ?_ | (refine Zab tok (by rfl) ?_; conv => whnf) | refine Zae rfl (fun hb => ?_) (fun hb => ?_)))
  · exfalso; simp only [decide_eq_true_eq] at hb; omega
  clear hb
  (repeat' ((fail_if_success (show AWp _ _ _ (Code.region 18 _ _) _ _)); (fail_if_success (show AWp _ _ _ (Code.region 20 _ _) _ _)); first | refine Zac ?_ | (refine Zab tok (by rfl) ?_; conv => whnf) | refine Zae rfl (fun hb => ?_) (fun hb => ?_)))
  · exfalso; simp only [decide_eq_true_eq] at hb; omega
  clear hb
  (repeat' ((fail_if_success (show AWp _ _ _ (Code.region 21 _ _) _ _)); (fail_if_success (show AWp _ _ _ (Code.region 22 _ _) _ _)); first | refine Zac ?_ | (refine Zab tok (by rfl) ?_; conv => whnf) | refine Zae rfl (fun hb => ?_) (fun hb => ?_)))
  · exfalso; simp only [decide_eq_true_eq] at hb; omega
  clear hb
  (repeat' ((fail_if_success (show AWp _ _ _ (Code.region 23 _ _) _ _)); (fail_if_success (show AWp _ _ _ (Code.region 2 _ _) _ _)); first | refine Zac ?_ | (refine Zab tok (by rfl) ?_; conv => whnf) | refine Zae rfl (fun hb => ?_) (fun hb => ?_)))
  · exfalso; simp only [decide_eq_true_eq] at hb; omega
  clear hb
  have hR' : HF Tryz.prog 156 [.agg (Zar (topF s)), .agg (Zba x)] (.tup [.agg (frO (Zce f x).1 (.rs r0 1 0 (Zce f x).1.regs.length)), .bool (Zce f x).2]) (oneR (Zce f x).1.regs) := by rw [hf]; exact hR
  refine Zc9 tok mix (by rfl) [0, 1, 2, 3] 30 (by rfl) (by rfl) (by rfl) ?_
  conv => whnf
  repeat' first
    | (refine fAV (x := Zbj s.stack (s.stack.length - 1)) (y := .rs jT 1 0 (topF s).regs.length) (Zbh h rfl) ?_; (conv => whnf))
    | (refine @And.intro (Zaa _ _ _ _) _ ?_ ?_; rotate_left; (conv => whnf); rotate_right)
    | (guard_target = And _ _; refine @And.intro (gOp _ _ _ _ _ _ _ _ _) _ (by (conv => whnf); first | exact ⟨rfl, rfl⟩ | (refine fAV (x := Zbj s.stack (s.stack.length - 1)) (y := .rs jT 1 0 (topF s).regs.length) (Zbh h rfl) ?_; (conv => whnf); exact ⟨rfl, rfl⟩)) ?_; conv => whnf)
    | (guard_target = And _ _; refine And.intro ?_ ?_ <;> (conv => whnf))
  all_goals (try ((guard_target = Zaa _ _ _ _); refine Zaf ?_; (all_goals (try simp only [Zaa, kzz, kz11, kz12, maxL, Zad] at *)); all_goals omega))
  all_goals (try (show AV.agg [_, _, _, Zbj s.stack (s.stack.length - 1), _] = AV.agg [_, _, _, .rs jT 1 0 (topF s).regs.length, _]; rw [Zbh h rfl]; done))
  all_goals refine .inr ⟨_, _, _, uG (QH.lendF (rd := [jT]) hR' (.cons (.agg (.cons (.imm rfl) (.cons (.imm rfl) (.cons (.imm rfl) (.cons (.row rfl (.head _) rfl rfl (fun _ _ => rfl)) (.cons (.imm rfl) .nil)))))) (.cons (.imm rfl) .nil)) (fun i hi => by rw [Zc3 hi]; rfl) rfl (fun j b e => by
    have := Zc3 (i := j) (by rw [e]; rfl)
    subst this; cases e; exact fun i hi => rfl)), ?_⟩
  all_goals conv => whnf
  all_goals (repeat' first
    | (refine fAV (x := Zbj s.stack (s.stack.length - 1)) (y := .rs jT 1 0 (topF s).regs.length) (Zbh h rfl) ?_; (conv => whnf))
    | (refine @And.intro (Zaa _ _ _ _) _ ?_ ?_; rotate_left; (conv => whnf); rotate_right)
    | (guard_target = And _ _; refine @And.intro (gOp _ _ _ _ _ _ _ _ _) _ (by (conv => whnf); first | exact ⟨rfl, rfl⟩ | (refine fAV (x := Zbj s.stack (s.stack.length - 1)) (y := .rs jT 1 0 (topF s).regs.length) (Zbh h rfl) ?_; (conv => whnf); exact ⟨rfl, rfl⟩)) ?_; conv => whnf)
    | (guard_target = And _ _; refine And.intro ?_ ?_ <;> (conv => whnf)))
  all_goals (try ((guard_target = Zaa _ _ _ _); refine Zaf ?_; (all_goals (try simp only [Zaa, kzz, kz11, kz12, maxL, Zad] at *)); all_goals omega))
  all_goals (try (show AV.agg [_, _, _, Zbj s.stack (s.stack.length - 1), _] = AV.agg [_, _, _, .rs jT 1 0 (topF s).regs.length, _]; rw [Zbh h rfl]; done))
  all_goals
    refine Zau (Weak.fam (L := [jB, jF]) (tl := [(0, .bp jB 0), (1, .rp jF 5 (s.stack.length - 1) 0), (10, .bp (10, 0, 0) 0), (11, .bool (Zce f x).2)]) (hl := [((10, 0, 0), .row false 5 1 (fun _ => frO (Zce f x).1 (.rs r0 1 0 (Zce f x).1.regs.length))), ((905, 0, 0), regB (Zce f x).1.regs)] ++ memL m s) (F := famW s.stack) [] rfl (fun c hc => by cases hc) ?_ ?_ ?_ (fun i hi _ => ?_)) ?_
    · exact .cons (.bp rfl rfl) (.cons (.rp rfl rfl rfl) (.cons (.bp rfl rfl) (.cons (.imm rfl) .nil)))
    · refine .old rfl rfl (GB.one (.cons (.imm rfl) (.cons (.imm rfl) (.cons (.imm rfl) (.cons (.rs rfl rfl rfl rfl) (.cons (.imm rfl) .nil))))) (fun e => by cases e)) (.old rfl rfl (Zbv _) ?_)
      exact Zcm rfl rfl rfl rfl (fun _ => rfl) rfl rfl rfl rfl rfl rfl rfl (fun q hq => Zco hq)
    · refine Zfw (fun _ _ => rfl) (fun q hq => ?_)
      refine Zew (d := []) (u := oneR (Zce f x).1.regs) rfl rfl ?_
      exact Za7 hq
    · rcases List.mem_cons.1 hi with rfl | hi
      · exact ⟨rfl, rfl⟩
      · rw [List.mem_singleton.1 hi]; exact ⟨rfl, rfl⟩
    (repeat' ((fail_if_success (show AWp _ _ _ (Code.region 4 _ _) _ _)); (fail_if_success (show AWp _ _ _ (Code.region 5 _ _) _ _)); first | refine Zac ?_ | (refine Zab tok (by rfl) ?_; conv => whnf) | (refine Zag ?_; conv => whnf) | refine Zae rfl (fun hb => ?_) (fun hb => ?_)))
    · have hv : ¬ (Zce f x).2 = true := by simpa using hb
      clear hb
      have hv1 : (Zce f x).1 = f := by
        unfold Zce at hv ⊢
        split
        · rename_i h; rw [if_pos h] at hv; exact absurd rfl hv
        · rfl
      rw [if_neg hv]
      (repeat' (refine Zab tok (by rfl) ?_; conv => whnf))
      refine .inr ⟨_, _, _, uG (QH.tnM (by simp) (by simp) (c_mEnd m s 3 0) hl (Za5 rfl rfl rfl rfl (fun _ => rfl)) rfl (fun q hq => Zaq hq)), ?_⟩
      conv => whnf
      ((repeat' first | refine Zac ?_ | (refine Zab tok (by rfl) ?_; conv => whnf) | (refine Zah ?_; conv => whnf) | (refine @And.intro (Zaa _ _ _ _) _ ?_ ?_; rotate_left; (conv => whnf); rotate_right)); all_goals (try ((guard_target = Zaa _ _ _ _); refine Zaf ?_; (all_goals (try simp only [Zaa, kzz, kz11, kz12, maxL, Zad] at *)); all_goals omega)))
      refine ⟨_, srcT jE r0, rfl, ?_⟩
      rw [← and_assoc]
      refine ⟨leaveG (s := s) (g := (Zce f x).1) (n' := s.stack.length) h ?_ rfl (.inr (.inl rfl)) (.inl rfl) rfl (Zec (s := endM s 3 0) rfl rfl rfl rfl rfl) rfl (Nat.le_refl _) (fun q hq => ?_) ?_ rfl (Zed _) rfl ?_ (fun q hq => ?_), .bool rfl, keepT⟩
      · show s.stack = s.stack.take (s.stack.length - 1) ++ [(Zce f x).1]
        rw [hv1, ← hf]; exact stack_top h
      · exact Zcw (by omega)
      · exact Zdi
      · exact Zbv _
      · exact Zbf (s := endM s 3 0) hq
    · have hv : (Zce f x).2 = true := by simpa using hb
      clear hb
      rw [if_pos hv]
      ((repeat' first | refine Zac ?_ | (refine Zab tok (by rfl) ?_; conv => whnf) | (refine Zah ?_; conv => whnf) | (refine @And.intro (Zaa _ _ _ _) _ ?_ ?_; rotate_left; (conv => whnf); rotate_right)); all_goals (try ((guard_target = Zaa _ _ _ _); refine Zaf ?_; (all_goals (try simp only [Zaa, kzz, kz11, kz12, maxL, Zad] at *)); all_goals omega)))
      refine ⟨_, srcT jE r0, rfl, ?_⟩
      rw [← and_assoc]
      refine ⟨leaveG (s := s) (g := (Zce f x).1) (n' := s.stack.length) h rfl rfl (.inr (.inl rfl)) (.inl rfl) rfl ?_ rfl (Nat.le_refl _) (fun q hq => ?_) ?_ rfl (Zed _) rfl (Zbv _) (fun q hq => ?_), .bool rfl, keepT⟩
      · exact Zec (s := Zbo s (Zce f x).1) (Zc6 h).symm rfl rfl rfl rfl
      · exact Zcw (by omega)
      · exact Zdi
      · exact Za7 hq
end Go.Proofs.YtoelbgjpmpoolaaGreat
namespace Go.Proofs.YtoelbgjpmpoolaaGreat
open Go Dv
set_option maxRecDepth 10000
set_option linter.unusedSimpArgs false
theorem cells22 {src : Dv.Id → Option Dv.Id} {h h' : Zap} {m : Zaj} {s : Mach} {F F' : Dv.Id} (hF : (h' F').isSome = true) (sF : src F' = some F) (hE : (h' jE).isSome = true) (sE : src jE = some jE) : GVs src h h' (macX F m s) (macX F' m s) := by
  cases e1 : h' F' with
  | none => rw [e1] at hF; cases hF
  | some b1 =>
    cases e2 : h' jE with
    | none => rw [e2] at hE; cases hE
    | some b2 =>
      exact (.cons (.rs e1 sF rfl rfl) (.cons (.imm rfl) (.cons (.imm rfl) (.cons (.imm rfl) (.cons (.imm rfl) (.cons (.imm rfl) (.cons (.imm rfl) (.cons (.imm rfl) (.cons (.imm rfl) (.cons (.imm rfl) (.cons (.imm rfl) (.cons (.imm rfl) (.cons (.imm rfl) (.cons (.imm rfl) (.cons (.imm rfl) (.cons (.imm rfl) (.cons (.imm rfl) (.cons (.imm rfl) (.cons (.rs e2 sE rfl rfl) (.cons (.imm rfl) (.cons (.imm rfl) (.cons (.imm rfl) .nil))))))))))))))))))))))
theorem renN {m : Zaj} {s s' : Mach} {f : FuncId} {args : List AV} {r : AV} (h : HG Tryz.prog [jB] f (mem m s) args r (mem m s')) (ha : GVs (srcL [(jF, some jN)]) (memN m s) (mem m s) args args) : HG Tryz.prog [jB] f (memN m s) args r (mem m s') := by
  refine h.ren (srcL [(jF, some jN)]) (Zez rfl (fun i hi => ?_)) (fun j b e => ?_) ha (fun i hi _ => by rw [List.mem_singleton.1 hi]; exact ⟨rfl, rfl⟩)
  · rw [List.mem_singleton.1 (show i ∈ [jN] from hi)]; exact .inl rfl
  · rcases Zb8 e with ⟨rfl, rfl⟩ | ⟨rfl, rfl⟩ | ⟨rfl, rfl⟩ | ⟨rfl, rfl⟩ | ⟨q, rfl, hq2, rfl⟩
    · exact HOk.mk rfl rfl (GB.one (cells22 rfl rfl rfl rfl) (fun e => by cases e))
    · exact HOk.mk rfl rfl (GB_fr (fun _ _ => rfl) rfl (fun q hq => by rw [Zdu, Za7 hq]; rfl) rfl)
    · exact HOk.mk rfl rfl (Zed _)
    · exact HOk.mk rfl rfl (Zbv _)
    · exact HOk.mk rfl (Za7 (l := s.stack) hq2) (Zbv _)
theorem memN_sub {m : Zaj} {s : Mach} {h : Zap} (h1 : h jB = some (.row false 22 1 (fun _ => macX jN m s))) (h2 : h jN = some (Zc2 s.stack)) (h3 : h jE = some (evB s.events)) (h4 : h jT = some (regB (topF s).regs)) (h5 : ∀ q, h (945, 0, q) = famW s.stack (945, 0, q)) :
    ∀ j b, memN m s j = some b → h j = some b := fun j b e => by
  rcases memN_some e with ⟨rfl, rfl⟩ | ⟨rfl, rfl⟩ | ⟨rfl, rfl⟩ | ⟨rfl, rfl⟩ | ⟨q, rfl, hq, rfl⟩
  · exact h1
  · exact h2
  · exact h3
  · exact h4
  · rw [h5 q, Za7 hq]
abbrev memNL (m : Zaj) (s : Mach) : List (Dv.Id × Zan) := [(jB, .row false 22 1 (fun _ => macX jN m s)), (jN, Zc2 s.stack), (jE, evB s.events), (jT, regB (topF s).regs)]
theorem HLs_memN {src : Dv.Id → Option Dv.Id} {m : Zaj} {s : Mach} {h h' : Zap} {imm : Bool} {f : Nat → List AV} (sB : src jB = some jB) (sF : src jN = some jF) (sE : src jE = some jE) (sT : src jT = some jT) (sW : ∀ q, src (945, 0, q) = some (945, 0, q)) (h1 : h jB = some (.row imm 22 1 f)) (hf : f 0 = macC m s) (h2 : h jF = some (Zc2 s.stack)) (h3 : h jE = some (evB s.events)) (h4 : h jT = some (regB (topF s).regs))
    (k2 : (h' jN).isSome = true) (k3 : (h' jE).isSome = true) (k4 : (h' jT).isSome = true) (k5 : ∀ q, q < s.stack.length - 1 → (h' (945, 0, q)).isSome = true) : HLs src h h' (memNL m s) :=
  .old sB h1 (GB.one (by rw [hf]; exact cells22 (F := jF) k2 sF k3 sE) (fun e => by cases e)) (.old sF h2 (GB_fr (fun q _ => sW q) sT k5 k4) (.old sE h3 (Zed _) (.old sT h4 (Zbv _) .nil)))
set_option maxHeartbeats 4000000 in
theorem c_mIns11 (m : Zaj) (s : Mach) (x : Ins) (p : Nat) (ho : x.op = 11) (h32 : s.stack.length ≤ 32) (hc : HG Tryz.prog [jB] 116 (mem m s) [.bp jB 0, iv x.f, ints x.args] (.tup []) (mem m (Zb2 m s x.f x.args))) :
    HG Tryz.prog [jB] 113 (mem m s) [.bp jB 0, .rp jF 5 p 0, .agg (Zba x)] (.bool false) (mem m (Zb2 m s x.f x.args)) := by
  refine Zbc tok Tryz.func113 rfl (by decide +kernel) (Nat.le_of_ble_eq_true rfl) ?_
  have hmx : maxL = 4294967296 := rfl
  have hc' := renN hc (.cons (.bp rfl rfl) (.cons (.imm rfl) (.cons (.imm rfl) .nil)))
  (repeat' ((fail_if_success (show AWp _ _ _ (Code.region 8 _ _) _ _)); (fail_if_success (show AWp _ _ _ (Code.region 12 _ _) _ _)); first | refine Zac ?_ | (refine Zab tok (by rfl) ?_; conv => whnf) | refine Zai ?_ | refine Zae rfl (fun hb => ?_) (fun hb => ?_)))
  · exfalso; simp only [decide_eq_true_eq] at hb; omega
  clear hb
  (repeat' ((fail_if_success (show AWp _ _ _ (Code.region 13 _ _) _ _)); (fail_if_success (show AWp _ _ _ (Code.region 17 _ _) _ _)); first | refine Zac ?_ | (refine Zab tok (by rfl) ?_; conv => whnf) | refine Zae rfl (fun hb => ?_) (fun hb => ?_)))
  · exfalso; simp only [decide_eq_true_eq] at hb; omega
  clear hb
  (repeat' ((fail_if_success (show AWp _ _ _ (Code.region 18 _ _) _ _)); (fail_if_success (show AWp _ _ _ (Code.region 20 _ _) _ _)); first | refine Zac ?_ | (refine Zab tok (by rfl) ?_; conv => whnf) | refine Zae rfl (fun hb => ?_) (fun hb => ?_)))
  · clear hb
    refine Zau (Weak.fam (L := [jB]) (tl := [(0, .bp jB 0), (5, .bp (5, 0, 0) 0)]) (hl := [((5, 0, 0), Zam (Zba x))] ++ memNL m s) (F := famW s.stack) [(jN, some jF)] rfl (fun c hc => ?_) ?_ ?_ ?_ (fun i hi _ => by rw [List.mem_singleton.1 hi]; exact ⟨rfl, rfl⟩)) ?_
    · rw [List.mem_singleton.1 (show c ∈ [jF] from hc)]; exact .inl rfl
    · exact .cons (.bp rfl rfl) (.cons (.bp rfl rfl) .nil)
    · refine .old rfl rfl (GB.one (GVs.imm rfl) (fun _ => rfl)) ?_
      exact HLs_memN rfl rfl rfl rfl (fun _ => rfl) rfl rfl rfl rfl rfl rfl rfl rfl (fun q hq => Zco hq)
    · refine Zfw (fun _ _ => rfl) (fun q hq => ?_)
      exact Za7 hq
    (repeat' (refine Zab tok (by rfl) ?_; conv => whnf))
    refine .inr ⟨_, _, _, uG (QH.ddM (by simp) hc' h32 (memN_sub rfl rfl rfl rfl (fun _ => rfl)) rfl rfl (fun q hq => Zaq hq)), ?_⟩
    conv => whnf
    (repeat' first | refine Zac ?_ | (refine Zab tok (by rfl) ?_; conv => whnf) | (refine Zah ?_; conv => whnf))
    refine ⟨_, srcL [], rfl, ?_⟩
    rw [← and_assoc]
    refine ⟨Zdf (s := Zb2 m s x.f x.args) rfl rfl rfl (Zcj rfl rfl rfl) rfl rfl rfl (fun q hq => Zbf hq), .bool rfl, fun i hi _ => ?_⟩
    rw [List.mem_singleton.1 hi]; exact ⟨rfl, rfl⟩
  · exfalso; simp only [decide_eq_false_iff_not] at hb; omega
end Go.Proofs.YtoelbgjpmpoolaaGreat
namespace Go.Proofs.YtoelbgjpmpoolaaGreat
open Go Dv
set_option maxRecDepth 10000
set_option linter.unusedSimpArgs false
set_option maxHeartbeats 4000000 in
theorem c_mIns12 (m : Zaj) (s : Mach) (x : Ins) (ho : x.op = 12) (h : 0 < s.stack.length) (ha : 0 ≤ x.a ∧ x.a < (topF s).regs.length) (he : s.events.length < 1000000) :
    HG Tryz.prog [jB, jF] 113 (mem m s) [.bp jB 0, .rp jF 5 (s.stack.length - 1) 0, .agg (Zba x)] (.bool true) (mem m (evM s ((topF s).regs.getD x.a.toNat 0))) := by
  refine Zbc tok Tryz.func113 rfl (by decide +kernel) (Nat.le_of_ble_eq_true rfl) ?_
  have hmx : maxL = 4294967296 := rfl
  (repeat' ((fail_if_success (show AWp _ _ _ (Code.region 8 _ _) _ _)); (fail_if_success (show AWp _ _ _ (Code.region 12 _ _) _ _)); first | refine Zac ?_ | (refine Zab tok (by rfl) ?_; conv => whnf) | refine Zai ?_ | refine Zae rfl (fun hb => ?_) (fun hb => ?_)))
  · exfalso; simp only [decide_eq_true_eq] at hb; omega
  clear hb
  (repeat' ((fail_if_success (show AWp _ _ _ (Code.region 13 _ _) _ _)); (fail_if_success (show AWp _ _ _ (Code.region 17 _ _) _ _)); first | refine Zac ?_ | (refine Zab tok (by rfl) ?_; conv => whnf) | refine Zae rfl (fun hb => ?_) (fun hb => ?_)))
  · exfalso; simp only [decide_eq_true_eq] at hb; omega
  clear hb
  (repeat' ((fail_if_success (show AWp _ _ _ (Code.region 18 _ _) _ _)); (fail_if_success (show AWp _ _ _ (Code.region 20 _ _) _ _)); first | refine Zac ?_ | (refine Zab tok (by rfl) ?_; conv => whnf) | refine Zae rfl (fun hb => ?_) (fun hb => ?_)))
  · exfalso; simp only [decide_eq_true_eq] at hb; omega
  clear hb
  (repeat' ((fail_if_success (show AWp _ _ _ (Code.region 21 _ _) _ _)); (fail_if_success (show AWp _ _ _ (Code.region 22 _ _) _ _)); first | refine Zac ?_ | (refine Zab tok (by rfl) ?_; conv => whnf) | refine Zae rfl (fun hb => ?_) (fun hb => ?_)))
  · clear hb
    refine Zc9 tok mix (by rfl) [0, 1, 2, 3, 4, 5, 6, 7, 8, 9, 10, 11, 12, 13, 17, 18, 19] 30 (by rfl) (by rfl) (by rfl) ?_
    conv => whnf
    all_goals (repeat' first
      | (refine fAV (x := Zbj s.stack (s.stack.length - 1)) (y := .rs jT 1 0 (topF s).regs.length) (Zbh h rfl) ?_; (conv => whnf))
      | (refine @And.intro (Zaa _ _ _ _) _ ?_ ?_; rotate_left; (conv => whnf); rotate_right)
      | (guard_target = And _ _; refine @And.intro (gOp _ _ _ _ _ _ _ _ _) _ (by (conv => whnf); first | exact ⟨rfl, rfl⟩ | (refine fAV (x := Zbj s.stack (s.stack.length - 1)) (y := .rs jT 1 0 (topF s).regs.length) (Zbh h rfl) ?_; (conv => whnf); exact ⟨rfl, rfl⟩)) ?_; conv => whnf)
      | (guard_target = And _ _; refine And.intro ?_ ?_ <;> (conv => whnf)))
    all_goals (try ((guard_target = Zaa _ _ _ _); refine Zaf ?_; (first | refine And.intro (Zc5 rfl ?_) ?_ | skip); (all_goals (try simp only [Zaa, kzz, kz11, kz12, maxL, Zad] at *)); all_goals omega))
    all_goals (try (show gval none (Zbj s.stack (s.stack.length - 1)) = AV.rs jT 1 0 (topF s).regs.length; rw [Zbh h rfl]; rfl))
    all_goals (try (show gval none (Zbk (kill jE) (Zbj s.stack (s.stack.length - 1))) = AV.rs jT 1 0 (topF s).regs.length; rw [map_regAV (ρ := kill jE) (fun _ => rfl) rfl, Zbh h rfl]; rfl))
    all_goals (try rfl)
    refine Zaw 100 (fun hl => ?_)
    have hreg : 0 ≤ (topF s).regs.getD (0 + x.a.toNat) 0 ∧ (topF s).regs.getD (0 + x.a.toNat) 0 ≤ 65535 := hl
    clear hl
    rw [Nat.zero_add] at hreg
    (repeat' first | refine Zac ?_ | (refine Zab tok (by rfl) ?_; conv => whnf) | (refine Zah ?_; conv => whnf))
    refine ⟨_, srcT (103, 0, 0) jT, rfl, ?_⟩
    rw [← and_assoc]
    refine ⟨leaveG (s := s) (g := topF s) (n' := s.stack.length) (F := frC s.stack) h (stack_top h) rfl (.inl rfl) (.inr (.inr rfl)) rfl (GB.one ?_ (fun e => by cases e)) ?_ (Nat.le_refl _) (fun q hq => rfl) (frC_top h) rfl (GB.rowI (Nat.le_of_eq ?_) (fun z hz => ?_)) rfl (Zbv _) (fun q hq => ?_), .bool rfl, keepT⟩
    · refine (.cons (.rs rfl rfl rfl rfl) (.cons (.imm rfl) (.cons (.imm rfl) (.cons (.imm rfl) (.cons (.imm rfl) (.cons (.imm rfl) (.cons (.imm rfl) (.cons (.imm rfl) (.cons (.imm rfl) (.cons (.imm rfl) (.cons (.imm rfl) (.cons (.imm rfl) (.cons (.imm rfl) (.cons (.imm rfl) (.cons (.imm rfl) (.cons (.imm rfl) (.cons (.imm rfl) (.cons (.imm rfl) (.cons (.rs rfl rfl rfl ?_) (.cons (.imm rfl) (.cons (.imm rfl) (.cons (.imm rfl) .nil))))))))))))))))))))))
      show s.events.length + 1 = (s.events ++ [_]).length
      simp
    · exact (congrArg (Option.map (Dv.mapB (kill jE))) (rfl : some (Zc2 s.stack) = some (Zc2 s.stack))).trans (by rw [Option.map_some, map_fr (ρ := kill jE) (fun _ => rfl) rfl]; rfl)
    · show (s.events ++ [_]).length = s.events.length + 1
      simp
    · have hz2 : z < s.events.length + 1 := by
        have : z < (s.events ++ [(topF s).regs.getD x.a.toNat 0]).length := hz
        simpa using this
      have e := appI (v := (topF s).regs.getD x.a.toNat 0) (F := fun i => [iv (s.events.getD i 0)]) rfl hz2 (show IntKind.i64.wrap ((topF s).regs.getD (0 + x.a.toNat) 0) = _ by rw [Nat.zero_add]; exact Zal (by omega) (by omega)) (fun i hi => rfl)
      simp only [allB, Zca, Bool.true_and, Bool.and_true, Bool.and_self, cond_true]
      exact ⟨by rw [show appR s.events.length (fun i => [iv (s.events.getD i 0)]) _ z = _ from e]; rfl, e⟩
    · refine killH_fam (i := jE) rfl ?_
      exact Za7 hq
  · exfalso; simp only [decide_eq_false_iff_not] at hb; omega
end Go.Proofs.YtoelbgjpmpoolaaGreat
namespace Go.Proofs.YtoelbgjpmpoolaaGreat
open Go Dv
set_option maxRecDepth 10000
set_option linter.unusedSimpArgs false
theorem frO_W (f : Za2) (d w : Int) (T : Dv.Id) : frO f (.rs T 1 0 f.regs.length) = frO (frW f d w) (.rs T 1 0 (frW f d w).regs.length) := by
  rw [show (frW f d w).regs.length = f.regs.length by simp [frW]]; rfl
theorem keepE {hl : List (Dv.Id × Zan)} {F : Zap} {E : Dv.Id} (hB : (orH (Za4 hl) F jB).isSome = true := by rfl) (hF : (orH (Za4 hl) F jF).isSome = true := by rfl) : ∀ i ∈ [jB, jF], Zeh i = true → (orH (Za4 hl) F i).isSome = true ∧ srcL [(jE, some E)] i = some i := fun i hi _ => by
  rcases List.mem_cons.1 hi with rfl | hi
  · exact ⟨hB, rfl⟩
  · rw [List.mem_singleton.1 hi]; exact ⟨hF, rfl⟩
set_option maxHeartbeats 4000000 in
theorem c_mIns13a (m : Zaj) (s : Mach) (x : Ins) (ho : x.op = 13) (h32 : s.stack.length ≤ 32) (hz : s.inputs.length = 0) :
    HG Tryz.prog [jB, jF] 113 (mem m s) [.bp jB 0, .rp jF 5 (s.stack.length - 1) 0, .agg (Zba x)] (.bool false) (mem m (endM s 6 0)) := by
  refine Zbc tok Tryz.func113 rfl (by decide +kernel) (Nat.le_of_ble_eq_true rfl) ?_
  have hmx : maxL = 4294967296 := rfl
  (repeat' ((fail_if_success (show AWp _ _ _ (Code.region 8 _ _) _ _)); (fail_if_success (show AWp _ _ _ (Code.region 12 _ _) _ _)); first | refine Zac ?_ | (refine Zab tok (by rfl) ?_; conv => whnf) | refine Zai ?_ | refine Zae rfl (fun hb => ?_) (fun hb => ?_)))
  · exfalso; simp only [decide_eq_true_eq] at hb; omega
  clear hb
  (repeat' ((fail_if_success (show AWp _ _ _ (Code.region 13 _ _) _ _)); (fail_if_success (show AWp _ _ _ (Code.region 17 _ _) _ _)); first | refine Zac ?_ | (refine Zab tok (by rfl) ?_; conv => whnf) | refine Zae rfl (fun hb => ?_) (fun hb => ?_)))
  · exfalso; simp only [decide_eq_true_eq] at hb; omega
  clear hb
  (repeat' ((fail_if_success (show AWp _ _ _ (Code.region 18 _ _) _ _)); (fail_if_success (show AWp _ _ _ (Code.region 20 _ _) _ _)); first | refine Zac ?_ | (refine Zab tok (by rfl) ?_; conv => whnf) | refine Zae rfl (fun hb => ?_) (fun hb => ?_)))
  · exfalso; simp only [decide_eq_true_eq] at hb; omega
  clear hb
  (repeat' ((fail_if_success (show AWp _ _ _ (Code.region 21 _ _) _ _)); (fail_if_success (show AWp _ _ _ (Code.region 22 _ _) _ _)); first | refine Zac ?_ | (refine Zab tok (by rfl) ?_; conv => whnf) | refine Zae rfl (fun hb => ?_) (fun hb => ?_)))
  · exfalso; simp only [decide_eq_true_eq] at hb; omega
  clear hb
  (repeat' ((fail_if_success (show AWp _ _ _ (Code.region 23 _ _) _ _)); (fail_if_success (show AWp _ _ _ (Code.region 2 _ _) _ _)); first | refine Zac ?_ | (refine Zab tok (by rfl) ?_; conv => whnf) | refine Zae rfl (fun hb => ?_) (fun hb => ?_)))
  · clear hb
    (repeat' ((fail_if_success (show AWp _ _ _ (Code.region 24 _ _) _ _)); (fail_if_success (show AWp _ _ _ (Code.region 26 _ _) _ _)); first | refine Zac ?_ | (refine Zab tok (by rfl) ?_; conv => whnf) | (refine Zag ?_; conv => whnf) | refine Zae rfl (fun hb => ?_) (fun hb => ?_)))
    · (repeat' (refine Zab tok (by rfl) ?_; conv => whnf))
      refine .inr ⟨_, _, _, uG (QH.tnM (by simp) (by simp) (c_mEnd m s 6 0) h32 (Za5 rfl rfl rfl rfl (fun _ => rfl)) rfl (fun q hq => Zaq hq)), ?_⟩
      conv => whnf
      (repeat' first | refine Zac ?_ | (refine Zab tok (by rfl) ?_; conv => whnf) | (refine Zah ?_; conv => whnf))
      refine ⟨_, srcL [], rfl, ?_⟩
      rw [← and_assoc]
      exact ⟨Zdf (s := endM s 6 0) rfl rfl rfl (Zcj rfl rfl rfl) rfl rfl rfl (fun q hq => Zbf hq), .bool rfl, Zcs⟩
    · exfalso; rw [hz] at hb; cases hb
  · exfalso; simp only [decide_eq_false_iff_not] at hb; omega
set_option maxHeartbeats 4000000 in
theorem c_mIns13b (m : Zaj) (s : Mach) (x : Ins) (ho : x.op = 13) (h : 0 < s.stack.length) (hz : ¬ s.inputs.length = 0) (hi : s.inputs.length < 1000000) (hd : 0 ≤ x.dst ∧ x.dst < (topF s).regs.length) (he : s.events.length < 1000000) :
    HG Tryz.prog [jB, jF] 113 (mem m s) [.bp jB 0, .rp jF 5 (s.stack.length - 1) 0, .agg (Zba x)] (.bool true) (mem m (Zbo (inM s) (frW (topF s) x.dst (s.inputs.getD 0 0)))) := by
  refine Zbc tok Tryz.func113 rfl (by decide +kernel) (Nat.le_of_ble_eq_true rfl) ?_
  have hmx : maxL = 4294967296 := rfl
  (repeat' ((fail_if_success (show AWp _ _ _ (Code.region 8 _ _) _ _)); (fail_if_success (show AWp _ _ _ (Code.region 12 _ _) _ _)); first | refine Zac ?_ | (refine Zab tok (by rfl) ?_; conv => whnf) | refine Zai ?_ | refine Zae rfl (fun hb => ?_) (fun hb => ?_)))
  · exfalso; simp only [decide_eq_true_eq] at hb; omega
  clear hb
  (repeat' ((fail_if_success (show AWp _ _ _ (Code.region 13 _ _) _ _)); (fail_if_success (show AWp _ _ _ (Code.region 17 _ _) _ _)); first | refine Zac ?_ | (refine Zab tok (by rfl) ?_; conv => whnf) | refine Zae rfl (fun hb => ?_) (fun hb => ?_)))
  · exfalso; simp only [decide_eq_true_eq] at hb; omega
  clear hb
  (repeat' ((fail_if_success (show AWp _ _ _ (Code.region 18 _ _) _ _)); (fail_if_success (show AWp _ _ _ (Code.region 20 _ _) _ _)); first | refine Zac ?_ | (refine Zab tok (by rfl) ?_; conv => whnf) | refine Zae rfl (fun hb => ?_) (fun hb => ?_)))
  · exfalso; simp only [decide_eq_true_eq] at hb; omega
  clear hb
  (repeat' ((fail_if_success (show AWp _ _ _ (Code.region 21 _ _) _ _)); (fail_if_success (show AWp _ _ _ (Code.region 22 _ _) _ _)); first | refine Zac ?_ | (refine Zab tok (by rfl) ?_; conv => whnf) | refine Zae rfl (fun hb => ?_) (fun hb => ?_)))
  · exfalso; simp only [decide_eq_true_eq] at hb; omega
  clear hb
  (repeat' ((fail_if_success (show AWp _ _ _ (Code.region 23 _ _) _ _)); (fail_if_success (show AWp _ _ _ (Code.region 2 _ _) _ _)); first | refine Zac ?_ | (refine Zab tok (by rfl) ?_; conv => whnf) | refine Zae rfl (fun hb => ?_) (fun hb => ?_)))
  · clear hb
    (repeat' ((fail_if_success (show AWp _ _ _ (Code.region 24 _ _) _ _)); (fail_if_success (show AWp _ _ _ (Code.region 26 _ _) _ _)); first | refine Zac ?_ | (refine Zab tok (by rfl) ?_; conv => whnf) | (refine Zag ?_; conv => whnf) | refine Zae rfl (fun hb => ?_) (fun hb => ?_)))
    · exfalso; simp only [decide_eq_true_eq] at hb; omega
    clear hb
    ((repeat' ((fail_if_success (show AWp _ _ _ (Code.region 27 _ _) _ _)); first | refine Zac ?_ | (refine Zab tok (by rfl) ?_; conv => whnf) | (refine @And.intro (Zaa _ _ _ _) _ ?_ ?_; rotate_left; (conv => whnf); rotate_right))); all_goals (try ((guard_target = Zaa _ _ _ _); refine Zaf ?_; (all_goals (try simp only [Zaa, kzz, kz11, kz12, maxL, Zad] at *)); all_goals omega)))
    refine Zaw 9 (fun hl => ?_)
    have hreg : 0 ≤ s.inputs.getD (Int.toNat 0) 0 ∧ s.inputs.getD (Int.toNat 0) 0 ≤ 65535 := hl
    clear hl
    have hreg : 0 ≤ s.inputs.getD 0 0 ∧ s.inputs.getD 0 0 ≤ 65535 := hreg
    ((repeat' ((fail_if_success (show AWp _ _ _ (Code.region 29 _ _) _ _)); first | refine Zac ?_ | (refine Zab tok (by rfl) ?_; conv => whnf) | (refine @And.intro (Zaa _ _ _ _) _ ?_ ?_; rotate_left; (conv => whnf); rotate_right))); all_goals (try ((guard_target = Zaa _ _ _ _); refine Zaf ?_; (first | refine And.intro (Zc5 rfl ?_) ?_ | skip); (all_goals (try simp only [Zaa, kzz, kz11, kz12, maxL, Zad] at *)); all_goals omega)))
    refine Zau (Weak.fam (L := [jB, jF]) (tl := [(0, .bp jB 0), (1, .rp jF 5 (s.stack.length - 1) 0), (5, .bp (5, 0, 0) 0), (9, .int .u16 (s.inputs.getD 0 0))]) (hl := [((5, 0, 0), Zam (Zba x))] ++ memL m (inM s)) (F := famW s.stack) [(jE, some (145, 0, 0))] rfl (fun c hc => ?_) ?_ ?_ ?_ keepE) ?_
    · rw [List.mem_singleton.1 (show c ∈ [(145, 0, 0)] from hc)]; exact .inl rfl
    · exact .cons (.bp rfl rfl) (.cons (.rp rfl rfl rfl) (.cons (.bp rfl rfl) (.cons (.imm rfl) .nil)))
    · refine .old rfl rfl (GB.one (GVs.imm rfl) (fun _ => rfl)) (.old rfl rfl (GB.one ?_ (fun e => by cases e)) (.old (b0 := Zc2 s.stack) rfl ?_ ?_ (.old rfl rfl (GB.rowI (Nat.le_of_eq ?_) (fun z hz => ?_)) (.old rfl rfl (Zbv _) .nil))))
      · refine (.cons (.rs rfl rfl rfl rfl) (.cons (.imm rfl) (.cons (.imm rfl) (.cons (.imm rfl) (.cons (.imm rfl) (.cons (.imm rfl) (.cons (.imm rfl) (.cons (.imm rfl) (.cons (.imm rfl) (.cons (.imm rfl) (.cons (.imm rfl) (.cons (.imm rfl) (.cons (.imm rfl) (.cons (.imm rfl) (.cons (.imm rfl) (.cons (.imm rfl) (.cons (.imm rfl) (.cons (.wk rfl (wk_drop hz ?_ (fun i => rfl))) (.cons (.rs rfl rfl rfl ?_) (.cons (.imm rfl) (.cons (.imm rfl) (.cons (.imm rfl) .nil))))))))))))))))))))))
        · simp
        · show s.events.length + 1 = (s.events ++ [_]).length
          simp
      · exact (congrArg (Option.map (Dv.mapB (kill jE))) (rfl : some (Zc2 s.stack) = some (Zc2 s.stack))).trans (by rw [Option.map_some, map_fr (ρ := kill jE) (fun _ => rfl) rfl])
      · refine GB_fr (l := s.stack) (fun _ _ => rfl) rfl (fun q hq => ?_) rfl
        exact Zco hq
      · show (s.events ++ [_]).length = s.events.length + 1
        simp
      · have hz2 : z < s.events.length + 1 := by
          have : z < (s.events ++ [s.inputs.getD 0 0 + 65536]).length := hz
          simpa using this
        have e := appI (v := s.inputs.getD 0 0 + 65536) (F := fun i => [iv (s.events.getD i 0)]) rfl hz2 (show IntKind.i64.wrap (IntKind.i64.wrap (s.inputs.getD (Int.toNat 0) 0) + 65536) = _ by
          show IntKind.i64.wrap (IntKind.i64.wrap (s.inputs.getD 0 0) + 65536) = _
          rw [Zal (x := s.inputs.getD 0 0) (by omega) (by omega), Zal (by omega) (by omega)]) (fun i hi => rfl)
        simp only [allB, Zca, Bool.true_and, Bool.and_true, Bool.and_self, cond_true]
        exact ⟨by rw [show appR s.events.length (fun i => [iv (s.events.getD i 0)]) _ z = _ from e]; rfl, e⟩
    · refine Zfw (fun _ _ => rfl) (fun q hq => ?_)
      refine killH_fam (i := jE) rfl ?_
      exact Za7 hq
    have hzz : x.dst.toNat < (topF s).regs.length := by omega
    have hft : (topF (inM s)) = topF s := rfl
    have hle : s.stack.length - 1 < (inM s).stack.length := by show s.stack.length - 1 < s.stack.length; omega
    have hdd : x.dst.toNat < (topF (inM s)).regs.length := hzz
    ((repeat' first | (refine Zat tok mix (by rfl) ?_; conv => whnf) | (refine @And.intro (Zaa _ _ _ _) _ ?_ ?_; rotate_left; (conv => whnf); rotate_right)); all_goals (try ((guard_target = Zaa _ _ _ _); refine Zaf ?_; (all_goals (try simp only [Zaa, kzz, kz11, kz12, maxL, Zad] at *)); all_goals omega)))
    refine fAV (x := Zbj s.stack (s.stack.length - 1)) (y := .rs jT 1 0 (topF s).regs.length) (Zbh h rfl) ?_
    conv => whnf
    ((repeat' first | refine Zac ?_ | (refine Zab tok (by rfl) ?_; conv => whnf) | (refine Zah ?_; conv => whnf) | (refine @And.intro (Zaa _ _ _ _) _ ?_ ?_; rotate_left; (conv => whnf); rotate_right)); all_goals (try ((guard_target = Zaa _ _ _ _); refine Zaf ?_; (all_goals (try simp only [Zaa, kzz, kz11, kz12, maxL, Zad] at *)); all_goals omega)))
    refine ⟨_, srcT jE jT, rfl, ?_⟩
    rw [← and_assoc]
    refine ⟨leaveG (s := inM s) (g := frW (topF s) x.dst (s.inputs.getD 0 0)) (n' := s.stack.length) (F := frC s.stack) h rfl rfl (.inr (.inl rfl)) (.inr (.inr rfl)) rfl ?_ rfl (Nat.le_refl _) (fun q hq => rfl) ((frC_top h).trans (frO_W _ _ _ _)) rfl (Zed _) rfl (GB.rowI (Nat.le_of_eq (by simp [frW]; rfl)) (fun q hq => ⟨?_, ?_⟩)) (fun q hq => ?_), .bool rfl, keepT⟩
    · exact Zec (s := Zbo (inM s) (frW (topF s) x.dst (s.inputs.getD 0 0))) (Zc6 (s := inM s) h).symm rfl rfl rfl rfl
    · rw [Nat.zero_add, rowSet (l := (topF (inM s)).regs) hzz]; rfl
    · rw [Nat.zero_add]; exact rowSet (l := (topF s).regs) hzz
    · exact Za7 hq
  · exfalso; simp only [decide_eq_false_iff_not] at hb; omega
end Go.Proofs.YtoelbgjpmpoolaaGreat
namespace Go.Proofs.YtoelbgjpmpoolaaGreat
open Go Dv
set_option maxRecDepth 10000
set_option linter.unusedSimpArgs false
theorem c_mCellN (m : Zaj) (s : Mach) (n : Int) (h32 : s.stack.length ≤ 32) (h : 16 ≤ n) : HG Tryz.prog LW 154 (mem m s) [.bp jB 0, .int .u16 n] .np (mem m (endM s 4 0)) := by
  refine Zbc tok Tryz.func154 rfl (by decide +kernel) (Nat.le_of_ble_eq_true rfl) ?_
  refine Zaw 1 (fun hl => ?_)
  have hreg : 0 ≤ n ∧ n ≤ 65535 := hl
  clear hl
  have hw : IntKind.i64.wrap n = n := Zal (by omega) (by omega)
  (repeat' ((fail_if_success (show AWp _ _ _ (Code.region 2 _ _) _ _)); (fail_if_success (show AWp _ _ _ (Code.region 4 _ _) _ _)); first | refine Zac ?_ | (refine Zab tok (by rfl) ?_; conv => whnf) | (refine Zag ?_; conv => whnf) | refine Zae rfl (fun hb => ?_) (fun hb => ?_)))
  · (repeat' (refine Zab tok (by rfl) ?_; conv => whnf))
    refine .inr ⟨_, _, _, uG (QH.tnM (by simp) (by simp) (c_mEnd m s 4 0) h32 (Za5 rfl rfl rfl rfl (fun _ => rfl)) rfl (fun q hq => Zaq hq)), ?_⟩
    conv => whnf
    (repeat' first | refine Zac ?_ | (refine Zab tok (by rfl) ?_; conv => whnf) | (refine Zah ?_; conv => whnf))
    refine ⟨_, srcL [], rfl, ?_⟩
    rw [← and_assoc]
    exact ⟨Zdf (s := endM s 4 0) rfl rfl rfl (Zcj rfl rfl rfl) rfl rfl rfl (fun q hq => Zbf hq), .imm rfl, Zcs⟩
  · exfalso; rw [hw] at hb; simp only [decide_eq_false_iff_not] at hb; omega
theorem c_mCellY (m : Zaj) (s : Mach) (n : Int) (hn : n < 16) : HG Tryz.prog LW 154 (mem m s) [.bp jB 0, .int .u16 n] (.bp jB (1 + n.toNat)) (mem m s) := by
  refine Zbc tok Tryz.func154 rfl (by decide +kernel) (Nat.le_of_ble_eq_true rfl) ?_
  refine Zaw 1 (fun hl => ?_)
  have hreg : 0 ≤ n ∧ n ≤ 65535 := hl
  clear hl
  have hw : IntKind.i64.wrap n = n := Zal (by omega) (by omega)
  (repeat' ((fail_if_success (show AWp _ _ _ (Code.region 2 _ _) _ _)); (fail_if_success (show AWp _ _ _ (Code.region 4 _ _) _ _)); first | refine Zac ?_ | (refine Zab tok (by rfl) ?_; conv => whnf) | (refine Zag ?_; conv => whnf) | refine Zae rfl (fun hb => ?_) (fun hb => ?_)))
  · exfalso; rw [hw] at hb; simp only [decide_eq_true_eq] at hb; omega
  clear hb
  ((repeat' first | (refine Zab tok (by rfl) ?_; conv => whnf) | (refine Zah ?_; conv => whnf) | (refine @And.intro (Zaa _ _ _ _) _ ?_ ?_; rotate_left; (conv => whnf); rotate_right)); all_goals (try ((guard_target = Zaa _ _ _ _); refine Zaf ?_; all_goals omega)))
  refine ⟨_, srcL [], rfl, ?_⟩
  rw [← and_assoc]
  refine ⟨Zdf rfl rfl rfl (Zcj rfl rfl rfl) rfl rfl rfl (fun q hq => Za7 hq), .cc ?_ rfl (.bp rfl rfl), Zcs⟩
  show AV.bp jB (0 + 0 + 1 + n.toNat * 1) = AV.bp jB (1 + n.toNat)
  rw [Nat.mul_one]
end Go.Proofs.YtoelbgjpmpoolaaGreat
namespace Go.Proofs.YtoelbgjpmpoolaaGreat
open Go Dv
set_option maxRecDepth 10000
set_option linter.unusedSimpArgs false
set_option maxHeartbeats 4000000 in
theorem c_mIns9n (m : Zaj) (s : Mach) (x : Ins) (ho : x.op = 9) (h : 0 < s.stack.length) (h32 : s.stack.length ≤ 32) (ha : 0 ≤ x.a ∧ x.a < (topF s).regs.length) (h16 : 16 ≤ (topF s).regs.getD x.a.toNat 0) :
    HG Tryz.prog [jB, jF] 113 (mem m s) [.bp jB 0, .rp jF 5 (s.stack.length - 1) 0, .agg (Zba x)] (.bool false) (mem m (endM s 4 0)) := by
  refine Zbc tok Tryz.func113 rfl (by decide +kernel) (Nat.le_of_ble_eq_true rfl) ?_
  have hmx : maxL = 4294967296 := rfl
  have hC : ∀ y, y = (topF s).regs.getD x.a.toNat 0 → HG Tryz.prog LW 154 (mem m s) [.bp jB 0, .int .u16 y] .np (mem m (endM s 4 0)) := fun y e => by rw [e]; exact c_mCellN m s _ h32 h16
  (repeat' ((fail_if_success (show AWp _ _ _ (Code.region 8 _ _) _ _)); (fail_if_success (show AWp _ _ _ (Code.region 12 _ _) _ _)); first | refine Zac ?_ | (refine Zab tok (by rfl) ?_; conv => whnf) | refine Zai ?_ | refine Zae rfl (fun hb => ?_) (fun hb => ?_)))
  · clear hb
    ((repeat' first | (refine Zat tok mix (by rfl) ?_; conv => whnf) | (refine @And.intro (Zaa _ _ _ _) _ ?_ ?_; rotate_left; (conv => whnf); rotate_right)); all_goals (try ((guard_target = Zaa _ _ _ _); refine Zaf ?_; (all_goals (try simp only [Zaa, kzz, kz11, kz12, maxL, Zad] at *)); all_goals omega)))
    refine fAV (x := Zbj s.stack (s.stack.length - 1)) (y := .rs jT 1 0 (topF s).regs.length) (Zbh h rfl) ?_
    conv => whnf
    ((repeat' (refine @And.intro (Zaa _ _ _ _) _ ?_ ?_; rotate_left; (conv => whnf); rotate_right)); all_goals (try ((guard_target = Zaa _ _ _ _); refine Zaf ?_; (all_goals (try simp only [Zaa, kzz, kz11, kz12, maxL, Zad] at *)); all_goals omega)))
    refine .inr ⟨_, _, _, uG (QH.tnM (by simp) (by simp) (hC _ (by rw [Nat.zero_add])) h32 (Za5 rfl rfl rfl rfl (fun _ => rfl)) rfl (fun q hq => Zaq hq)), ?_⟩
    conv => whnf
    (repeat' ((fail_if_success (show AWp _ _ _ (Code.region 9 _ _) _ _)); refine Zac ?_))
    refine AWp_hand tok [_] _ [] rfl (by rfl) (by rfl) rfl ?_
    conv => whnf
    intro X ι a w s0
    refine ⟨⟨.bool true, .none, []⟩, ptrNil_ok s0 rfl Tryz.underlying187 rfl (.inl ⟨rfl, rfl⟩), rfl, ?_⟩
    conv => whnf
    (repeat' ((fail_if_success (show AWp _ _ _ (Code.region 10 _ _) _ _)); (fail_if_success (show AWp _ _ _ (Code.region 11 _ _) _ _)); first | refine Zac ?_ | (refine Zag ?_; conv => whnf) | refine Zae rfl (fun hb => ?_) (fun hb => ?_)))
    all_goals (try (exfalso; cases hb; done))
    clear hb
    (repeat' first | (refine Zab tok (by rfl) ?_; conv => whnf) | (refine Zah ?_; conv => whnf))
    refine ⟨_, srcL [], rfl, ?_⟩
    rw [← and_assoc]
    exact ⟨Zdf (s := endM s 4 0) rfl rfl rfl (Zcj rfl rfl rfl) rfl rfl rfl (fun q hq => Zbf hq), .bool rfl, Zcs⟩
  · exfalso; simp only [decide_eq_false_iff_not] at hb; omega
end Go.Proofs.YtoelbgjpmpoolaaGreat
namespace Go.Proofs.YtoelbgjpmpoolaaGreat
open Go Dv
set_option maxRecDepth 10000
set_option linter.unusedSimpArgs false
set_option maxHeartbeats 4000000 in
theorem c_mIns9y (m : Zaj) (s : Mach) (x : Ins) (k : Nat) (ho : x.op = 9) (h : 0 < s.stack.length) (h32 : s.stack.length ≤ 32) (ha : 0 ≤ x.a ∧ x.a < (topF s).regs.length) (hd : 0 ≤ x.dst ∧ x.dst < (topF s).regs.length) (hv : (topF s).regs.getD x.a.toNat 0 < 16) (hk : ((topF s).regs.getD x.a.toNat 0).toNat = k) :
    HG Tryz.prog [jB, jF] 113 (mem m s) [.bp jB 0, .rp jF 5 (s.stack.length - 1) 0, .agg (Zba x)] (.bool true) (mem m (Zbo s (frW (topF s) x.dst (s.cells.getD k 0)))) := by
  refine Zbc tok Tryz.func113 rfl (by decide +kernel) (Nat.le_of_ble_eq_true rfl) ?_
  have hmx : maxL = 4294967296 := rfl
  have hC : ∀ y, y = (topF s).regs.getD x.a.toNat 0 → HG Tryz.prog LW 154 (mem m s) [.bp jB 0, .int .u16 y] (.bp jB (1 + k)) (mem m s) := fun y e => by rw [e, ← hk]; exact c_mCellY m s _ hv
  (repeat' ((fail_if_success (show AWp _ _ _ (Code.region 8 _ _) _ _)); (fail_if_success (show AWp _ _ _ (Code.region 12 _ _) _ _)); first | refine Zac ?_ | (refine Zab tok (by rfl) ?_; conv => whnf) | refine Zai ?_ | refine Zae rfl (fun hb => ?_) (fun hb => ?_)))
  · clear hb
    ((repeat' first | (refine Zat tok mix (by rfl) ?_; conv => whnf) | (refine @And.intro (Zaa _ _ _ _) _ ?_ ?_; rotate_left; (conv => whnf); rotate_right)); all_goals (try ((guard_target = Zaa _ _ _ _); refine Zaf ?_; (all_goals (try simp only [Zaa, kzz, kz11, kz12, maxL, Zad] at *)); all_goals omega)))
    refine fAV (x := Zbj s.stack (s.stack.length - 1)) (y := .rs jT 1 0 (topF s).regs.length) (Zbh h rfl) ?_
    conv => whnf
    ((repeat' (refine @And.intro (Zaa _ _ _ _) _ ?_ ?_; rotate_left; (conv => whnf); rotate_right)); all_goals (try ((guard_target = Zaa _ _ _ _); refine Zaf ?_; (all_goals (try simp only [Zaa, kzz, kz11, kz12, maxL, Zad] at *)); all_goals omega)))
    refine .inr ⟨_, _, _, uG (QH.tnM (by simp) (by simp) (hC _ (by rw [Nat.zero_add])) h32 (Za5 rfl rfl rfl rfl (fun _ => rfl)) rfl (fun q hq => Zaq hq)), ?_⟩
    conv => whnf
    (repeat' ((fail_if_success (show AWp _ _ _ (Code.region 9 _ _) _ _)); refine Zac ?_))
    refine AWp_hand tok [_] _ [] rfl (by rfl) (by rfl) rfl ?_
    conv => whnf
    intro X ι a w s0
    refine ⟨⟨.bool false, .none, []⟩, ptrNil_ok s0 rfl Tryz.underlying187 rfl (.inr ⟨⟨_, _, rfl⟩, rfl⟩), rfl, ?_⟩
    conv => whnf
    (repeat' ((fail_if_success (show AWp _ _ _ (Code.region 10 _ _) _ _)); (fail_if_success (show AWp _ _ _ (Code.region 11 _ _) _ _)); first | refine Zac ?_ | (refine Zag ?_; conv => whnf) | refine Zae rfl (fun hb => ?_) (fun hb => ?_)))
    all_goals (try (exfalso; cases hb; done))
    clear hb
    have hzz : x.dst.toNat < (topF s).regs.length := by omega
    have hk16 : k = 0 ∨ k = 1 ∨ k = 2 ∨ k = 3 ∨ k = 4 ∨ k = 5 ∨ k = 6 ∨ k = 7 ∨ k = 8 ∨ k = 9 ∨ k = 10 ∨ k = 11 ∨ k = 12 ∨ k = 13 ∨ k = 14 ∨ k = 15 := by omega
    clear hC hk
    rcases hk16 with rfl | rfl | rfl | rfl | rfl | rfl | rfl | rfl | rfl | rfl | rfl | rfl | rfl | rfl | rfl | rfl
    all_goals
      ((repeat' first | (refine Zat tok mix (by rfl) ?_; conv => whnf) | (refine @And.intro (Zaa _ _ _ _) _ ?_ ?_; rotate_left; (conv => whnf); rotate_right)); all_goals (try ((guard_target = Zaa _ _ _ _); refine Zaf ?_; (all_goals (try simp only [Zaa, kzz, kz11, kz12, maxL, Zad] at *)); all_goals omega)))
      refine fAV (x := Zbj s.stack (s.stack.length - 1)) (y := .rs jT 1 0 (topF s).regs.length) (Zbh h rfl) ?_
      conv => whnf
      ((repeat' first | refine Zac ?_ | (refine Zab tok (by rfl) ?_; conv => whnf) | (refine Zah ?_; conv => whnf) | (refine @And.intro (Zaa _ _ _ _) _ ?_ ?_; rotate_left; (conv => whnf); rotate_right)); all_goals (try ((guard_target = Zaa _ _ _ _); refine Zaf ?_; (all_goals (try simp only [Zaa, kzz, kz11, kz12, maxL, Zad] at *)); all_goals omega)))
      refine ⟨_, srcT jE jT, rfl, ?_⟩
      rw [← and_assoc]
      refine ⟨leaveG (s := s) (g := frW (topF s) x.dst (s.cells.getD _ 0)) (n' := s.stack.length) (F := frC s.stack) h rfl rfl (.inr (.inl rfl)) (.inr (.inr rfl)) rfl ?_ rfl (Nat.le_refl _) (fun q hq => rfl) ((frC_top h).trans (frO_W _ _ _ _)) rfl (Zed _) rfl (GB.rowI (Nat.le_of_eq (by simp [frW])) (fun q hq => ⟨?_, ?_⟩)) (fun q hq => ?_), .bool rfl, keepT⟩
      · exact Zec (s := Zbo s (frW (topF s) x.dst (s.cells.getD _ 0))) (Zc6 (s := s) h).symm rfl rfl rfl rfl
      · rw [Nat.zero_add, rowSet (l := (topF s).regs) hzz]; rfl
      · rw [Nat.zero_add]; exact rowSet (l := (topF s).regs) hzz
      · exact Zbf hq
  · exfalso; simp only [decide_eq_false_iff_not] at hb; omega
end Go.Proofs.YtoelbgjpmpoolaaGreat
namespace Go.Proofs.YtoelbgjpmpoolaaGreat
open Go Dv
set_option maxRecDepth 10000
set_option linter.unusedSimpArgs false
set_option maxHeartbeats 4000000 in
theorem c_mIns10n (m : Zaj) (s : Mach) (x : Ins) (ho : x.op = 10) (h : 0 < s.stack.length) (h32 : s.stack.length ≤ 32) (ha : 0 ≤ x.a ∧ x.a < (topF s).regs.length) (h16 : 16 ≤ (topF s).regs.getD x.a.toNat 0) :
    HG Tryz.prog [jB, jF] 113 (mem m s) [.bp jB 0, .rp jF 5 (s.stack.length - 1) 0, .agg (Zba x)] (.bool false) (mem m (endM s 4 0)) := by
  refine Zbc tok Tryz.func113 rfl (by decide +kernel) (Nat.le_of_ble_eq_true rfl) ?_
  have hmx : maxL = 4294967296 := rfl
  have hC : ∀ y, y = (topF s).regs.getD x.a.toNat 0 → HG Tryz.prog LW 154 (mem m s) [.bp jB 0, .int .u16 y] .np (mem m (endM s 4 0)) := fun y e => by rw [e]; exact c_mCellN m s _ h32 h16
  (repeat' ((fail_if_success (show AWp _ _ _ (Code.region 8 _ _) _ _)); (fail_if_success (show AWp _ _ _ (Code.region 12 _ _) _ _)); first | refine Zac ?_ | (refine Zab tok (by rfl) ?_; conv => whnf) | refine Zai ?_ | refine Zae rfl (fun hb => ?_) (fun hb => ?_)))
  · exfalso; simp only [decide_eq_true_eq] at hb; omega
  clear hb
  (repeat' ((fail_if_success (show AWp _ _ _ (Code.region 13 _ _) _ _)); (fail_if_success (show AWp _ _ _ (Code.region 17 _ _) _ _)); first | refine Zac ?_ | (refine Zab tok (by rfl) ?_; conv => whnf) | refine Zae rfl (fun hb => ?_) (fun hb => ?_)))
  · clear hb
    ((repeat' first | (refine Zat tok mix (by rfl) ?_; conv => whnf) | (refine @And.intro (Zaa _ _ _ _) _ ?_ ?_; rotate_left; (conv => whnf); rotate_right)); all_goals (try ((guard_target = Zaa _ _ _ _); refine Zaf ?_; (all_goals (try simp only [Zaa, kzz, kz11, kz12, maxL, Zad] at *)); all_goals omega)))
    refine fAV (x := Zbj s.stack (s.stack.length - 1)) (y := .rs jT 1 0 (topF s).regs.length) (Zbh h rfl) ?_
    conv => whnf
    ((repeat' (refine @And.intro (Zaa _ _ _ _) _ ?_ ?_; rotate_left; (conv => whnf); rotate_right)); all_goals (try ((guard_target = Zaa _ _ _ _); refine Zaf ?_; (all_goals (try simp only [Zaa, kzz, kz11, kz12, maxL, Zad] at *)); all_goals omega)))
    refine .inr ⟨_, _, _, uG (QH.tnM (by simp) (by simp) (hC _ (by rw [Nat.zero_add])) h32 (Za5 rfl rfl rfl rfl (fun _ => rfl)) rfl (fun q hq => Zaq hq)), ?_⟩
    conv => whnf
    (repeat' ((fail_if_success (show AWp _ _ _ (Code.region 14 _ _) _ _)); refine Zac ?_))
    refine AWp_hand tok [_] _ [] rfl (by rfl) (by rfl) rfl ?_
    conv => whnf
    intro X ι a w s0
    refine ⟨⟨.bool true, .none, []⟩, ptrNil_ok s0 rfl Tryz.underlying187 rfl (.inl ⟨rfl, rfl⟩), rfl, ?_⟩
    conv => whnf
    (repeat' ((fail_if_success (show AWp _ _ _ (Code.region 15 _ _) _ _)); (fail_if_success (show AWp _ _ _ (Code.region 16 _ _) _ _)); first | refine Zac ?_ | (refine Zag ?_; conv => whnf) | refine Zae rfl (fun hb => ?_) (fun hb => ?_)))
    all_goals (try (exfalso; cases hb; done))
    clear hb
    (repeat' first | (refine Zab tok (by rfl) ?_; conv => whnf) | (refine Zah ?_; conv => whnf))
    refine ⟨_, srcL [], rfl, ?_⟩
    rw [← and_assoc]
    exact ⟨Zdf (s := endM s 4 0) rfl rfl rfl (Zcj rfl rfl rfl) rfl rfl rfl (fun q hq => Zbf hq), .bool rfl, Zcs⟩
  · exfalso; simp only [decide_eq_false_iff_not] at hb; omega
set_option maxHeartbeats 4000000 in
theorem c_mIns10y (m : Zaj) (s : Mach) (x : Ins) (k : Nat) (ho : x.op = 10) (h : 0 < s.stack.length) (h32 : s.stack.length ≤ 32) (ha : 0 ≤ x.a ∧ x.a < (topF s).regs.length) (hd : 0 ≤ x.b ∧ x.b < (topF s).regs.length) (hcl : s.cells.length = 16) (hv : (topF s).regs.getD x.a.toNat 0 < 16) (hk : ((topF s).regs.getD x.a.toNat 0).toNat = k) :
    HG Tryz.prog [jB, jF] 113 (mem m s) [.bp jB 0, .rp jF 5 (s.stack.length - 1) 0, .agg (Zba x)] (.bool true) (mem m (stM s k ((topF s).regs.getD x.b.toNat 0))) := by
  refine Zbc tok Tryz.func113 rfl (by decide +kernel) (Nat.le_of_ble_eq_true rfl) ?_
  have hmx : maxL = 4294967296 := rfl
  have hC : ∀ y, y = (topF s).regs.getD x.a.toNat 0 → HG Tryz.prog LW 154 (mem m s) [.bp jB 0, .int .u16 y] (.bp jB (1 + k)) (mem m s) := fun y e => by rw [e, ← hk]; exact c_mCellY m s _ hv
  (repeat' ((fail_if_success (show AWp _ _ _ (Code.region 8 _ _) _ _)); (fail_if_success (show AWp _ _ _ (Code.region 12 _ _) _ _)); first | refine Zac ?_ | (refine Zab tok (by rfl) ?_; conv => whnf) | refine Zai ?_ | refine Zae rfl (fun hb => ?_) (fun hb => ?_)))
  · exfalso; simp only [decide_eq_true_eq] at hb; omega
  clear hb
  (repeat' ((fail_if_success (show AWp _ _ _ (Code.region 13 _ _) _ _)); (fail_if_success (show AWp _ _ _ (Code.region 17 _ _) _ _)); first | refine Zac ?_ | (refine Zab tok (by rfl) ?_; conv => whnf) | refine Zae rfl (fun hb => ?_) (fun hb => ?_)))
  · clear hb
    ((repeat' first | (refine Zat tok mix (by rfl) ?_; conv => whnf) | (refine @And.intro (Zaa _ _ _ _) _ ?_ ?_; rotate_left; (conv => whnf); rotate_right)); all_goals (try ((guard_target = Zaa _ _ _ _); refine Zaf ?_; (all_goals (try simp only [Zaa, kzz, kz11, kz12, maxL, Zad] at *)); all_goals omega)))
    refine fAV (x := Zbj s.stack (s.stack.length - 1)) (y := .rs jT 1 0 (topF s).regs.length) (Zbh h rfl) ?_
    conv => whnf
    ((repeat' (refine @And.intro (Zaa _ _ _ _) _ ?_ ?_; rotate_left; (conv => whnf); rotate_right)); all_goals (try ((guard_target = Zaa _ _ _ _); refine Zaf ?_; (all_goals (try simp only [Zaa, kzz, kz11, kz12, maxL, Zad] at *)); all_goals omega)))
    refine .inr ⟨_, _, _, uG (QH.tnM (by simp) (by simp) (hC _ (by rw [Nat.zero_add])) h32 (Za5 rfl rfl rfl rfl (fun _ => rfl)) rfl (fun q hq => Zaq hq)), ?_⟩
    conv => whnf
    (repeat' ((fail_if_success (show AWp _ _ _ (Code.region 14 _ _) _ _)); refine Zac ?_))
    refine AWp_hand tok [_] _ [] rfl (by rfl) (by rfl) rfl ?_
    conv => whnf
    intro X ι a w s0
    refine ⟨⟨.bool false, .none, []⟩, ptrNil_ok s0 rfl Tryz.underlying187 rfl (.inr ⟨⟨_, _, rfl⟩, rfl⟩), rfl, ?_⟩
    conv => whnf
    (repeat' ((fail_if_success (show AWp _ _ _ (Code.region 15 _ _) _ _)); (fail_if_success (show AWp _ _ _ (Code.region 16 _ _) _ _)); first | refine Zac ?_ | (refine Zag ?_; conv => whnf) | refine Zae rfl (fun hb => ?_) (fun hb => ?_)))
    all_goals (try (exfalso; cases hb; done))
    clear hb
    have hzz : x.b.toNat < (topF s).regs.length := by omega
    have hk16 : k = 0 ∨ k = 1 ∨ k = 2 ∨ k = 3 ∨ k = 4 ∨ k = 5 ∨ k = 6 ∨ k = 7 ∨ k = 8 ∨ k = 9 ∨ k = 10 ∨ k = 11 ∨ k = 12 ∨ k = 13 ∨ k = 14 ∨ k = 15 := by omega
    clear hC hk
    rcases hk16 with rfl | rfl | rfl | rfl | rfl | rfl | rfl | rfl | rfl | rfl | rfl | rfl | rfl | rfl | rfl | rfl
    all_goals
      ((repeat' first | (refine Zat tok mix (by rfl) ?_; conv => whnf) | (refine @And.intro (Zaa _ _ _ _) _ ?_ ?_; rotate_left; (conv => whnf); rotate_right)); all_goals (try ((guard_target = Zaa _ _ _ _); refine Zaf ?_; (all_goals (try simp only [Zaa, kzz, kz11, kz12, maxL, Zad] at *)); all_goals omega)))
      refine fAV (x := Zbj s.stack (s.stack.length - 1)) (y := .rs jT 1 0 (topF s).regs.length) (Zbh h rfl) ?_
      conv => whnf
      ((repeat' first | refine Zac ?_ | (refine Zab tok (by rfl) ?_; conv => whnf) | (refine Zah ?_; conv => whnf) | (refine @And.intro (Zaa _ _ _ _) _ ?_ ?_; rotate_left; (conv => whnf); rotate_right)); all_goals (try ((guard_target = Zaa _ _ _ _); refine Zaf ?_; (all_goals (try simp only [Zaa, kzz, kz11, kz12, maxL, Zad] at *)); all_goals omega)))
      refine ⟨_, srcL [], rfl, ?_⟩
      rw [← and_assoc]
      refine ⟨Zdf (s := stM s _ ((topF s).regs.getD x.b.toNat 0)) rfl rfl rfl (GB.one ?_ (fun e => by cases e)) rfl rfl rfl (fun q hq => Zbf hq), .bool rfl, Zcs⟩
      show GVs _ _ _ _ (macC m (stM s _ ((topF s).regs.getD x.b.toNat 0)))
      refine .cons (.rs rfl rfl rfl rfl) ?_
      repeat' first | refine GVs.cons (.wk rfl (wkc (by decide))) ?_ | refine GVs.cons (.wk rfl (by rw [Nat.zero_add]; exact wks (by omega))) ?_ | refine GVs.cons (.imm rfl) ?_ | refine GVs.cons (.rs rfl rfl rfl rfl) ?_ | exact .nil
  · exfalso; simp only [decide_eq_false_iff_not] at hb; omega
end Go.Proofs.YtoelbgjpmpoolaaGreat
namespace Go.Proofs.YtoelbgjpmpoolaaGreat
open Go Dv
set_option maxRecDepth 10000
set_option linter.unusedSimpArgs false
theorem LW_keepL {tl : List (Dv.Id × Zan)} {F : Zap} (hB : (orH (Za4 tl) F jB).isSome = true := by rfl) (hF : (orH (Za4 tl) F jF).isSome = true := by rfl) : ∀ i ∈ LW, Zeh i = true → (orH (Za4 tl) F i).isSome = true ∧ srcL [] i = some i := fun i hi _ => by
  rcases List.mem_cons.1 hi with rfl | hi
  · exact ⟨hB, rfl⟩
  · rw [List.mem_singleton.1 hi]; exact ⟨hF, rfl⟩
theorem big_far {m : Zaj} {p : Mach} {h : Zap} {q : Nat} (hp : p.stack.length ≤ 32) (hq : 32 ≤ q) (hh : h (945, 0, q) = none) : bigH dK (mem m p) h (945, 0, q) = none := by
  unfold bigH
  rw [Zdu, Zaq (by omega), hh]
  cases memI (945, 0, q) dK <;> rfl
theorem Zbq {m : Zaj} {p : Mach} {h : Zap} {q : Nat} (hh : 32 ≤ q → h (945, 0, q) = none) : bigH dK (mem m p) h (945, 0, q) = famW p.stack (945, 0, q) := by
  unfold bigH
  rw [Zdu]
  cases e : famW p.stack (945, 0, q) with
  | some b => rfl
  | none =>
    by_cases hq : q < 32
    · rw [show memI (945, 0, q) dK = true from Zb9.2 (List.mem_cons_of_mem _ (List.mem_cons_of_mem _ (Zf4.2 ⟨q, hq, rfl⟩)))]; rfl
    · rw [hh (by omega)]; cases memI (945, 0, q) dK <;> rfl
set_option maxHeartbeats 4000000 in
theorem c_mAns1 (m : Zaj) (s : Mach) (w : Int) (h1 : s.stack.length = 1) :
    HG Tryz.prog LW 114 (mem m s) [.bp jB 0, .int .u16 w] (.tup []) (mem m (endM (popM s) 1 w)) := by
  refine Zbc tok Tryz.func114 rfl (by decide +kernel) (Nat.le_of_ble_eq_true rfl) ?_
  have hmx : maxL = 4294967296 := rfl
  have hpl := Zct (s := s)
  (repeat' ((fail_if_success (show AWp _ _ _ (Code.region 1 _ _) _ _)); first | refine Zac ?_ | (refine Zab tok (by rfl) ?_; conv => whnf)))
  refine .inr ⟨_, _, _, uG (QH.tnM (by simp) (by simp) (c_mPop m s (by omega) (by omega)) (by omega) (Za5 rfl rfl rfl rfl (fun _ => rfl)) rfl (fun q hq => Zaq hq)), ?_⟩
  conv => whnf
  (repeat' ((fail_if_success (show AWp _ _ _ (Code.region 2 _ _) _ _)); (fail_if_success (show AWp _ _ _ (Code.region 3 _ _) _ _)); first | refine Zac ?_ | (refine Zab tok (by rfl) ?_; conv => whnf) | (refine Zag ?_; conv => whnf) | refine Zae rfl (fun hb => ?_) (fun hb => ?_)))
  · (repeat' (refine Zab tok (by rfl) ?_; conv => whnf))
    refine .inr ⟨_, _, _, uG (QH.tnM (by simp) (by simp) (c_mEnd m (popM s) 1 w) (by omega) (Za5 rfl rfl rfl rfl (fun q => Zbq (fun hq => Zaq (by omega)))) rfl (fun q hq => (Zbq (fun hq => Zaq (by omega))).trans (Zaq hq))), ?_⟩
    conv => whnf
    (repeat' (refine Zah ?_; conv => whnf))
    refine ⟨_, srcL [], rfl, ?_⟩
    rw [← and_assoc]
    exact ⟨Zdf (s := endM (popM s) 1 w) rfl rfl rfl (Zcj rfl rfl rfl) rfl rfl rfl (fun q hq => Zbf hq), .tup .nil, Zcs⟩
  · exfalso; rw [hpl, h1] at hb; cases hb
set_option maxHeartbeats 4000000 in
theorem c_mAns2 (m : Zaj) (s p : Mach) (f : Za2) (w d : Int) (hp : popM s = p) (hf : topF p = f) (h2 : 1 < s.stack.length) (h32 : s.stack.length ≤ 32) (hF : OkF m f) (hn : endB m f = false) (hdd : ((Za0 m f).ins.getD f.at_.toNat default).dst = d) (hd : 0 ≤ d ∧ d < f.regs.length) (hat : f.at_ < 1000000) :
    HG Tryz.prog LW 114 (mem m s) [.bp jB 0, .int .u16 w] (.tup []) (mem m (Zbo p { frW f d w with at_ := f.at_ + 1 })) := by
  refine Zbc tok Tryz.func114 rfl (by decide +kernel) (Nat.le_of_ble_eq_true rfl) ?_
  have hmx : maxL = 4294967296 := rfl
  have hpl : p.stack.length = s.stack.length - 1 := by rw [← hp]; exact Zct
  have hP := c_mPop m s (by omega) (by omega)
  rw [hp] at hP
  have hft : p.stack.getD (p.stack.length - 1) default = f := hf
  have hB : HG Tryz.prog LW 112 (mem m p) [.bp jB 0, .rp jF 5 (p.stack.length - 1) 0] (.agg (Zbi (Za0 m f))) (mem m p) := by
    have := Zc8 m p (p.stack.length - 1) (by omega) (by rw [hft]; exact hF)
    rw [hft] at this; exact this
  have hE : ¬ f.at_ = (Za0 m f).ins.length := fun e => by
    have : endB m f = true := decide_eq_true e
    rw [hn] at this; cases this
  have hgen : ∃ b, Za0 m f = b := ⟨_, rfl⟩
  obtain ⟨b, hbe⟩ := hgen
  have a0 := hF.a0
  have a1 := hF.a1
  rw [hbe] at hB hE hdd a1
  have hp0 : 0 < p.stack.length := by omega
  (repeat' ((fail_if_success (show AWp _ _ _ (Code.region 1 _ _) _ _)); first | refine Zac ?_ | (refine Zab tok (by rfl) ?_; conv => whnf)))
  refine .inr ⟨_, _, _, uG (QH.tnM (by simp) (by simp) hP (by omega) (Za5 rfl rfl rfl rfl (fun _ => rfl)) rfl (fun q hq => Zaq hq)), ?_⟩
  conv => whnf
  (repeat' ((fail_if_success (show AWp _ _ _ (Code.region 2 _ _) _ _)); (fail_if_success (show AWp _ _ _ (Code.region 3 _ _) _ _)); first | refine Zac ?_ | (refine Zab tok (by rfl) ?_; conv => whnf) | (refine Zag ?_; conv => whnf) | refine Zae rfl (fun hb => ?_) (fun hb => ?_)))
  · exfalso; simp only [decide_eq_true_eq] at hb; omega
  clear hb
  (repeat' ((fail_if_success (show AWp _ _ _ (Code.region 4 _ _) _ _)); (refine Zab tok (by rfl) ?_; conv => whnf)))
  refine .inr ⟨_, _, _, uG (QH.tnM (by simp) (by simp) (Zfd m p hp0 (by omega)) (by omega) (Za5 rfl rfl rfl rfl (fun q => Zbq (fun hq => Zaq (by omega)))) rfl (fun q hq => (Zbq (fun hq => Zaq (by omega))).trans (Zaq hq))), ?_⟩
  conv => whnf
  (repeat' ((fail_if_success (show AWp _ _ _ (Code.region 5 _ _) _ _)); first | refine Zac ?_ | (refine Zab tok (by rfl) ?_; conv => whnf)))
  refine .inr ⟨_, _, _, uG (QH.tnM (by simp) (by simp) hB (by omega) (Za5 rfl rfl rfl rfl (fun q => Zbq (fun hq => big_far (by omega) hq (Zaq (by omega))))) rfl (fun q hq => (Zbq (fun hq => big_far (by omega) hq (Zaq (by omega)))).trans (Zaq hq))), ?_⟩
  conv => whnf
  ((repeat' ((fail_if_success (show AWp _ _ _ (Code.region 6 _ _) _ _)); (fail_if_success (show AWp _ _ _ (Code.region 8 _ _) _ _)); first | refine Zac ?_ | (refine Zat tok mix (by rfl) ?_; conv => whnf) | (refine Zag ?_; conv => whnf) | refine Zae rfl (fun hb => ?_) (fun hb => ?_) | (refine @And.intro (Zaa _ _ _ _) _ ?_ ?_; rotate_left; (conv => whnf); rotate_right))); all_goals (try ((guard_target = Zaa _ _ _ _); refine Zaf ?_; (all_goals (try simp only [Zaa, kzz, kz11, kz12, maxL, Zad] at *)); all_goals omega)))
  · clear hb
    refine Zau (Weak.fam (L := LW) (tl := [(0, .bp jB 0), (1, .int .u16 w), (4, .rp jF 5 (p.stack.length - 1) 0), (5, .bp (5, 0, 0) 0)]) (hl := [((5, 0, 0), Zam (Zbi b))] ++ memL m p) (F := famW p.stack) [] rfl (fun c hc => by cases hc) ?_ ?_ ?_ LW_keepL) ?_
    · exact .cons (.bp rfl rfl) (.cons (.imm rfl) (.cons (.rp rfl rfl rfl) (.cons (.bp rfl rfl) .nil)))
    · exact .old rfl rfl (GB.one (GVs.imm rfl) (fun _ => rfl)) (Zcm rfl rfl rfl rfl (fun _ => rfl) rfl rfl rfl rfl rfl rfl rfl (fun q hq => Zco hq))
    · exact Zfw (fun _ _ => rfl) (fun q hq => Zbf hq)
    have hle : p.stack.length - 1 < p.stack.length := by omega
    have hzz : d.toNat < (p.stack.getD (p.stack.length - 1) default).regs.length := by rw [hft]; omega
    have hat1 : (p.stack.getD (p.stack.length - 1) default).at_.toNat < b.ins.length := by rw [hft]; omega
    have hat0 : 0 ≤ (p.stack.getD (p.stack.length - 1) default).at_ := by rw [hft]; omega
    have hdl : 0 ≤ (b.ins.getD (p.stack.getD (p.stack.length - 1) default).at_.toNat default).dst ∧ (b.ins.getD (p.stack.getD (p.stack.length - 1) default).at_.toNat default).dst.toNat < (topF p).regs.length := by rw [hft, hdd, hf]; omega
    ((repeat' first | (refine Zat tok mix (by rfl) ?_; conv => whnf) | (refine @And.intro (Zaa _ _ _ _) _ ?_ ?_; rotate_left; (conv => whnf); rotate_right)); all_goals (try ((guard_target = Zaa _ _ _ _); refine Zaf ?_; (all_goals (try simp only [Zaa, kzz, kz11, kz12, maxL, Zad] at *)); all_goals omega)))
    refine fAV (x := Zbj p.stack (p.stack.length - 1)) (y := .rs jT 1 0 (topF p).regs.length) (Zbh hp0 rfl) ?_
    conv => whnf
    ((repeat' first | refine Zac ?_ | (refine Zab tok (by rfl) ?_; conv => whnf) | (refine @And.intro (Zaa _ _ _ _) _ ?_ ?_; rotate_left; (conv => whnf); rotate_right)); all_goals (try ((guard_target = Zaa _ _ _ _); refine Zaf ?_; (all_goals (try simp only [Zaa, kzz, kz11, kz12, maxL, Zad] at *)); all_goals omega)))
    refine fAV (x := Zbj p.stack (p.stack.length - 1)) (y := .rs jT 1 0 (topF p).regs.length) (Zbh hp0 rfl) ?_
    conv => whnf
    (repeat' (refine Zah ?_; conv => whnf))
    refine ⟨_, srcT jE jT, rfl, ?_⟩
    rw [← and_assoc]
    refine ⟨leaveG (s := p) (g := { frW f d w with at_ := f.at_ + 1 }) (n' := p.stack.length) hp0 rfl rfl (.inr (.inl rfl)) (.inr (.inr rfl)) rfl ?_ rfl (Nat.le_refl _) (fun q hq => ?_) ?_ rfl (Zed _) rfl (GB.rowI (Nat.le_of_eq (by simp [frW, hf])) (fun q hq => ⟨?_, ?_⟩)) (fun q hq => ?_), .tup .nil, keepT⟩
    · exact Zec (s := Zbo p { frW f d w with at_ := f.at_ + 1 }) (Zc6 (s := p) hp0).symm rfl rfl rfl rfl
    · exact Zcw (by omega)
    · refine Zdi.trans ?_
      rw [hft, hf, Zal (by omega) (by omega)]
      simp [frO, frW]
    · rw [Nat.zero_add, hft, hdd, rowSet (l := (topF p).regs) (by rw [hf]; omega)]; rfl
    · rw [Nat.zero_add, hft, hdd, rowSet (l := (topF p).regs) (by rw [hf]; omega), hf]; rfl
    · exact Za7 hq
  · exfalso
    rw [hft] at hb
    simp only [decide_eq_false_iff_not] at hb
    omega
end Go.Proofs.YtoelbgjpmpoolaaGreat
namespace Go.Proofs.YtoelbgjpmpoolaaGreat
open Go Dv
set_option maxRecDepth 10000
set_option linter.unusedSimpArgs false
set_option maxHeartbeats 4000000 in
theorem c_mAns3 (m : Zaj) (s p : Mach) (f : Za2) (w d : Int) (hp : popM s = p) (hf : topF p = f) (h2 : 1 < s.stack.length) (h32 : s.stack.length ≤ 32) (hF : OkF m f) (hn : endB m f = true) (hdd : (Za0 m f).fin.dst = d) (hd : 0 ≤ d ∧ d < f.regs.length) (hat : f.at_ < 1000000) :
    HG Tryz.prog LW 114 (mem m s) [.bp jB 0, .int .u16 w] (.tup []) (mem m (Zbo p { frW f d w with block := (Za0 m f).fin.to, at_ := 0 })) := by
  refine Zbc tok Tryz.func114 rfl (by decide +kernel) (Nat.le_of_ble_eq_true rfl) ?_
  have hmx : maxL = 4294967296 := rfl
  have hpl : p.stack.length = s.stack.length - 1 := by rw [← hp]; exact Zct
  have hP := c_mPop m s (by omega) (by omega)
  rw [hp] at hP
  have hft : p.stack.getD (p.stack.length - 1) default = f := hf
  have hB : HG Tryz.prog LW 112 (mem m p) [.bp jB 0, .rp jF 5 (p.stack.length - 1) 0] (.agg (Zbi (Za0 m f))) (mem m p) := by
    have := Zc8 m p (p.stack.length - 1) (by omega) (by rw [hft]; exact hF)
    rw [hft] at this; exact this
  have hE : f.at_ = (Za0 m f).ins.length := of_decide_eq_true hn
  have hgen : ∃ b, Za0 m f = b := ⟨_, rfl⟩
  obtain ⟨b, hbe⟩ := hgen
  have a0 := hF.a0
  have a1 := hF.a1
  rw [hbe] at hB hE hdd a1 ⊢
  have hp0 : 0 < p.stack.length := by omega
  (repeat' ((fail_if_success (show AWp _ _ _ (Code.region 1 _ _) _ _)); first | refine Zac ?_ | (refine Zab tok (by rfl) ?_; conv => whnf)))
  refine .inr ⟨_, _, _, uG (QH.tnM (by simp) (by simp) hP (by omega) (Za5 rfl rfl rfl rfl (fun _ => rfl)) rfl (fun q hq => Zaq hq)), ?_⟩
  conv => whnf
  (repeat' ((fail_if_success (show AWp _ _ _ (Code.region 2 _ _) _ _)); (fail_if_success (show AWp _ _ _ (Code.region 3 _ _) _ _)); first | refine Zac ?_ | (refine Zab tok (by rfl) ?_; conv => whnf) | (refine Zag ?_; conv => whnf) | refine Zae rfl (fun hb => ?_) (fun hb => ?_)))
  · exfalso; simp only [decide_eq_true_eq] at hb; omega
  clear hb
  (repeat' ((fail_if_success (show AWp _ _ _ (Code.region 4 _ _) _ _)); (refine Zab tok (by rfl) ?_; conv => whnf)))
  refine .inr ⟨_, _, _, uG (QH.tnM (by simp) (by simp) (Zfd m p hp0 (by omega)) (by omega) (Za5 rfl rfl rfl rfl (fun q => Zbq (fun hq => Zaq (by omega)))) rfl (fun q hq => (Zbq (fun hq => Zaq (by omega))).trans (Zaq hq))), ?_⟩
  conv => whnf
  (repeat' ((fail_if_success (show AWp _ _ _ (Code.region 5 _ _) _ _)); first | refine Zac ?_ | (refine Zab tok (by rfl) ?_; conv => whnf)))
  refine .inr ⟨_, _, _, uG (QH.tnM (by simp) (by simp) hB (by omega) (Za5 rfl rfl rfl rfl (fun q => Zbq (fun hq => big_far (by omega) hq (Zaq (by omega))))) rfl (fun q hq => (Zbq (fun hq => big_far (by omega) hq (Zaq (by omega)))).trans (Zaq hq))), ?_⟩
  conv => whnf
  ((repeat' ((fail_if_success (show AWp _ _ _ (Code.region 6 _ _) _ _)); (fail_if_success (show AWp _ _ _ (Code.region 8 _ _) _ _)); first | refine Zac ?_ | (refine Zat tok mix (by rfl) ?_; conv => whnf) | (refine Zag ?_; conv => whnf) | refine Zae rfl (fun hb => ?_) (fun hb => ?_) | (refine @And.intro (Zaa _ _ _ _) _ ?_ ?_; rotate_left; (conv => whnf); rotate_right))); all_goals (try ((guard_target = Zaa _ _ _ _); refine Zaf ?_; (all_goals (try simp only [Zaa, kzz, kz11, kz12, maxL, Zad] at *)); all_goals omega)))
  · exfalso
    rw [hft] at hb
    simp only [decide_eq_true_eq] at hb
    omega
  clear hb
  refine Zau (Weak.fam (L := LW) (tl := [(0, .bp jB 0), (1, .int .u16 w), (4, .rp jF 5 (p.stack.length - 1) 0), (5, .bp (5, 0, 0) 0)]) (hl := [((5, 0, 0), Zam (Zbi b))] ++ memL m p) (F := famW p.stack) [] rfl (fun c hc => by cases hc) ?_ ?_ ?_ LW_keepL) ?_
  · exact .cons (.bp rfl rfl) (.cons (.imm rfl) (.cons (.rp rfl rfl rfl) (.cons (.bp rfl rfl) .nil)))
  · exact .old rfl rfl (GB.one (GVs.imm rfl) (fun _ => rfl)) (Zcm rfl rfl rfl rfl (fun _ => rfl) rfl rfl rfl rfl rfl rfl rfl (fun q hq => Zco hq))
  · exact Zfw (fun _ _ => rfl) (fun q hq => Zbf hq)
  have hle : p.stack.length - 1 < p.stack.length := by omega
  have hzz : d.toNat < (p.stack.getD (p.stack.length - 1) default).regs.length := by rw [hft]; omega
  have hdl : 0 ≤ b.fin.dst ∧ b.fin.dst.toNat < (topF p).regs.length := by rw [hdd, hf]; omega
  have hG := c_Go (frW (topF p) d w) b.fin.to
  ((repeat' first | (refine Zat tok mix (by rfl) ?_; conv => whnf) | (refine @And.intro (Zaa _ _ _ _) _ ?_ ?_; rotate_left; (conv => whnf); rotate_right)); all_goals (try ((guard_target = Zaa _ _ _ _); refine Zaf ?_; (all_goals (try simp only [Zaa, kzz, kz11, kz12, maxL, Zad] at *)); all_goals omega)))
  refine fAV (x := Zbj p.stack (p.stack.length - 1)) (y := .rs jT 1 0 (topF p).regs.length) (Zbh hp0 rfl) ?_
  conv => whnf
  ((repeat' ((fail_if_success (show AWp _ _ _ (Code.region 9 _ _) _ _)); (refine @And.intro (Zaa _ _ _ _) _ ?_ ?_; rotate_left; (conv => whnf); rotate_right))); all_goals (try ((guard_target = Zaa _ _ _ _); refine Zaf ?_; (all_goals (try simp only [Zaa, kzz, kz11, kz12, maxL, Zad] at *)); all_goals omega)))
  refine Zc9 tok mix (by rfl) [0, 1, 2, 3, 4, 5, 6, 8] 30 (by rfl) (by rfl) (by rfl) ?_
  conv => whnf
  repeat' first
    | (refine fAV (x := Zbj p.stack (p.stack.length - 1)) (y := .rs jT 1 0 (topF p).regs.length) (Zbh hp0 rfl) ?_; (conv => whnf))
    | (refine @And.intro (Zaa _ _ _ _) _ ?_ ?_; rotate_left; (conv => whnf); rotate_right)
    | (guard_target = And _ _; refine @And.intro (gOp _ _ _ _ _ _ _ _ _) _ (by (conv => whnf); first | exact ⟨rfl, rfl⟩ | (refine fAV (x := Zbj p.stack (p.stack.length - 1)) (y := .rs jT 1 0 (topF p).regs.length) (Zbh hp0 rfl) ?_; (conv => whnf); exact ⟨rfl, rfl⟩)) ?_; conv => whnf)
    | (guard_target = And _ _; refine And.intro ?_ ?_ <;> (conv => whnf))
  all_goals (try ((guard_target = Zaa _ _ _ _); refine Zaf ?_; (all_goals (try simp only [Zaa, kzz, kz11, kz12, maxL, Zad] at *)); all_goals omega))
  all_goals (try (show AV.agg [_, _, _, Zbj p.stack (p.stack.length - 1), _] = AV.agg [_, _, _, .rs jT 1 0 (topF p).regs.length, _]; rw [Zbh hp0 rfl]; done))
  all_goals refine .inr ⟨_, _, _, uG (QH.lendF (rd := [jT]) hG (.cons (.agg (.cons (.imm rfl) (.cons (.imm rfl) (.cons (.imm rfl) (.cons (.row rfl (.head _) rfl ?_ (fun q hq => ?_)) (.cons (.imm rfl) .nil)))))) (.cons (.imm rfl) .nil)) (fun i hi => by rw [Zc3 hi]; rfl) rfl (fun j b e => by
    have := Zc3 (i := j) (by rw [e]; rfl)
    subst this; cases e; exact fun i hi => rfl)), ?_⟩
  all_goals (try (show (topF p).regs.length = _; simp [frW]; done))
  all_goals (try (rw [Nat.zero_add, hdd]; exact (rowSet (l := (topF p).regs) (by rw [hf]; omega)); done))
  all_goals conv => whnf
  all_goals (repeat' first
    | (refine fAV (x := Zbj p.stack (p.stack.length - 1)) (y := .rs jT 1 0 (topF p).regs.length) (Zbh hp0 rfl) ?_; (conv => whnf))
    | (refine @And.intro (Zaa _ _ _ _) _ ?_ ?_; rotate_left; (conv => whnf); rotate_right)
    | (guard_target = And _ _; refine @And.intro (gOp _ _ _ _ _ _ _ _ _) _ (by (conv => whnf); first | exact ⟨rfl, rfl⟩ | (refine fAV (x := Zbj p.stack (p.stack.length - 1)) (y := .rs jT 1 0 (topF p).regs.length) (Zbh hp0 rfl) ?_; (conv => whnf); exact ⟨rfl, rfl⟩)) ?_; conv => whnf)
    | (guard_target = And _ _; refine And.intro ?_ ?_ <;> (conv => whnf)))
  all_goals (try ((guard_target = Zaa _ _ _ _); refine Zaf ?_; (all_goals (try simp only [Zaa, kzz, kz11, kz12, maxL, Zad] at *)); all_goals omega))
  all_goals (try (show AV.agg [_, _, _, Zbj p.stack (p.stack.length - 1), _] = AV.agg [_, _, _, .rs jT 1 0 (topF p).regs.length, _]; rw [Zbh hp0 rfl]; done))
  skip
  refine ⟨_, srcT jE r0, rfl, ?_⟩
  rw [← and_assoc]
  refine ⟨leaveG (s := p) (g := { frW (topF p) d w with block := b.fin.to, at_ := 0 }) (n' := p.stack.length) hp0 ?_ rfl (.inr (.inl rfl)) (.inl rfl) rfl ?_ rfl (Nat.le_refl _) (fun q hq => ?_) ?_ rfl (Zed _) rfl (Zbv _) (fun q hq => ?_), .tup .nil, keepT⟩
  · rw [hf]
  · exact Zec (s := Zbo p { frW f d w with block := b.fin.to, at_ := 0 }) (Zc6 (s := p) hp0).symm rfl rfl rfl rfl
  · exact Zcw (by omega)
  · exact Zdi
  · refine Zew (d := []) (u := oneR (frW (topF p) d w).regs) rfl rfl ?_
    exact Za7 hq
theorem c_mAns (m : Zaj) (s : Mach) (w : Int) (h : 0 < s.stack.length) (h32 : s.stack.length ≤ 32) (hF : 1 < s.stack.length → OkF m (topF (popM s))) (hat : 1 < s.stack.length → (topF (popM s)).at_ < 1000000)
    (hd1 : 1 < s.stack.length → endB m (topF (popM s)) = true → 0 ≤ (Za0 m (topF (popM s))).fin.dst ∧ (Za0 m (topF (popM s))).fin.dst < (topF (popM s)).regs.length)
    (hd2 : 1 < s.stack.length → endB m (topF (popM s)) = false → 0 ≤ ((Za0 m (topF (popM s))).ins.getD (topF (popM s)).at_.toNat default).dst ∧ ((Za0 m (topF (popM s))).ins.getD (topF (popM s)).at_.toNat default).dst < (topF (popM s)).regs.length) :
    HG Tryz.prog LW 114 (mem m s) [.bp jB 0, .int .u16 w] (.tup []) (mem m (Zbw m s w)) := by
  unfold Zbw
  by_cases h1 : s.stack.length = 1
  · rw [if_pos h1]; exact c_mAns1 m s w h1
  · have h2 : 1 < s.stack.length := by omega
    rw [if_neg h1]
    unfold answF
    cases e : endB m (topF (popM s)) with
    | true => rw [if_pos rfl]; exact c_mAns3 m s _ _ w _ rfl rfl h2 h32 (hF h2) e rfl (hd1 h2 e) (hat h2)
    | false => rw [if_neg (by decide)]; exact c_mAns2 m s _ _ w _ rfl rfl h2 h32 (hF h2) e rfl (hd2 h2 e) (hat h2)
end Go.Proofs.YtoelbgjpmpoolaaGreat
namespace Go.Proofs.YtoelbgjpmpoolaaGreat
open Go Dv
set_option maxRecDepth 10000
set_option linter.unusedSimpArgs false
def memE (el : List (Dv.Id × Zan)) (m : Zaj) (s : Mach) : Zap := orH (Za4 (el ++ memL m s)) (famW s.stack)
theorem lookH_app (a b : List (Dv.Id × Zan)) (j : Dv.Id) : Za4 (a ++ b) j = match Za4 a j with
    | some x => some x
    | none => Za4 b j := by
  induction a with
  | nil => rfl
  | cons p r ih =>
    simp only [List.cons_append, Za4]
    cases idEq p.1 j with
    | true => rfl
    | false => exact ih
theorem memE_eq {el : List (Dv.Id × Zan)} {m : Zaj} {s : Mach} {j : Dv.Id} : memE el m s j = match Za4 el j with
    | some x => some x
    | none => mem m s j := by
  unfold memE mem orH
  rw [lookH_app]
  cases Za4 el j <;> rfl
theorem Ze0 {el : List (Dv.Id × Zan)} {m : Zaj} {s : Mach} {j : Dv.Id} (h : Za4 el j = none) : memE el m s j = mem m s j := by rw [memE_eq, h]
theorem mem_map {m : Zaj} {s : Mach} {ρ : Dv.Id → Option Dv.Id} (hF : ρ jF = some jF) (hE : ρ jE = some jE) (hT : ρ jT = some jT) (hq : ∀ q, q < s.stack.length - 1 → ρ (945, 0, q) = some (945, 0, q)) {j : Dv.Id} {b : Zan} (h : mem m s j = some b) : Dv.mapB ρ b = b := by
  rcases Zb8 h with ⟨rfl, rfl⟩ | ⟨rfl, rfl⟩ | ⟨rfl, rfl⟩ | ⟨rfl, rfl⟩ | ⟨q, rfl, hq, rfl⟩
  · show Zan.row false 22 1 (fun _ => Zbl ρ (macC m s)) = Zan.row false 22 1 (fun _ => macC m s)
    congr 1
    funext x
    show (match ρ jF with | some j => AV.rs j 5 0 s.stack.length | none => .any) :: _ = _
    rw [hF]
    unfold macC
    show _ :: [_, _, _, _, _, _, _, _, _, _, _, _, _, _, _, _, _, (match ρ jE with | some j => AV.rs j 1 0 s.events.length | none => .any), _, _, _] = _
    rw [hE]; rfl
  · show Zan.row false 5 s.stack.length (fun q => Zbl ρ (frC s.stack q)) = Zan.row false 5 s.stack.length (frC s.stack)
    congr 1
    funext q
    show [_, _, _, Zbk _ (Zbj s.stack q), _] = _
    unfold frC
    congr 4
    unfold Zbj
    by_cases hq2 : q < s.stack.length - 1
    · rw [Zcy hq2]
      show (match ρ (945, 0, q) with | some j => AV.rs j 1 0 _ | none => .any) = _
      rw [hq q hq2]
    · rw [Zdk (by omega)]
      show (match ρ jT with | some j => AV.rs j 1 0 _ | none => .any) = _
      rw [hT]
  · rfl
  · rfl
  · rfl
theorem kpH_is {h : Zap} {i : Dv.Id} (e : (h i).isSome = true) : kpH h i = some i := by
  unfold kpH; cases e2 : h i with
  | none => rw [e2] at e; cases e
  | some b => rfl
abbrev jX : Dv.Id := (3, 7, 0)
abbrev LX : List Dv.Id := [jB, jF, jX]
def frA (f : Za2) : List AV := [iv f.f, iv f.block, iv f.at_, .any, .int .u16 f.fly]
def xL (s : Mach) (i : Nat) : List (Dv.Id × Zan) := [(jX, .row false 5 1 (fun _ => frA (s.stack.getD i default)))]
theorem memX_kp {m : Zaj} {s : Mach} {i q : Nat} (h : q < s.stack.length - 1) : kpH (memE (xL s i) m s) (945, 0, q) = some (945, 0, q) :=
  kpH_is (show (famW s.stack (945, 0, q)).isSome = true by rw [Za7 h]; rfl)
theorem memX_closed (m : Zaj) (s : Mach) (i : Nat) : ∀ j b, memE (xL s i) m s j = some b → Dv.mapB (kpH (memE (xL s i) m s)) b = b := by
  intro j b e
  rw [memE_eq] at e
  cases e1 : idEq jX j with
  | true =>
    rw [show Za4 (xL s i) j = some (.row false 5 1 (fun _ => frA (s.stack.getD i default))) from by simp only [xL, Za4, e1]; rfl] at e
    cases e
    show Zan.row false 5 1 (fun _ => Zbl _ (frA (s.stack.getD i default))) = _
    rfl
  | false =>
    rw [show Za4 (xL s i) j = none from by simp only [xL, Za4, e1]; rfl] at e
    exact mem_map (kpH_is rfl) (kpH_is rfl) (kpH_is rfl) (fun q hq => memX_kp hq) e
theorem memX_sub {m : Zaj} {s : Mach} {i : Nat} {h : Zap} (h0 : h jX = some (.row false 5 1 (fun _ => frA (s.stack.getD i default)))) (h1 : h jB = some (macB m s)) (h2 : h jF = some (Zc2 s.stack)) (h3 : h jE = some (evB s.events)) (h4 : h jT = some (regB (topF s).regs)) (h5 : ∀ q, h (945, 0, q) = famW s.stack (945, 0, q)) : ∀ j b, memE (xL s i) m s j = some b → h j = some b := fun j b e => by
  rw [memE_eq] at e
  cases e1 : idEq jX j with
  | true =>
    rw [show Za4 (xL s i) j = some (.row false 5 1 (fun _ => frA (s.stack.getD i default))) from by simp only [xL, Za4, e1]; rfl] at e
    cases e
    rw [← Za6.1 e1]; exact h0
  | false =>
    rw [show Za4 (xL s i) j = none from by simp only [xL, Za4, e1]; rfl] at e
    exact Za5 h1 h2 h3 h4 h5 j b e
theorem QH.tnX {P : Program} {f : FuncId} {m : Zaj} {s : Mach} {i : Nat} {args : List AV} {r : AV} {h : Zap} (hc : HG P LX f (memE (xL s i) m s) args r (memE (xL s i) m s)) (h32 : s.stack.length ≤ 32) (hsub : ∀ j b, memE (xL s i) m s j = some b → h j = some b)
    (hag : Zbl (kpH (memE (xL s i) m s)) args = args) (hfree : ∀ q, famW s.stack (945, 0, q) = none → h (945, 0, q) = none) : QH P h f args dK (memE (xL s i) m s) r := by
  refine QH.frame hc hsub (memX_closed m s i) hag (fun j hj => ?_) (fun j hj => .inl hj) (fun j hj => ?_)
  · cases e : memE (xL s i) m s j with
    | none => rw [e] at hj; cases hj
    | some b =>
      rw [memE_eq] at e
      cases e1 : idEq jX j with
      | true => rw [← Za6.1 e1]; exact .inr ⟨.tail _ (.tail _ (.head _)), rfl, rfl⟩
      | false =>
        rw [show Za4 (xL s i) j = none from by simp only [xL, Za4, e1]; rfl] at e
        rcases Zb8 e with ⟨rfl, _⟩ | ⟨rfl, _⟩ | ⟨rfl, _⟩ | ⟨rfl, _⟩ | ⟨q, rfl, hq, _⟩
        · exact .inr ⟨.head _, rfl, rfl⟩
        · exact .inr ⟨.tail _ (.head _), rfl, rfl⟩
        · exact .inl rfl
        · exact .inl rfl
        · exact .inl (Zb9.2 (List.mem_cons_of_mem _ (List.mem_cons_of_mem _ (Zf4.2 ⟨q, by omega, rfl⟩))))
  · rcases List.mem_cons.1 (Zb9.1 hj) with rfl | hj
    · exact .inl rfl
    rcases List.mem_cons.1 hj with rfl | hj
    · exact .inl rfl
    obtain ⟨q, _, rfl⟩ := Zf4.1 hj
    by_cases hq2 : q < s.stack.length - 1
    · exact .inl (show (famW s.stack (945, 0, q)).isSome = true by rw [Za7 hq2]; rfl)
    · exact .inr (hfree q (Zaq (by omega)))
theorem leaveX {m : Zaj} {s : Mach} {i : Nat} {h : Zap} (h0 : h jX = some (.row false 5 1 (fun _ => frA (s.stack.getD i default)))) {b0 : Zan} (h1 : h jB = some b0) (hB : GB (srcL []) h (memE (xL s i) m s) b0 (macB m s)) (h2 : h jF = some (Zc2 s.stack)) (h3 : h jE = some (evB s.events)) (h4 : h jT = some (regB (topF s).regs)) (h5 : ∀ q, q < s.stack.length - 1 → h (945, 0, q) = some (regB (s.stack.getD q default).regs)) :
    (∀ j j' k, (memE (xL s i) m s j).isSome = true → (memE (xL s i) m s j').isSome = true → srcL [] j = some k → srcL [] j' = some k → j = j') ∧ ∀ j b, memE (xL s i) m s j = some b → HOk (srcL []) h (memE (xL s i) m s) j b := by
  refine ⟨fun j j' k _ _ e1 e2 => by cases e1; cases e2; rfl, fun j b e => ?_⟩
  have hfam : ∀ q, q < s.stack.length - 1 → (memE (xL s i) m s (945, 0, q)).isSome = true := fun q hq => by
    show (famW s.stack (945, 0, q)).isSome = true; rw [Za7 hq]; rfl
  rw [memE_eq] at e
  cases e1 : idEq jX j with
  | true =>
    rw [show Za4 (xL s i) j = some (.row false 5 1 (fun _ => frA (s.stack.getD i default))) from by simp only [xL, Za4, e1]; rfl] at e
    cases e
    rw [← Za6.1 e1]
    refine HOk.mk rfl h0 (GB.one ?_ (fun e => by cases e))
    exact .cons (.imm rfl) (.cons (.imm rfl) (.cons (.imm rfl) (.cons .any (.cons (.imm rfl) .nil))))
  | false =>
    rw [show Za4 (xL s i) j = none from by simp only [xL, Za4, e1]; rfl] at e
    rcases Zb8 e with ⟨rfl, rfl⟩ | ⟨rfl, rfl⟩ | ⟨rfl, rfl⟩ | ⟨rfl, rfl⟩ | ⟨q, rfl, hq, rfl⟩
    · exact HOk.mk rfl h1 hB
    · exact HOk.mk rfl h2 (GB_fr (fun _ _ => rfl) rfl hfam rfl)
    · exact HOk.mk rfl h3 (Zed _)
    · exact HOk.mk rfl h4 (Zbv _)
    · exact HOk.mk rfl (h5 q hq) (Zbv _)
theorem LW_keepX {m : Zaj} {s : Mach} {i : Nat} : ∀ j ∈ LX, Zeh j = true → (memE (xL s i) m s j).isSome = true ∧ srcL [] j = some j := fun j hj _ => by
  rcases List.mem_cons.1 hj with rfl | hj
  · exact ⟨rfl, rfl⟩
  rcases List.mem_cons.1 hj with rfl | hj
  · exact ⟨rfl, rfl⟩
  · rw [List.mem_singleton.1 hj]; exact ⟨rfl, rfl⟩
theorem c_mBlockX (m : Zaj) (s : Mach) (i : Nat) (hi : i < s.stack.length) (hF : OkF m (s.stack.getD i default)) : HG Tryz.prog LX 112 (memE (xL s i) m s) [.bp jB 0, .bp jX 0] (.agg (Zbi (Za0 m (s.stack.getD i default)))) (memE (xL s i) m s) := by
  refine Zbc tok Tryz.func112 rfl (by decide +kernel) (Nat.le_of_ble_eq_true rfl) ?_
  have hmx : maxL = 4294967296 := rfl
  have f0 := hF.f0
  have f1 := hF.f1
  have b0 := hF.b0
  have b1 : (s.stack.getD i default).block < (m.funcs.getD (s.stack.getD i default).f.toNat default).blocks.length := hF.b1
  ((repeat' first | refine Zac ?_ | (refine Zab tok (by rfl) ?_; conv => whnf) | (refine Zat tok mix (by rfl) ?_; conv => whnf) | (refine Zah ?_; conv => whnf) | (refine @And.intro (Zaa _ _ _ _) _ ?_ ?_; rotate_left; (conv => whnf); rotate_right)); all_goals (try ((guard_target = Zaa _ _ _ _); refine Zaf ?_; (all_goals (try simp only [Zaa, kzz, kz11, kz12, maxL, Zad] at *)); all_goals omega)))
  refine ⟨_, srcL [], rfl, ?_⟩
  rw [← and_assoc]
  exact ⟨leaveX rfl rfl (Zcj rfl rfl rfl) rfl rfl rfl (fun q hq => Za7 hq), .agg (GVs.imm rfl), LW_keepX⟩
theorem bigX_fam {m : Zaj} {s : Mach} {i : Nat} {d : List Dv.Id} {h : Zap} {q : Nat} (hq : q < s.stack.length - 1) : bigH d (memE (xL s i) m s) h (945, 0, q) = some (regB (s.stack.getD q default).regs) := by
  unfold bigH
  rw [show memE (xL s i) m s (945, 0, q) = famW s.stack (945, 0, q) from rfl, Za7 hq]
set_option maxHeartbeats 2000000 in
theorem c_mPadX (m : Zaj) (s : Mach) (i : Nat) (hi : i < s.stack.length) (h32 : s.stack.length ≤ 32) (hF : OkF m (s.stack.getD i default)) (hp : (Za0 m (s.stack.getD i default)).fin.kind = 4 → 0 ≤ (Za0 m (s.stack.getD i default)).fin.pad ∧ (Za0 m (s.stack.getD i default)).fin.pad < (Zdb m (s.stack.getD i default)).blocks.length) :
    HG Tryz.prog LX 161 (memE (xL s i) m s) [.bp jB 0, .bp jX 0] (.tup [iv (padV m (s.stack.getD i default)).1, .agg (Zd8 (padV m (s.stack.getD i default)).2.1), .bool (padV m (s.stack.getD i default)).2.2]) (memE (xL s i) m s) := by
  refine Zbc tok Tryz.func161 rfl (by decide +kernel) (Nat.le_of_ble_eq_true rfl) ?_
  have hmx : maxL = 4294967296 := rfl
  have hB := c_mBlockX m s i hi hF
  have f0 := hF.f0
  have f1 := hF.f1
  have a0 := hF.a0
  have a1 := hF.a1
  have hE : endB m (s.stack.getD i default) = decide ((s.stack.getD i default).at_ = (Za0 m (s.stack.getD i default)).ins.length) := rfl
  have hpl : (Za0 m (s.stack.getD i default)).fin.kind = 4 → 0 ≤ (Za0 m (s.stack.getD i default)).fin.pad ∧ (Za0 m (s.stack.getD i default)).fin.pad < (m.funcs.getD (s.stack.getD i default).f.toNat default).blocks.length := hp
  have hpf : padF m (s.stack.getD i default) = ((m.funcs.getD (s.stack.getD i default).f.toNat default).blocks.getD (Za0 m (s.stack.getD i default)).fin.pad.toNat default).pad := rfl
  have hV : padV m (s.stack.getD i default) = if endB m (s.stack.getD i default) = true ∧ (Za0 m (s.stack.getD i default)).fin.kind = 4 then ((Za0 m (s.stack.getD i default)).fin.pad, padF m (s.stack.getD i default), true) else (0, ⟨0, [], false, false⟩, false) := rfl
  have hgen : ∃ b, Za0 m (s.stack.getD i default) = b := ⟨_, rfl⟩
  obtain ⟨b, hbe⟩ := hgen
  rw [hbe] at hB hE hpl hpf hV a1
  (repeat' first | refine Zac ?_ | (refine Zab tok (by rfl) ?_; conv => whnf))
  refine .inr ⟨_, _, _, uG (QH.tnX hB h32 (memX_sub rfl rfl rfl rfl rfl (fun _ => rfl)) rfl (fun q hq => hq)), ?_⟩
  conv => whnf
  (repeat' ((fail_if_success (show AWp _ _ _ (Code.region 3 _ _) _ _)); (fail_if_success (show AWp _ _ _ (Code.region 4 _ _) _ _)); first | refine Zac ?_ | (refine Zat tok mix (by rfl) ?_; conv => whnf) | (refine Zag ?_; conv => whnf) | refine Zae rfl (fun hb => ?_) (fun hb => ?_)))
  · have hn : ¬ (endB m (s.stack.getD i default) = true ∧ b.fin.kind = 4) := by
      rintro ⟨h1, h2⟩
      rw [hE, decide_eq_true_eq] at h1
      rw [decide_eq_false (show ¬ (s.stack.getD i default).at_ < (b.ins.length : Int) by omega), decide_eq_true h2] at hb
      cases hb
    rw [if_neg hn] at hV
    rw [hV]
    (repeat' first | (refine Zab tok (by rfl) ?_; conv => whnf) | (refine Zah ?_; conv => whnf))
    refine ⟨_, srcL [], rfl, ?_⟩
    rw [← and_assoc]
    exact ⟨leaveX rfl rfl (Zcj rfl rfl rfl) rfl rfl rfl (fun q hq => bigX_fam hq), .tup (.cons (.imm rfl) (.cons (.agg (.cons (.imm rfl) (.cons (.wk rfl (.nsl rfl)) (.cons (.imm rfl) (.cons (.imm rfl) .nil))))) (.cons (.imm rfl) .nil))), LW_keepX⟩
  have hy : endB m (s.stack.getD i default) = true ∧ b.fin.kind = 4 := by
    rw [hE, decide_eq_true_eq]
    by_cases e1 : (s.stack.getD i default).at_ < (b.ins.length : Int)
    · rw [decide_eq_true e1] at hb; cases hb
    · rw [decide_eq_false e1] at hb
      by_cases e2 : b.fin.kind = 4
      · exact ⟨by omega, e2⟩
      · rw [decide_eq_false e2] at hb; cases hb
  clear hb
  rw [if_pos hy] at hV
  rw [hV]
  obtain ⟨hp0, hp1⟩ := hpl hy.2
  ((repeat' first | (refine Zat tok mix (by rfl) ?_; conv => whnf) | (refine Zah ?_; conv => whnf) | (refine @And.intro (Zaa _ _ _ _) _ ?_ ?_; rotate_left; (conv => whnf); rotate_right)); all_goals (try ((guard_target = Zaa _ _ _ _); refine Zaf ?_; (all_goals (try simp only [Zaa, kzz, kz11, kz12, maxL, Zad] at *)); all_goals omega)))
  refine ⟨_, srcL [], rfl, ?_⟩
  rw [← and_assoc]
  rw [hpf]
  exact ⟨leaveX rfl rfl (Zcj rfl rfl rfl) rfl rfl rfl (fun q hq => bigX_fam hq), .tup (.cons (.imm rfl) (.cons (.agg (GVs.imm rfl)) (.cons (.imm rfl) .nil))), LW_keepX⟩
end Go.Proofs.YtoelbgjpmpoolaaGreat
namespace Go.Proofs.YtoelbgjpmpoolaaGreat
open Go Dv
set_option maxRecDepth 10000
set_option linter.unusedSimpArgs false
section
variable {P : Program} {f : FuncId} {m : Zaj} {s : Mach} {args : List AV} {r : AV} {h : Zap} {el : List (Dv.Id × Zan)} {L : List Dv.Id}
theorem memE_some {j : Dv.Id} {b : Zan} (e : memE el m s j = some b) : Za4 el j = some b ∨ (Za4 el j = none ∧ mem m s j = some b) := by
  rw [memE_eq] at e
  cases e1 : Za4 el j with
  | some x => rw [e1] at e; exact .inl e
  | none => rw [e1] at e; exact .inr ⟨rfl, e⟩
theorem memE_closed (hB : Za4 el jF = none) (hE : Za4 el jE = none) (hT : Za4 el jT = none) (hq : ∀ q, Za4 el (945, 0, q) = none) (hc : ∀ j b, Za4 el j = some b → Dv.mapB (kpH (memE el m s)) b = b) : ∀ j b, memE el m s j = some b → Dv.mapB (kpH (memE el m s)) b = b := by
  intro j b e
  rcases memE_some e with e | ⟨_, e⟩
  · exact hc j b e
  · exact mem_map (kpH_is (by rw [Ze0 hB]; rfl)) (kpH_is (by rw [Ze0 hE]; rfl)) (kpH_is (by rw [Ze0 hT]; rfl)) (fun q hq2 => kpH_is (by rw [Ze0 (hq q), Zdu, Za7 hq2]; rfl)) e
theorem QH.tnE (hm1 : jB ∈ L) (hm2 : jF ∈ L) (hB : Za4 el jB = none) (hF : Za4 el jF = none) (hE : Za4 el jE = none) (hT : Za4 el jT = none) (hq : ∀ q, Za4 el (945, 0, q) = none) (hcl : ∀ j b, Za4 el j = some b → Dv.mapB (kpH (memE el m s)) b = b) (hp : ∀ j b, Za4 el j = some b → j ∈ L ∧ Zeh j = true)
    (hc : HG P L f (memE el m s) args r (memE el m s)) (h32 : s.stack.length ≤ 32) (hsub : ∀ j b, memE el m s j = some b → h j = some b)
    (hag : Zbl (kpH (memE el m s)) args = args) (hfree : ∀ q, famW s.stack (945, 0, q) = none → h (945, 0, q) = none) : QH P h f args dK (memE el m s) r := by
  refine QH.frame hc hsub (memE_closed hF hE hT hq hcl) hag (fun j hj => ?_) (fun j hj => .inl hj) (fun j hj => ?_)
  · cases e : memE el m s j with
    | none => rw [e] at hj; cases hj
    | some b =>
      rcases memE_some e with e1 | ⟨_, e1⟩
      · have := hp j b e1
        exact .inr ⟨this.1, this.2, rfl⟩
      · rcases Zb8 e1 with ⟨rfl, _⟩ | ⟨rfl, _⟩ | ⟨rfl, _⟩ | ⟨rfl, _⟩ | ⟨q, rfl, hq2, _⟩
        · exact .inr ⟨hm1, rfl, rfl⟩
        · exact .inr ⟨hm2, rfl, rfl⟩
        · exact .inl rfl
        · exact .inl rfl
        · exact .inl (Zb9.2 (List.mem_cons_of_mem _ (List.mem_cons_of_mem _ (Zf4.2 ⟨q, by omega, rfl⟩))))
  · rcases List.mem_cons.1 (Zb9.1 hj) with rfl | hj
    · exact .inl (by rw [Ze0 hE]; rfl)
    rcases List.mem_cons.1 hj with rfl | hj
    · exact .inl (by rw [Ze0 hT]; rfl)
    obtain ⟨q, _, rfl⟩ := Zf4.1 hj
    by_cases hq2 : q < s.stack.length - 1
    · exact .inl (by rw [Ze0 (hq q), Zdu, Za7 hq2]; rfl)
    · exact .inr (hfree q (Zaq (by omega)))
theorem memE_sub (hel : ∀ j b, Za4 el j = some b → h j = some b) (h1 : h jB = some (macB m s)) (h2 : h jF = some (Zc2 s.stack)) (h3 : h jE = some (evB s.events)) (h4 : h jT = some (regB (topF s).regs)) (h5 : ∀ q, h (945, 0, q) = famW s.stack (945, 0, q)) : ∀ j b, memE el m s j = some b → h j = some b := fun j b e => by
  rcases memE_some e with e1 | ⟨_, e1⟩
  · exact hel j b e1
  · exact Za5 h1 h2 h3 h4 h5 j b e1
end
abbrev c1 : Dv.Id := (4, 7, 0)
abbrev c2 : Dv.Id := (5, 7, 0)
abbrev LC : List Dv.Id := [jB, jF, c1, c2]
abbrev c1B : Zan := .row false 1 1 (fun _ => [.bp jB 0])
abbrev c2B (w : Int) : Zan := .row true 1 1 (fun _ => [.int .u16 w])
def cL (w : Int) : List (Dv.Id × Zan) := [(c1, c1B), (c2, c2B w)]
theorem cL_some {w : Int} {j : Dv.Id} {b : Zan} (h : Za4 (cL w) j = some b) : (j = c1 ∧ b = c1B) ∨ (j = c2 ∧ b = c2B w) := by
  simp only [cL, Za4] at h
  cases e1 : idEq c1 j with
  | true => rw [e1] at h; exact .inl ⟨(Za6.1 e1).symm, (Option.some.inj h).symm⟩
  | false =>
    cases e2 : idEq c2 j with
    | true => rw [e1, e2] at h; exact .inr ⟨(Za6.1 e2).symm, (Option.some.inj h).symm⟩
    | false => rw [e1, e2] at h; cases h
theorem cL_closed {m : Zaj} {s : Mach} {w : Int} : ∀ j b, Za4 (cL w) j = some b → Dv.mapB (kpH (memE (cL w) m s)) b = b := fun j b e => by
  rcases cL_some e with ⟨rfl, rfl⟩ | ⟨rfl, rfl⟩ <;> rfl
theorem cL_pin {w : Int} : ∀ j b, Za4 (cL w) j = some b → j ∈ LC ∧ Zeh j = true := fun j b e => by
  rcases cL_some e with ⟨rfl, rfl⟩ | ⟨rfl, rfl⟩
  · exact ⟨.tail _ (.tail _ (.head _)), rfl⟩
  · exact ⟨.tail _ (.tail _ (.tail _ (.head _))), rfl⟩
theorem LC_keep {m : Zaj} {s : Mach} {w : Int} : ∀ j ∈ LC, Zeh j = true → (memE (cL w) m s j).isSome = true ∧ srcL [] j = some j := fun j hj _ => by
  rcases List.mem_cons.1 hj with rfl | hj
  · exact ⟨rfl, rfl⟩
  rcases List.mem_cons.1 hj with rfl | hj
  · exact ⟨rfl, rfl⟩
  rcases List.mem_cons.1 hj with rfl | hj
  · exact ⟨rfl, rfl⟩
  · rw [List.mem_singleton.1 hj]; exact ⟨rfl, rfl⟩
theorem LC_keep2 {tl : List (Dv.Id × Zan)} {F : Zap} {S : List (Dv.Id × Option Dv.Id)} (hB : (orH (Za4 tl) F jB).isSome = true ∧ srcL S jB = some jB := by exact ⟨rfl, rfl⟩) (hF : (orH (Za4 tl) F jF).isSome = true ∧ srcL S jF = some jF := by exact ⟨rfl, rfl⟩) (h1 : (orH (Za4 tl) F c1).isSome = true ∧ srcL S c1 = some c1 := by exact ⟨rfl, rfl⟩) (h2 : (orH (Za4 tl) F c2).isSome = true ∧ srcL S c2 = some c2 := by exact ⟨rfl, rfl⟩) : ∀ i ∈ LC, Zeh i = true → (orH (Za4 tl) F i).isSome = true ∧ srcL S i = some i := fun i hi _ => by
  rcases List.mem_cons.1 hi with rfl | hi
  · exact hB
  rcases List.mem_cons.1 hi with rfl | hi
  · exact hF
  rcases List.mem_cons.1 hi with rfl | hi
  · exact h1
  · rw [List.mem_singleton.1 hi]; exact h2
theorem leaveC {m : Zaj} {s : Mach} {w : Int} {h : Zap} (k1 : h c1 = some c1B) (k2 : h c2 = some (c2B w)) {b0 : Zan} (h1 : h jB = some b0) (hB : GB (srcL []) h (memE (cL w) m s) b0 (macB m s)) (h2 : h jF = some (Zc2 s.stack)) (h3 : h jE = some (evB s.events)) (h4 : h jT = some (regB (topF s).regs)) (h5 : ∀ q, q < s.stack.length - 1 → h (945, 0, q) = some (regB (s.stack.getD q default).regs)) :
    (∀ j j' k, (memE (cL w) m s j).isSome = true → (memE (cL w) m s j').isSome = true → srcL [] j = some k → srcL [] j' = some k → j = j') ∧ ∀ j b, memE (cL w) m s j = some b → HOk (srcL []) h (memE (cL w) m s) j b := by
  refine ⟨fun j j' k _ _ e1 e2 => by cases e1; cases e2; rfl, fun j b e => ?_⟩
  have hfam : ∀ q, q < s.stack.length - 1 → (memE (cL w) m s (945, 0, q)).isSome = true := fun q hq => by
    show (famW s.stack (945, 0, q)).isSome = true; rw [Za7 hq]; rfl
  rcases memE_some e with e | ⟨_, e⟩
  · rcases cL_some e with ⟨rfl, rfl⟩ | ⟨rfl, rfl⟩
    · exact HOk.mk rfl k1 (GB.one (.cons (.bp rfl rfl) .nil) (fun e => by cases e))
    · exact HOk.mk rfl k2 (GB.one (.cons (.imm rfl) .nil) (fun _ => rfl))
  · rcases Zb8 e with ⟨rfl, rfl⟩ | ⟨rfl, rfl⟩ | ⟨rfl, rfl⟩ | ⟨rfl, rfl⟩ | ⟨q, rfl, hq, rfl⟩
    · exact HOk.mk rfl h1 hB
    · exact HOk.mk rfl h2 (GB_fr (fun _ _ => rfl) rfl hfam rfl)
    · exact HOk.mk rfl h3 (Zed _)
    · exact HOk.mk rfl h4 (Zbv _)
    · exact HOk.mk rfl (h5 q hq) (Zbv _)
theorem padV_catch {m : Zaj} {f : Za2} {w : Int} : (bif (padV m f).2.2 then catchF (padV m f).2.1 w else false) = Zeg m f w false := by
  unfold padV Zeg
  cases endB m f <;> by_cases h : (Za0 m f).fin.kind = 4 <;> simp [h]
theorem padV_catch2 {m : Zaj} {f : Za2} {w : Int} : (bif (padV m f).2.2 then (bif (padV m f).2.1.cleanup then true else catchF (padV m f).2.1 w) else false) = Zeg m f w true := by
  unfold padV Zeg
  cases endB m f <;> by_cases h : (Za0 m f).fin.kind = 4 <;> simp [h]
  cases (padF m f).cleanup <;> simp
set_option maxHeartbeats 4000000 in
theorem c_mThr1 (m : Zaj) (s : Mach) (w : Int) (i : Nat) (hi : i < s.stack.length) (h32 : s.stack.length ≤ 32) (hF : OkF m (s.stack.getD i default)) (hp : (Za0 m (s.stack.getD i default)).fin.kind = 4 → 0 ≤ (Za0 m (s.stack.getD i default)).fin.pad ∧ (Za0 m (s.stack.getD i default)).fin.pad < (Zdb m (s.stack.getD i default)).blocks.length) :
    HG Tryz.prog LC 160 (memE (cL w) m s) [.agg (frC s.stack i), .bp c1 0, .bp c2 0] (.bool (Zbt m s.stack w false i)) (memE (cL w) m s) := by
  refine Zbc tok Tryz.func160 rfl (by decide +kernel) (Nat.le_of_ble_eq_true rfl) ?_
  have hP := c_mPadX m s i hi h32 hF hp
  refine Zac ?_
  refine Zdp (α := Unit) (fun _ => ⟨lookT [(1, .bp c1 0), (2, .bp c2 0), (3, .bp jX 0), (4, .bool false)], orH (Za4 (xL s i ++ (cL w ++ memL m s))) (famW s.stack)⟩) (fun _ => True) ?_ ?_
  · by_cases hq : i < s.stack.length - 1
    · refine Zau (Weak.fam (L := LC) (tl := [(0, .agg [iv (s.stack.getD i default).f, iv (s.stack.getD i default).block, iv (s.stack.getD i default).at_, .rs (945, 0, i) 1 0 (s.stack.getD i default).regs.length, .int .u16 (s.stack.getD i default).fly]), (1, .bp c1 0), (2, .bp c2 0)]) (hl := cL w ++ memL m s) (F := famW s.stack) [] rfl (fun c hc => by cases hc) ?_ ?_ ?_ LC_keep) ?_
      · exact .cons (.agg (.cons (.imm rfl) (.cons (.imm rfl) (.cons (.imm rfl) (.cons (.cc (Zcy hq) rfl (.rs (Za7 hq) rfl rfl rfl)) (.cons (.imm rfl) .nil)))))) (.cons (.bp rfl rfl) (.cons (.bp rfl rfl) .nil))
      · refine .old rfl rfl (GB.one (.cons (.bp rfl rfl) .nil) (fun e => by cases e)) (.old rfl rfl (GB.one (.cons (.imm rfl) .nil) (fun _ => rfl)) ?_)
        exact Zcm rfl rfl rfl rfl (fun _ => rfl) rfl rfl rfl rfl rfl rfl rfl (fun q hq => Zco hq)
      · exact Zfw (fun _ _ => rfl) (fun q hq => Za7 hq)
      (repeat' (refine Zab tok (by rfl) ?_; conv => whnf))
      refine ⟨(), trivial, Weak.fam [(jX, some (3, 0, 0))] rfl (fun c hc => ?_) ?_ ?_ ?_ LC_keep2⟩
      · rw [List.mem_singleton.1 (show c ∈ [(3, 0, 0)] from hc)]; exact .inl rfl
      · exact .cons (.bp rfl rfl) (.cons (.bp rfl rfl) (.cons (.bp rfl rfl) (.cons (.imm rfl) .nil)))
      · refine .old rfl rfl (GB.one (.cons (.imm rfl) (.cons (.imm rfl) (.cons (.imm rfl) (.cons .any (.cons (.imm rfl) .nil))))) (fun e => by cases e)) (.old rfl rfl (GB.one (.cons (.bp rfl rfl) .nil) (fun e => by cases e)) (.old rfl rfl (GB.one (.cons (.imm rfl) .nil) (fun _ => rfl)) ?_))
        exact Zcm rfl rfl rfl rfl (fun _ => rfl) rfl rfl rfl rfl rfl rfl rfl (fun q hq => Zco hq)
      · exact Zfw (fun _ _ => rfl) (fun q hq => Za7 hq)
    · refine Zau (Weak.fam (L := LC) (tl := [(0, .agg [iv (s.stack.getD i default).f, iv (s.stack.getD i default).block, iv (s.stack.getD i default).at_, .rs jT 1 0 (s.stack.getD i default).regs.length, .int .u16 (s.stack.getD i default).fly]), (1, .bp c1 0), (2, .bp c2 0)]) (hl := cL w ++ memL m s) (F := famW s.stack) [] rfl (fun c hc => by cases hc) ?_ ?_ ?_ LC_keep) ?_
      · exact .cons (.agg (.cons (.imm rfl) (.cons (.imm rfl) (.cons (.imm rfl) (.cons (.cc (Zdk (by omega)) rfl (.rs rfl rfl rfl rfl)) (.cons (.imm rfl) .nil)))))) (.cons (.bp rfl rfl) (.cons (.bp rfl rfl) .nil))
      · refine .old rfl rfl (GB.one (.cons (.bp rfl rfl) .nil) (fun e => by cases e)) (.old rfl rfl (GB.one (.cons (.imm rfl) .nil) (fun _ => rfl)) ?_)
        exact Zcm rfl rfl rfl rfl (fun _ => rfl) rfl rfl rfl rfl rfl rfl rfl (fun q hq => Zco hq)
      · exact Zfw (fun _ _ => rfl) (fun q hq => Za7 hq)
      (repeat' (refine Zab tok (by rfl) ?_; conv => whnf))
      refine ⟨(), trivial, Weak.fam [(jX, some (3, 0, 0))] rfl (fun c hc => ?_) ?_ ?_ ?_ LC_keep2⟩
      · rw [List.mem_singleton.1 (show c ∈ [(3, 0, 0)] from hc)]; exact .inl rfl
      · exact .cons (.bp rfl rfl) (.cons (.bp rfl rfl) (.cons (.bp rfl rfl) (.cons (.imm rfl) .nil)))
      · refine .old rfl rfl (GB.one (.cons (.imm rfl) (.cons (.imm rfl) (.cons (.imm rfl) (.cons .any (.cons (.imm rfl) .nil))))) (fun e => by cases e)) (.old rfl rfl (GB.one (.cons (.bp rfl rfl) .nil) (fun e => by cases e)) (.old rfl rfl (GB.one (.cons (.imm rfl) .nil) (fun _ => rfl)) ?_))
        exact Zcm rfl rfl rfl rfl (fun _ => rfl) rfl rfl rfl rfl rfl rfl rfl (fun q hq => Zco hq)
      · exact Zfw (fun _ _ => rfl) (fun q hq => Za7 hq)
  rintro _ _ τ hτ
  refine Zau hτ ?_
  (repeat' first | refine Zac ?_ | (refine Zab tok (by rfl) ?_; conv => whnf))
  refine .inr ⟨_, _, _, uG (QH.tnX hP h32 (memX_sub rfl rfl rfl rfl rfl (fun _ => rfl)) rfl (fun q hq => hq)), ?_⟩
  conv => whnf
  (repeat' first | refine Zac ?_ | (refine Zab tok (by rfl) ?_; conv => whnf))
  refine .inl ⟨_, _, _, uG (QC.fc (c_fCatches (padV m (s.stack.getD i default)).2.1 w) rfl), ?_⟩
  conv => whnf
  (repeat' (refine Zah ?_; conv => whnf))
  refine ⟨_, srcL [], rfl, ?_⟩
  rw [← and_assoc]
  refine ⟨leaveC rfl rfl rfl (Zcj rfl rfl rfl) rfl rfl rfl (fun q hq => bigX_fam hq), GV.bool ?_, LC_keep⟩
  exact padV_catch
end Go.Proofs.YtoelbgjpmpoolaaGreat
namespace Go.Proofs.YtoelbgjpmpoolaaGreat
open Go Dv
set_option maxRecDepth 10000
set_option linter.unusedSimpArgs false
def idxP (p : Nat → Bool) (n : Nat) : Int := match (List.range n).find? p with
  | some i => i
  | none => -1
theorem idxP_at {p : Nat → Bool} {n i : Nat} (hi : i < n) (h : p i = true) (hl : ∀ j, j < i → p j = false) : idxP p n = i := by
  unfold idxP
  rw [List.find?_range_eq_some.2 ⟨h, List.mem_range.2 hi, fun j hj => by rw [hl j hj]; rfl⟩]
theorem idxP_none {p : Nat → Bool} {n : Nat} (hl : ∀ j, j < n → p j = false) : idxP p n = -1 := by
  unfold idxP
  rw [List.find?_range_eq_none.2 (fun j hj => by rw [hl j hj]; rfl)]
theorem idxP_any {p : Nat → Bool} {n : Nat} : decide (0 ≤ idxP p n) = (List.range n).any p := by
  unfold idxP
  cases e : (List.range n).find? p with
  | none =>
    have : (List.range n).any p = false := by
      rw [Bool.eq_false_iff]; intro h
      obtain ⟨x, hx, hp⟩ := List.any_eq_true.1 h
      have := List.find?_eq_none.1 e x hx
      exact this hp
    rw [this]; rfl
  | some i =>
    have h1 := List.find?_some e
    have h2 := List.mem_of_find?_eq_some e
    rw [List.any_eq_true.2 ⟨i, h2, h1⟩]
    exact decide_eq_true (Int.natCast_nonneg i)
theorem weakC {n : Nat} {tl : List (Nat × AV)} {m : Zaj} {s : Mach} {w : Int} {σ : ASt} (ht : TLg (srcL []) σ.h (orH (Za4 (cL w ++ memL m s)) (famW s.stack)) σ.tm tl) (k1 : σ.h c1 = some c1B) (k2 : σ.h c2 = some (c2B w)) (h1 : σ.h jB = some (macB m s)) (h2 : σ.h jF = some (Zc2 s.stack)) (h3 : σ.h jE = some (evB s.events)) (h4 : σ.h jT = some (regB (topF s).regs)) (h5 : ∀ q, q < s.stack.length - 1 → σ.h (945, 0, q) = some (regB (s.stack.getD q default).regs)) :
    Weak n LC σ (mkF tl (cL w ++ memL m s) (famW s.stack)) := by
  refine Weak.fam [] rfl (fun c hc => by cases hc) ht ?_ ?_ LC_keep
  · refine .old rfl k1 (GB.one (.cons (.bp rfl rfl) .nil) (fun e => by cases e)) (.old rfl k2 (GB.one (.cons (.imm rfl) .nil) (fun _ => rfl)) ?_)
    exact Zcm rfl rfl rfl rfl (fun _ => rfl) h1 h2 h3 h4 rfl rfl rfl (fun q hq => Zco hq)
  · exact Zfw (fun _ _ => rfl) h5
theorem Zf2 {m : Zaj} {s : Mach} {w : Int} {d : List Dv.Id} {h : Zap} {q : Nat} (hq : q < s.stack.length - 1) : bigH d (memE (cL w) m s) h (945, 0, q) = some (regB (s.stack.getD q default).regs) := by
  unfold bigH
  rw [show memE (cL w) m s (945, 0, q) = famW s.stack (945, 0, q) from rfl, Za7 hq]
set_option maxHeartbeats 4000000 in
theorem c_IndexFr (m : Zaj) (s : Mach) (w : Int) (h32 : s.stack.length ≤ 32) (hF : ∀ i, i < s.stack.length → OkF m (s.stack.getD i default)) (hp : ∀ i, i < s.stack.length → (Za0 m (s.stack.getD i default)).fin.kind = 4 → 0 ≤ (Za0 m (s.stack.getD i default)).fin.pad ∧ (Za0 m (s.stack.getD i default)).fin.pad < (Zdb m (s.stack.getD i default)).blocks.length) :
    HG Tryz.prog LC 196 (memE (cL w) m s) [.rs jF 5 0 s.stack.length, .fn 160 [.bp c1 0, .bp c2 0]] (iv (idxP (Zbt m s.stack w false) s.stack.length)) (memE (cL w) m s) := by
  refine Zbc tok Tryz.func196 rfl (by decide +kernel) (Nat.le_of_ble_eq_true rfl) ?_
  have hmx : maxL = 4294967296 := rfl
  have hC : ∀ k (hk : k < s.stack.length) T, Zbj s.stack k = .rs T 1 0 (s.stack.getD k default).regs.length → HG Tryz.prog LC 160 (memE (cL w) m s) [.agg [iv (s.stack.getD k default).f, iv (s.stack.getD k default).block, iv (s.stack.getD k default).at_, .rs T 1 0 (s.stack.getD k default).regs.length, .int .u16 (s.stack.getD k default).fly], .bp c1 0, .bp c2 0] (.bool (Zbt m s.stack w false k)) (memE (cL w) m s) := fun k hk T e => by
    have := c_mThr1 m s w k hk h32 (hF k hk) (hp k hk)
    unfold frC at this
    rw [e] at this; exact this
  (repeat' first | refine Zac ?_ | (refine Zab tok (by rfl) ?_; conv => whnf) | refine Zai ?_)
  refine Za1 (fun i : Nat => mkF [(0, .rs jF 5 0 s.stack.length), (1, .fn 160 [.bp c1 0, .bp c2 0]), (7, iv s.stack.length), (8, iv i)] (cL w ++ memL m s) (famW s.stack)) (fun i => i ≤ s.stack.length ∧ ∀ j, j < i → Zbt m s.stack w false j = false) (fun i => s.stack.length - i) 0 ⟨Nat.zero_le _, fun j h => absurd h (Nat.not_lt_zero j)⟩ ?_ ?_
  · exact weakC (.cons (.rs rfl rfl rfl rfl) (.cons (.fn (.cons (.bp rfl rfl) (.cons (.bp rfl rfl) .nil))) (.cons (.imm rfl) (.cons (.imm rfl) .nil)))) rfl rfl rfl rfl rfl rfl (fun q hq => Za7 hq)
  rintro i ⟨hi, hno⟩
  have hz : 0 + (i : Int).toNat = i := by simp
  (repeat' ((fail_if_success (show AWp _ _ _ (Code.region 3 _ _) _ _)); (fail_if_success (show AWp _ _ _ (Code.region 7 _ _) _ _)); first | refine Zac ?_ | (refine Zab tok (by rfl) ?_; conv => whnf) | refine Zai ?_ | (refine Zag ?_; conv => whnf) | (refine Za3 ?_; conv => whnf) | refine Zae rfl (fun hb => ?_) (fun hb => ?_)))
  · have hlt : i < s.stack.length := by simp only [decide_eq_true_eq] at hb; omega
    clear hb
    have hkl : 0 + (i : Int).toNat < s.stack.length := by omega
    by_cases hq : 0 + (i : Int).toNat < s.stack.length - 1
    all_goals ((repeat' first | refine Zac ?_ | (refine Zab tok (by rfl) ?_; conv => whnf) | (refine @And.intro (Zaa _ _ _ _) _ ?_ ?_; rotate_left; (conv => whnf); rotate_right)); all_goals (try ((guard_target = Zaa _ _ _ _); refine Zaf ?_; (all_goals (try simp only [Zaa, kzz, kz11, kz12, maxL, Zad] at *)); all_goals omega)))
    · refine fAV (x := Zbj s.stack (0 + (i : Int).toNat)) (y := .rs (945, 0, 0 + (i : Int).toNat) 1 0 (s.stack.getD (0 + (i : Int).toNat) default).regs.length) (Zcy hq) ?_
      conv => whnf
      skip
      refine .inr ⟨_, _, _, uG (QH.tnE (.head _) (.tail _ (.head _)) rfl rfl rfl rfl (fun _ => rfl) cL_closed cL_pin (hC _ hkl _ (Zcy hq)) h32 (memE_sub (fun j b e => ?_) rfl rfl rfl rfl (fun _ => rfl)) ?_ (fun q hq => hq)), ?_⟩
      · rcases cL_some e with ⟨rfl, rfl⟩ | ⟨rfl, rfl⟩ <;> rfl
      · show [AV.agg [_, _, _, match kpH (memE (cL w) m s) (945, 0, 0 + (i : Int).toNat) with | some j => AV.rs j 1 0 _ | none => .any, _], _, _] = _
        rw [kpH_is (by rw [Ze0 rfl, Zdu, Za7 hq]; rfl)]; rfl
      conv => whnf
      (repeat' first | refine Zac ?_ | (refine Zab tok (by rfl) ?_; conv => whnf) | (refine Zag ?_; conv => whnf) | (refine Zah ?_; conv => whnf) | refine Zae rfl (fun hb => ?_) (fun hb => ?_))
      · refine ⟨_, srcL [], rfl, ?_⟩
        rw [← and_assoc]
        refine ⟨leaveC rfl rfl rfl (Zcj rfl rfl rfl) rfl rfl rfl (fun q hq => Zf2 hq), GV.int ?_, LC_keep⟩
        exact (idxP_at hlt (by rw [← hz]; exact hb) hno).symm
      · refine ⟨i + 1, ⟨by omega, fun j hj => ?_⟩, by omega, weakC (.cons (.rs rfl rfl rfl rfl) (.cons (.fn (.cons (.bp rfl rfl) (.cons (.bp rfl rfl) .nil))) (.cons (.imm rfl) (.cons (.int ?_) .nil)))) rfl rfl rfl rfl rfl rfl (fun q hq => Zf2 hq)⟩
        · by_cases e : j = i
          · subst e; rw [← hz]; simpa using hb
          · exact hno j (by omega)
        · rw [Zal (by omega) (by omega)]; omega
    · refine fAV (x := Zbj s.stack (0 + (i : Int).toNat)) (y := .rs jT 1 0 (s.stack.getD (0 + (i : Int).toNat) default).regs.length) (Zdk (by omega)) ?_
      conv => whnf
      skip
      refine .inr ⟨_, _, _, uG (QH.tnE (.head _) (.tail _ (.head _)) rfl rfl rfl rfl (fun _ => rfl) cL_closed cL_pin (hC _ hkl _ (Zdk (by omega))) h32 (memE_sub (fun j b e => ?_) rfl rfl rfl rfl (fun _ => rfl)) ?_ (fun q hq => hq)), ?_⟩
      · rcases cL_some e with ⟨rfl, rfl⟩ | ⟨rfl, rfl⟩ <;> rfl
      · show [AV.agg [_, _, _, match kpH (memE (cL w) m s) jT with | some j => AV.rs j 1 0 _ | none => .any, _], _, _] = _
        rw [kpH_is rfl]; rfl
      conv => whnf
      (repeat' first | refine Zac ?_ | (refine Zab tok (by rfl) ?_; conv => whnf) | (refine Zag ?_; conv => whnf) | (refine Zah ?_; conv => whnf) | refine Zae rfl (fun hb => ?_) (fun hb => ?_))
      · refine ⟨_, srcL [], rfl, ?_⟩
        rw [← and_assoc]
        refine ⟨leaveC rfl rfl rfl (Zcj rfl rfl rfl) rfl rfl rfl (fun q hq => Zf2 hq), GV.int ?_, LC_keep⟩
        exact (idxP_at hlt (by rw [← hz]; exact hb) hno).symm
      · refine ⟨i + 1, ⟨by omega, fun j hj => ?_⟩, by omega, weakC (.cons (.rs rfl rfl rfl rfl) (.cons (.fn (.cons (.bp rfl rfl) (.cons (.bp rfl rfl) .nil))) (.cons (.imm rfl) (.cons (.int ?_) .nil)))) rfl rfl rfl rfl rfl rfl (fun q hq => Zf2 hq)⟩
        · by_cases e : j = i
          · subst e; rw [← hz]; simpa using hb
          · exact hno j (by omega)
        · rw [Zal (by omega) (by omega)]; omega
  · have hge : ¬ i < s.stack.length := by simp only [decide_eq_false_iff_not] at hb; omega
    (repeat' first | (refine Zab tok (by rfl) ?_; conv => whnf) | (refine Zah ?_; conv => whnf))
    refine ⟨_, srcL [], rfl, ?_⟩
    rw [← and_assoc]
    refine ⟨leaveC rfl rfl rfl (Zcj rfl rfl rfl) rfl rfl rfl (fun q hq => Za7 hq), GV.int ?_, LC_keep⟩
    rw [idxP_none (fun j hj => hno j (by omega))]
theorem c_ContainsFr (m : Zaj) (s : Mach) (w : Int) (h32 : s.stack.length ≤ 32) (hF : ∀ i, i < s.stack.length → OkF m (s.stack.getD i default)) (hp : ∀ i, i < s.stack.length → (Za0 m (s.stack.getD i default)).fin.kind = 4 → 0 ≤ (Za0 m (s.stack.getD i default)).fin.pad ∧ (Za0 m (s.stack.getD i default)).fin.pad < (Zdb m (s.stack.getD i default)).blocks.length) :
    HG Tryz.prog LC 159 (memE (cL w) m s) [.rs jF 5 0 s.stack.length, .fn 160 [.bp c1 0, .bp c2 0]] (.bool ((List.range s.stack.length).any (Zbt m s.stack w false))) (memE (cL w) m s) := by
  refine Zbc tok Tryz.func159 rfl (by decide +kernel) (Nat.le_of_ble_eq_true rfl) ?_
  have hI := c_IndexFr m s w h32 hF hp
  (repeat' first | refine Zac ?_ | (refine Zab tok (by rfl) ?_; conv => whnf))
  refine .inr ⟨_, _, _, uG (QH.tnE (.head _) (.tail _ (.head _)) rfl rfl rfl rfl (fun _ => rfl) cL_closed cL_pin hI h32 (fun j b e => e) rfl (fun q hq => hq)), ?_⟩
  conv => whnf
  (repeat' (refine Zah ?_; conv => whnf))
  refine ⟨_, srcL [], rfl, ?_⟩
  rw [← and_assoc]
  exact ⟨leaveC rfl rfl rfl (Zcj rfl rfl rfl) rfl rfl rfl (fun q hq => Zf2 hq), GV.bool idxP_any, LC_keep⟩
end Go.Proofs.YtoelbgjpmpoolaaGreat
namespace Go.Proofs.YtoelbgjpmpoolaaGreat
open Go Dv
set_option maxRecDepth 10000
set_option linter.unusedSimpArgs false
theorem weakCW {n : Nat} {tl : List (Nat × AV)} {m : Zaj} {s : Mach} {w : Int} {σ : ASt} (ht : TLg (srcL []) σ.h (orH (Za4 (cL w ++ memL m s)) (famW s.stack)) σ.tm tl) (k1 : σ.h c1 = some c1B) (k2 : σ.h c2 = some (c2B w)) (h1 : σ.h jB = some (macB m s)) (h2 : σ.h jF = some (Zc2 s.stack)) (h3 : σ.h jE = some (evB s.events)) (h4 : σ.h jT = some (regB (topF s).regs)) (h5 : ∀ q, q < s.stack.length - 1 → σ.h (945, 0, q) = some (regB (s.stack.getD q default).regs)) :
    Weak n LW σ (mkF tl (cL w ++ memL m s) (famW s.stack)) := by
  refine Weak.fam [] rfl (fun c hc => by cases hc) ht ?_ ?_ LW_keepL
  · refine .old rfl k1 (GB.one (.cons (.bp rfl rfl) .nil) (fun e => by cases e)) (.old rfl k2 (GB.one (.cons (.imm rfl) .nil) (fun _ => rfl)) ?_)
    exact Zcm rfl rfl rfl rfl (fun _ => rfl) h1 h2 h3 h4 rfl rfl rfl (fun q hq => Zco hq)
  · exact Zfw (fun _ _ => rfl) h5
theorem lendOne {l : List Int} : ∀ j b, oneR l j = some b → j = r0 ∧ b = regB l := fun j b e => by
  have := Zc3 (i := j) (by rw [e]; rfl)
  subst this
  exact ⟨rfl, (Option.some.inj e).symm⟩
theorem LW_keepS {tl : List (Dv.Id × Zan)} {F : Zap} {S : List (Dv.Id × Option Dv.Id)} (hB : (orH (Za4 tl) F jB).isSome = true ∧ srcL S jB = some jB := by exact ⟨rfl, rfl⟩) (hF : (orH (Za4 tl) F jF).isSome = true ∧ srcL S jF = some jF := by exact ⟨rfl, rfl⟩) : ∀ i ∈ LW, Zeh i = true → (orH (Za4 tl) F i).isSome = true ∧ srcL S i = some i := fun i hi _ => by
  rcases List.mem_cons.1 hi with rfl | hi
  · exact hB
  · rw [List.mem_singleton.1 hi]; exact hF
set_option maxHeartbeats 4000000 in
theorem c_mThr (m : Zaj) (s : Mach) (w : Int) (hr : Zbg m = true) (h : 0 < s.stack.length) (h32 : s.stack.length ≤ 32) (hF : ∀ i, i < s.stack.length → OkF m (s.stack.getD i default)) :
    HG Tryz.prog LW 117 (mem m s) [.bp jB 0, .int .u16 w] (.tup []) (mem m (Zbu m s w)) := by
  refine Zbc tok Tryz.func117 rfl (by decide +kernel) (Nat.le_of_ble_eq_true rfl) ?_
  have hmx : maxL = 4294967296 := rfl
  have hpl := Zct (s := s)
  have hgen : ∃ p, popM s = p := ⟨_, rfl⟩
  obtain ⟨p, hp⟩ := hgen
  have hP := c_mPop m s h (by omega)
  have hF2 : ∀ i, i < p.stack.length → OkF m (p.stack.getD i default) := fun i hi => by
    rw [← hp] at hi ⊢
    rw [show (popM s).stack.getD i default = s.stack.getD i default from Zb3 _ (by omega)]
    exact hF i (by omega)
  have hpp : ∀ i, i < p.stack.length → (Za0 m (p.stack.getD i default)).fin.kind = 4 → 0 ≤ (Za0 m (p.stack.getD i default)).fin.pad ∧ (Za0 m (p.stack.getD i default)).fin.pad < (Zdb m (p.stack.getD i default)).blocks.length := fun i hi hk => (okF_pad hr (hF2 i hi) hk).1
  have hT0 : Zbu m s w = if (List.range p.stack.length).any (Zbt m p.stack w false) = true then
      Zbo (Zdj p (Zfb (Zbt m p.stack w true) (p.stack.length - 1) + 1)) (landF m (p.stack.getD (Zfb (Zbt m p.stack w true) (p.stack.length - 1)) default) (Za0 m (p.stack.getD (Zfb (Zbt m p.stack w true) (p.stack.length - 1)) default)).fin.pad w)
      else endM p 2 w := by rw [← hp]; rfl
  rw [hp] at hP hpl
  have hC := c_ContainsFr m p w (by omega) hF2 hpp
  rw [hT0]
  (repeat' ((fail_if_success (show AWp _ _ _ (Code.region 1 _ _) _ _)); first | refine Zac ?_ | (refine Zab tok (by rfl) ?_; conv => whnf)))
  refine Zau (Weak.fam (L := LW) (tl := [(2, .bp c1 0), (3, .bp c2 0)]) (hl := cL w ++ memL m s) (F := famW s.stack) [(c1, some (2, 0, 0)), (c2, some (3, 0, 0))] rfl (fun c hc => ?_) ?_ ?_ ?_ LW_keepS) ?_
  · rcases List.mem_cons.1 (show c ∈ [(2, 0, 0), (3, 0, 0)] from hc) with rfl | hc
    · exact .inl rfl
    · rw [List.mem_singleton.1 hc]; exact .inl rfl
  · exact .cons (.bp rfl rfl) (.cons (.bp rfl rfl) .nil)
  · refine .old rfl rfl (GB.one (.cons (.bp rfl rfl) .nil) (fun e => by cases e)) (.old rfl rfl (GB.one (.cons (.imm rfl) .nil) (fun _ => rfl)) ?_)
    exact Zcm rfl rfl rfl rfl (fun _ => rfl) rfl rfl rfl rfl rfl rfl rfl (fun q hq => Zco hq)
  · exact Zfw (fun _ _ => rfl) (fun q hq => Za7 hq)
  (repeat' (refine Zab tok (by rfl) ?_; conv => whnf))
  refine .inr ⟨_, _, _, uG (QH.tnM (by simp) (by simp) hP (by omega) (Za5 rfl rfl rfl rfl (fun _ => rfl)) rfl (fun q hq => Zaq hq)), ?_⟩
  conv => whnf
  (repeat' ((fail_if_success (show AWp _ _ _ (Code.region 2 _ _) _ _)); refine Zac ?_))
  refine Zau (weakCW (tl := [(2, .bp c1 0), (3, .bp c2 0)]) (.cons (.bp rfl rfl) (.cons (.bp rfl rfl) .nil)) rfl rfl rfl rfl rfl rfl (fun q hq => Zbf hq)) ?_
  (repeat' (refine Zab tok (by rfl) ?_; conv => whnf))
  refine .inr ⟨_, _, _, uG (QH.tnE (.head _) (.tail _ (.head _)) rfl rfl rfl rfl (fun _ => rfl) cL_closed cL_pin hC (by omega) (fun j b e => e) rfl (fun q hq => hq)), ?_⟩
  conv => whnf
  (repeat' ((fail_if_success (show AWp _ _ _ (Code.region 4 _ _) _ _)); (fail_if_success (show AWp _ _ _ (Code.region 5 _ _) _ _)); first | refine Zac ?_ | (refine Zab tok (by rfl) ?_; conv => whnf) | refine Zai ?_ | (refine Zag ?_; conv => whnf) | refine Zae rfl (fun hb => ?_) (fun hb => ?_)))
  · have hn : ¬ (List.range p.stack.length).any (Zbt m p.stack w false) = true := by simpa using hb
    rw [if_neg hn]
    refine Zau (weakCW (tl := [(2, .bp c1 0), (3, .bp c2 0)]) (.cons (.bp rfl rfl) (.cons (.bp rfl rfl) .nil)) rfl rfl rfl rfl rfl rfl (fun q hq => Zf2 hq)) ?_
    (repeat' (refine Zab tok (by rfl) ?_; conv => whnf))
    refine .inr ⟨_, _, _, uG (QH.tnM (by simp) (by simp) (c_mEnd m p 2 w) (by omega) (Za5 rfl rfl rfl rfl (fun q => rfl)) rfl (fun q hq => Zaq hq)), ?_⟩
    conv => whnf
    (repeat' (refine Zah ?_; conv => whnf))
    refine ⟨_, srcL [], rfl, ?_⟩
    rw [← and_assoc]
    exact ⟨Zdf (s := endM p 2 w) rfl rfl rfl (Zcj rfl rfl rfl) rfl rfl rfl (fun q hq => Zbf hq), .tup .nil, Zcs⟩
  have hany : (List.range p.stack.length).any (Zbt m p.stack w false) = true := by simpa using hb
  clear hb
  rw [if_pos hany]
  obtain ⟨i0, hi0, hci⟩ := List.any_eq_true.1 hany
  rw [List.mem_range] at hi0
  have hex : ∃ j, j ≤ p.stack.length - 1 ∧ Zbt m p.stack w true j = true := ⟨i0, by omega, catch_more hci⟩
  have hgen : ∃ K, Zfb (Zbt m p.stack w true) (p.stack.length - 1) = K := ⟨_, rfl⟩
  obtain ⟨K, hK⟩ := hgen
  obtain ⟨hK1, hK2⟩ := downK_spec hex
  rw [hK] at hK1 hK2 ⊢
  have hKl : K < p.stack.length := by omega
  have htl : ∀ n, n ≤ p.stack.length - 1 → (Zdj p (n + 1)).stack.length = n + 1 := fun n hn => by simp [Zdj]; omega
  have htk : ∀ n, n ≤ p.stack.length - 1 → (Zdj p (n + 1)).stack.getD n default = p.stack.getD n default := fun n hn => Zb3 _ (by omega)
  have hfull : Zdj p (p.stack.length - 1 + 1) = p := by
    unfold Zdj
    rw [show p.stack.length - 1 + 1 = p.stack.length by omega, List.take_length]
  refine Za1 (fun n : Nat => mkF [(2, .bp c1 0), (3, .bp c2 0)] (cL w ++ memL m (Zdj p (n + 1))) (famW (Zdj p (n + 1)).stack)) (fun n => n ≤ p.stack.length - 1 ∧ Zfb (Zbt m p.stack w true) n = K ∧ ∃ j, j ≤ n ∧ Zbt m p.stack w true j = true) (fun n => n) (p.stack.length - 1) ⟨Nat.le_refl _, hK, hex⟩ ?_ ?_
  · rw [hfull]
    exact weakCW (.cons (.bp rfl rfl) (.cons (.bp rfl rfl) .nil)) rfl rfl rfl rfl rfl rfl (fun q hq => Zf2 hq)
  rintro n ⟨hn1, hn2, hn3⟩
  have hgen : ∃ u, Zdj p (n + 1) = u := ⟨_, rfl⟩
  obtain ⟨u, hu⟩ := hgen
  have hul := htl n hn1
  have hut := htk n hn1
  rw [hu] at hul hut ⊢
  have hu1 : u.stack.length - 1 = n := by omega
  have hPd := c_mPad m u n (by omega) (by omega) (by rw [hut]; exact hF2 n (by omega)) (by rw [hut]; exact hpp n (by omega))
  rw [hut] at hPd
  have hTp := Zfd m u (by omega) (by omega)
  rw [hu1] at hTp
  (repeat' first | refine Zac ?_ | (refine Zab tok (by rfl) ?_; conv => whnf) | refine Zai ?_)
  refine .inr ⟨_, _, _, uG (QH.tnM (by simp) (by simp) hTp (by omega) (Za5 rfl rfl rfl rfl (fun q => rfl)) rfl (fun q hq => Zaq hq)), ?_⟩
  conv => whnf
  (repeat' first | refine Zac ?_ | (refine Zab tok (by rfl) ?_; conv => whnf))
  refine .inr ⟨_, _, _, uG (QH.tnM (by simp) (by simp) hPd (by omega) (Za5 rfl rfl rfl rfl (fun q => Zbq (fun hq => Zaq (by omega)))) rfl (fun q hq => (Zbq (fun hq => Zaq (by omega))).trans (Zaq hq))), ?_⟩
  conv => whnf
  (repeat' first | refine Zac ?_ | (refine Zab tok (by rfl) ?_; conv => whnf))
  refine .inl ⟨_, _, _, uG (QC.fc (c_fCatches (padV m (p.stack.getD n default)).2.1 w) rfl), ?_⟩
  conv => whnf
  (repeat' ((fail_if_success (show AWp _ _ _ (Code.region 8 _ _) _ _)); (fail_if_success (show AWp _ _ _ (Code.region 9 _ _) _ _)); first | refine Zac ?_ | (refine Zag ?_; conv => whnf) | refine Zae rfl (fun hb => ?_) (fun hb => ?_)))
  · have hyes : Zbt m p.stack w true n = true := by
      show Zeg m (p.stack.getD n default) w true = true
      rw [← padV_catch2]
      simpa using hb
    clear hb
    have hnK : n = K := by rw [← hn2, downK_yes hyes]
    subst hnK
    rw [hu]
    have htop : topF u = p.stack.getD n default := by unfold topF; rw [hu1]; exact hut
    have hk4 : (Za0 m (p.stack.getD n default)).fin.kind = 4 := by
      unfold Zbt Zeg at hyes
      simp only [Bool.and_eq_true, decide_eq_true_eq] at hyes
      exact hyes.2.1
    have hkE : endB m (p.stack.getD n default) = true := by
      unfold Zbt Zeg at hyes
      simp only [Bool.and_eq_true, decide_eq_true_eq] at hyes
      exact hyes.1
    have hpv : (padV m (p.stack.getD n default)).1 = (Za0 m (p.stack.getD n default)).fin.pad := by
      unfold padV; rw [if_pos ⟨hkE, hk4⟩]
    obtain ⟨⟨g1, g2⟩, g3, g4, g5⟩ := okF_pad hr (hF2 n hKl) hk4
    have hL := c_fLand m (p.stack.getD n default) (Za0 m (p.stack.getD n default)).fin.pad w hr (hF2 n hKl) g1 g2 g3 ⟨g4, g5⟩
    rw [← hpv, ← htop] at hL ⊢
    have hgen : ∃ k, (padV m (topF u)).1 = k := ⟨_, rfl⟩
    obtain ⟨k, hk⟩ := hgen
    rw [hk] at hL ⊢
    have hgen : ∃ g, landF m (topF u) k w = g := ⟨_, rfl⟩
    obtain ⟨g, hg⟩ := hgen
    rw [hg] at hL ⊢
    have hle : n < u.stack.length := by omega
    have hrt : Zbj u.stack n = .rs jT 1 0 (topF u).regs.length := Zbh (by omega) hu1.symm
    have hut2 : u.stack.getD n default = topF u := by rw [htop]; exact hut
    refine Zau (weakCW (tl := [(2, .bp c1 0), (3, .bp c2 0), (5, .rp jF 5 n 0), (6, iv k)]) (.cons (.bp rfl rfl) (.cons (.bp rfl rfl) (.cons (.rp rfl rfl rfl) (.cons (.int (by rw [← hk, htop])) .nil)))) rfl rfl rfl rfl rfl rfl (fun q hq => Zbf hq)) ?_
    refine Zc9 tok mix (by rfl) [0, 1, 2, 3, 4, 5, 6, 8, 9, 14] 30 (by rfl) (by rfl) (by rfl) ?_
    conv => whnf
    (repeat' first
      | (refine fAV (x := Zbj u.stack n) (y := .rs jT 1 0 (topF u).regs.length) hrt ?_; (conv => whnf))
      | (refine @And.intro (Zaa _ _ _ _) _ ?_ ?_; rotate_left; (conv => whnf); rotate_right)
      | (guard_target = And _ _; refine @And.intro (gOp _ _ _ _ _ _ _ _ _) _ (by (conv => whnf); first | exact ⟨rfl, rfl⟩ | (refine fAV (x := Zbj u.stack n) (y := .rs jT 1 0 (topF u).regs.length) hrt ?_; (conv => whnf); exact ⟨rfl, rfl⟩)) ?_; conv => whnf)
      | (guard_target = And _ _; refine And.intro ?_ ?_ <;> (conv => whnf)))
    all_goals (try ((guard_target = Zaa _ _ _ _); refine Zaf ?_; (all_goals (try simp only [Zaa, kzz, kz11, kz12, maxL, Zad] at *)); all_goals omega))
    all_goals (try (show AV.agg [_, _, _, Zbj u.stack n, _] = AV.agg [_, _, _, .rs jT 1 0 (topF u).regs.length, _]; rw [hrt]; done))
    have hut3 : (u.stack.getD n default) = (u.stack.getD (u.stack.length - 1) default) := by rw [hu1]
    have hL' : HF Tryz.prog 163 [.agg (Zav m), .agg (Zar (u.stack.getD n default)), iv k, .int .u16 w] (.tup [.agg (frO g (.rs r0 1 0 g.regs.length)), iv 0]) (oneR g.regs) := by rw [hut2]; exact hL
    refine .inr ⟨_, _, _, uG (QH.lendF (rd := [jT]) hL' (.cons (.imm rfl) (.cons (.agg (.cons (.imm rfl) (.cons (.imm rfl) (.cons (.imm rfl) (.cons (.row rfl (.head _) rfl (by rw [hut2]) (fun q hq => by rw [hut2])) (.cons (.imm rfl) .nil)))))) (.cons (.imm rfl) (.cons (.imm rfl) .nil)))) (fun i hi => by rw [Zc3 hi]; rfl) rfl (fun j b e => by
      obtain ⟨rfl, rfl⟩ := lendOne j b e
      exact fun i hi => rfl)), ?_⟩
    conv => whnf
    (repeat' first
      | (refine fAV (x := Zbj u.stack n) (y := .rs jT 1 0 (topF u).regs.length) hrt ?_; (conv => whnf))
      | (refine @And.intro (Zaa _ _ _ _) _ ?_ ?_; rotate_left; (conv => whnf); rotate_right)
      | (guard_target = And _ _; refine @And.intro (gOp _ _ _ _ _ _ _ _ _) _ (by (conv => whnf); first | exact ⟨rfl, rfl⟩ | (refine fAV (x := Zbj u.stack n) (y := .rs jT 1 0 (topF u).regs.length) hrt ?_; (conv => whnf); exact ⟨rfl, rfl⟩)) ?_; conv => whnf)
      | (guard_target = And _ _; refine And.intro ?_ ?_ <;> (conv => whnf)))
    all_goals (try ((guard_target = Zaa _ _ _ _); refine Zaf ?_; (all_goals (try simp only [Zaa, kzz, kz11, kz12, maxL, Zad] at *)); all_goals omega))
    all_goals (try (show AV.agg [_, _, _, Zbj u.stack n, _] = AV.agg [_, _, _, .rs jT 1 0 (topF u).regs.length, _]; rw [hrt]; done))
    all_goals
      (repeat' (refine Zah ?_; conv => whnf))
      refine ⟨_, srcT jE r0, rfl, ?_⟩
      rw [← and_assoc]
      refine ⟨leaveG (s := u) (g := g) (n' := u.stack.length) (by omega) rfl rfl (.inr (.inl rfl)) (.inl rfl) rfl ?_ rfl (Nat.le_refl _) (fun q hq => ?_) ?_ rfl (Zed _) rfl (Zbv _) (fun q hq => ?_), .tup .nil, keepT⟩
      · exact Zec (s := Zbo u g) (Zc6 (s := u) (by omega)).symm rfl rfl rfl rfl
      · exact Zcw (by omega)
      · rw [hu1]; exact Zdi
      · refine Zew (d := []) (u := oneR g.regs) rfl rfl ?_
        exact Za7 hq
  · have hno : ¬ Zbt m p.stack w true n = true := by
      show ¬ Zeg m (p.stack.getD n default) w true = true
      rw [← padV_catch2]
      simpa using hb
    clear hb
    obtain ⟨e1, e2⟩ := downK_no hn3 hno
    have hPu := c_mPop m u (by omega) (by omega)
    have hpu : popM u = Zdj p (n - 1 + 1) := by
      rw [← hu]
      unfold popM Zdj
      simp only [List.length_take, List.take_take]
      congr 2
      omega
    rw [hpu] at hPu
    refine Zau (weakCW (tl := [(2, .bp c1 0), (3, .bp c2 0)]) (.cons (.bp rfl rfl) (.cons (.bp rfl rfl) .nil)) rfl rfl rfl rfl rfl rfl (fun q hq => Zbf hq)) ?_
    (repeat' (refine Zab tok (by rfl) ?_; conv => whnf))
    refine .inr ⟨_, _, _, uG (QH.tnM (by simp) (by simp) hPu (by omega) (Za5 rfl rfl rfl rfl (fun q => rfl)) rfl (fun q hq => Zaq hq)), ?_⟩
    conv => whnf
    skip
    refine ⟨n - 1, ⟨by omega, by rw [← e2]; exact hn2, ?_⟩, by omega, weakCW (.cons (.bp rfl rfl) (.cons (.bp rfl rfl) .nil)) rfl rfl rfl rfl rfl rfl (fun q hq => Zbf hq)⟩
    obtain ⟨j, j1, j2⟩ := hn3
    refine ⟨j, ?_, j2⟩
    rcases Nat.lt_or_ge j n with h3 | h3
    · omega
    · have : j = n := by omega
      subst this; exact absurd j2 hno
end Go.Proofs.YtoelbgjpmpoolaaGreat
namespace Go.Proofs.YtoelbgjpmpoolaaGreat
open Go Dv
set_option maxRecDepth 10000
set_option linter.unusedSimpArgs false
theorem weakW {n : Nat} {tl : List (Nat × AV)} {el : List (Dv.Id × Zan)} {m : Zaj} {s : Mach} {σ : ASt} {L : List Dv.Id} (ht : TLg (srcL []) σ.h (orH (Za4 (el ++ memL m s)) (famW s.stack)) σ.tm tl) (he : HLs (srcL []) σ.h (orH (Za4 (el ++ memL m s)) (famW s.stack)) (el ++ memL m s)) (h5 : ∀ q, q < s.stack.length - 1 → σ.h (945, 0, q) = some (regB (s.stack.getD q default).regs))
    (hL : ∀ i ∈ L, Zeh i = true → (orH (Za4 (el ++ memL m s)) (famW s.stack) i).isSome = true ∧ srcL [] i = some i) : Weak n L σ (mkF tl (el ++ memL m s) (famW s.stack)) := by
  exact Weak.fam [] rfl (fun c hc => by cases hc) ht he (Zfw (fun _ _ => rfl) h5) hL
set_option maxHeartbeats 4000000 in
theorem c_mStepT (m : Zaj) (s s1 : Mach) (f : Za2) (hf : topF s = f) (h : 0 < s.stack.length) (h32 : s.stack.length ≤ 32) (hF : OkF m f) (he : endB m f = false) (hl : s1.stack.length = s.stack.length) (hat0 : 0 ≤ (topF s1).at_) (hat : (topF s1).at_ < 1000000)
    (hI : HG Tryz.prog LW 113 (mem m s) [.bp jB 0, .rp jF 5 (s.stack.length - 1) 0, .agg (Zba ((Za0 m f).ins.getD f.at_.toNat default))] (.bool true) (mem m s1)) :
    HG Tryz.prog [jB] 64 (mem m s) [.bp jB 0] (.tup []) (mem m (Zbo s1 (goOn (topF s1)))) := by
  refine Zbc tok Tryz.func64 rfl (by decide +kernel) (Nat.le_of_ble_eq_true rfl) ?_
  have hmx : maxL = 4294967296 := rfl
  have hft : s.stack.getD (s.stack.length - 1) default = f := hf
  have hT := Zfd m s h (by omega)
  have hB := Zc8 m s (s.stack.length - 1) (by omega) (by rw [hft]; exact hF)
  rw [hft] at hB
  have hE : ¬ f.at_ = (Za0 m f).ins.length := fun e => by
    have : endB m f = true := decide_eq_true e
    rw [he] at this; cases this
  have hgen : ∃ b, Za0 m f = b := ⟨_, rfl⟩
  obtain ⟨b, hbe⟩ := hgen
  have a0 := hF.a0
  have a1 := hF.a1
  rw [hbe] at hB hE a1 hI
  (repeat' ((fail_if_success (show AWp _ _ _ (Code.region 0 _ _) _ _)); refine Zac ?_))
  (repeat' (refine Zab tok (by rfl) ?_; conv => whnf))
  refine .inr ⟨_, _, _, uG (QH.tnM (by simp) (by simp) hT h32 (Za5 rfl rfl rfl rfl (fun _ => rfl)) rfl (fun q hq => Zaq hq)), ?_⟩
  conv => whnf
  (repeat' ((fail_if_success (show AWp _ _ _ (Code.region 1 _ _) _ _)); refine Zac ?_))
  (repeat' (refine Zab tok (by rfl) ?_; conv => whnf))
  refine .inr ⟨_, _, _, uG (QH.tnM (by simp) (by simp) hB h32 (Za5 rfl rfl rfl rfl (fun _ => Zbq (fun hq => Zaq (by omega)))) rfl (fun q hq => (Zbq (fun hq => Zaq (by omega))).trans (Zaq hq))), ?_⟩
  conv => whnf
  ((repeat' ((fail_if_success (show AWp _ _ _ (Code.region 3 _ _) _ _)); (fail_if_success (show AWp _ _ _ (Code.region 5 _ _) _ _)); first | refine Zac ?_ | (refine Zat tok mix (by rfl) ?_; conv => whnf) | (refine Zag ?_; conv => whnf) | refine Zae rfl (fun hb => ?_) (fun hb => ?_) | (refine @And.intro (Zaa _ _ _ _) _ ?_ ?_; rotate_left; (conv => whnf); rotate_right))); all_goals (try ((guard_target = Zaa _ _ _ _); refine Zaf ?_; (all_goals (try simp only [Zaa, kzz, kz11, kz12, maxL, Zad] at *)); all_goals omega)))
  · clear hb
    refine Zau (weakW (m := m) (s := s) (L := [jB]) (tl := [(0, .bp jB 0), (2, .rp jF 5 (s.stack.length - 1) 0), (3, .bp (3, 0, 0) 0)]) (el := [((3, 0, 0), Zam (Zbi b))]) ?_ ?_ (fun q hq => Zbf hq) (fun i hi _ => by rw [List.mem_singleton.1 hi]; exact ⟨rfl, rfl⟩)) ?_
    · exact .cons (.bp rfl rfl) (.cons (.rp rfl rfl rfl) (.cons (.bp rfl rfl) .nil))
    · exact .old rfl rfl (GB.one (GVs.imm rfl) (fun _ => rfl)) (Zcm rfl rfl rfl rfl (fun _ => rfl) rfl rfl rfl rfl rfl rfl rfl (fun q hq => Zco hq))
    have hle : s.stack.length - 1 < s.stack.length := by omega
    have hat1 : (s.stack.getD (s.stack.length - 1) default).at_.toNat < b.ins.length := by rw [hft]; omega
    have hat0' : 0 ≤ (s.stack.getD (s.stack.length - 1) default).at_ := by rw [hft]; omega
    have hI' : HG Tryz.prog LW 113 (mem m s) [.bp jB 0, .rp jF 5 (s.stack.length - 1) 0, .agg (Zba (b.ins.getD (s.stack.getD (s.stack.length - 1) default).at_.toNat default))] (.bool true) (mem m s1) := by rw [hft]; exact hI
    have hle1 : s.stack.length - 1 < s1.stack.length := by omega
    have htp : s1.stack.getD (s.stack.length - 1) default = topF s1 := by rw [← hl]; rfl
    have hatt : 0 ≤ (s1.stack.getD (s.stack.length - 1) default).at_ ∧ (s1.stack.getD (s.stack.length - 1) default).at_ < 1000000 := by rw [htp]; exact ⟨hat0, hat⟩
    ((repeat' first | (refine Zat tok mix (by rfl) ?_; conv => whnf) | (refine @And.intro (Zaa _ _ _ _) _ ?_ ?_; rotate_left; (conv => whnf); rotate_right)); all_goals (try ((guard_target = Zaa _ _ _ _); refine Zaf ?_; (all_goals (try simp only [Zaa, kzz, kz11, kz12, maxL, Zad] at *)); all_goals omega)))
    refine .inr ⟨_, _, _, uG (QH.tnM (by simp) (by simp) hI' h32 (Za5 rfl rfl rfl rfl (fun _ => rfl)) rfl (fun q hq => Zaq hq)), ?_⟩
    conv => whnf
    (repeat' ((fail_if_success (show AWp _ _ _ (Code.region 4 _ _) _ _)); first | (refine Zag ?_; conv => whnf) | (refine Zah ?_; conv => whnf) | refine Zae rfl (fun hb => ?_) (fun hb => ?_)))
    all_goals (try (exfalso; cases hb; done))
    clear hb
    ((repeat' first | (refine Zab tok (by rfl) ?_; conv => whnf) | (refine @And.intro (Zaa _ _ _ _) _ ?_ ?_; rotate_left; (conv => whnf); rotate_right)); all_goals (try ((guard_target = Zaa _ _ _ _); refine Zaf ?_; (all_goals (try simp only [Zaa, kzz, kz11, kz12, maxL, Zad] at *)); all_goals omega)))
    refine fAV (x := Zbj s1.stack (s.stack.length - 1)) (y := .rs jT 1 0 (topF s1).regs.length) (Zbh (by omega) (by rw [hl])) ?_
    conv => whnf
    (repeat' (refine Zah ?_; conv => whnf))
    refine ⟨_, srcT jE jT, rfl, ?_⟩
    rw [← and_assoc]
    refine ⟨leaveG (s := s1) (g := goOn (topF s1)) (n' := s1.stack.length) (by omega) rfl rfl (.inr (.inl rfl)) (.inr (.inr rfl)) rfl ?_ rfl (Nat.le_refl _) (fun q hq => ?_) ?_ rfl (Zed _) rfl (Zbv _) (fun q hq => Zbf (s := s1) hq), .tup .nil, fun i hi hp => keepT i (by rw [List.mem_singleton.1 hi]; exact .head _) hp⟩
    · exact Zec (s := Zbo s1 (goOn (topF s1))) (Zc6 (s := s1) (by omega)).symm rfl rfl rfl rfl
    · exact Zcw (by omega)
    · rw [hl]
      refine Zdi.trans ?_
      rw [htp, Zal (by omega) (by omega)]
      rfl
  · exfalso
    rw [hft] at hb
    simp only [decide_eq_false_iff_not] at hb
    omega
end Go.Proofs.YtoelbgjpmpoolaaGreat
namespace Go.Proofs.YtoelbgjpmpoolaaGreat
open Go Dv
set_option maxRecDepth 10000
set_option linter.unusedSimpArgs false
theorem renN' {m : Zaj} {s s' : Mach} {f : FuncId} {args args' : List AV} {r : AV} (h : HG Tryz.prog [jB] f (mem m s) args r (mem m s')) (ha : GVs (srcL [(jF, some jN)]) (memN m s) (mem m s) args' args) : HG Tryz.prog [jB] f (memN m s) args' r (mem m s') := by
  refine h.ren (srcL [(jF, some jN)]) (Zez rfl (fun i hi => ?_)) (fun j b e => ?_) ha (fun i hi _ => by rw [List.mem_singleton.1 hi]; exact ⟨rfl, rfl⟩)
  · rw [List.mem_singleton.1 (show i ∈ [jN] from hi)]; exact .inl rfl
  · rcases Zb8 e with ⟨rfl, rfl⟩ | ⟨rfl, rfl⟩ | ⟨rfl, rfl⟩ | ⟨rfl, rfl⟩ | ⟨q, rfl, hq2, rfl⟩
    · exact HOk.mk rfl rfl (GB.one (cells22 rfl rfl rfl rfl) (fun e => by cases e))
    · exact HOk.mk rfl rfl (GB_fr (fun _ _ => rfl) rfl (fun q hq => by rw [Zdu, Za7 hq]; rfl) rfl)
    · exact HOk.mk rfl rfl (Zed _)
    · exact HOk.mk rfl rfl (Zbv _)
    · exact HOk.mk rfl (Za7 (l := s.stack) hq2) (Zbv _)
set_option maxHeartbeats 4000000 in
theorem c_mStepF (m : Zaj) (s s1 : Mach) (f : Za2) (hf : topF s = f) (h : 0 < s.stack.length) (h32 : s.stack.length ≤ 32) (hF : OkF m f) (he : endB m f = false)
    (hI : HG Tryz.prog LW 113 (mem m s) [.bp jB 0, .rp jF 5 (s.stack.length - 1) 0, .agg (Zba ((Za0 m f).ins.getD f.at_.toNat default))] (.bool false) (mem m s1)) :
    HG Tryz.prog [jB] 64 (mem m s) [.bp jB 0] (.tup []) (mem m s1) := by
  refine Zbc tok Tryz.func64 rfl (by decide +kernel) (Nat.le_of_ble_eq_true rfl) ?_
  have hmx : maxL = 4294967296 := rfl
  have hft : s.stack.getD (s.stack.length - 1) default = f := hf
  have hT := Zfd m s h (by omega)
  have hB := Zc8 m s (s.stack.length - 1) (by omega) (by rw [hft]; exact hF)
  rw [hft] at hB
  have hE : ¬ f.at_ = (Za0 m f).ins.length := fun e => by
    have : endB m f = true := decide_eq_true e
    rw [he] at this; cases this
  have hgen : ∃ b, Za0 m f = b := ⟨_, rfl⟩
  obtain ⟨b, hbe⟩ := hgen
  have a0 := hF.a0
  have a1 := hF.a1
  rw [hbe] at hB hE a1 hI
  (repeat' ((fail_if_success (show AWp _ _ _ (Code.region 0 _ _) _ _)); refine Zac ?_))
  (repeat' (refine Zab tok (by rfl) ?_; conv => whnf))
  refine .inr ⟨_, _, _, uG (QH.tnM (by simp) (by simp) hT h32 (Za5 rfl rfl rfl rfl (fun _ => rfl)) rfl (fun q hq => Zaq hq)), ?_⟩
  conv => whnf
  (repeat' ((fail_if_success (show AWp _ _ _ (Code.region 1 _ _) _ _)); refine Zac ?_))
  (repeat' (refine Zab tok (by rfl) ?_; conv => whnf))
  refine .inr ⟨_, _, _, uG (QH.tnM (by simp) (by simp) hB h32 (Za5 rfl rfl rfl rfl (fun _ => Zbq (fun hq => Zaq (by omega)))) rfl (fun q hq => (Zbq (fun hq => Zaq (by omega))).trans (Zaq hq))), ?_⟩
  conv => whnf
  ((repeat' ((fail_if_success (show AWp _ _ _ (Code.region 3 _ _) _ _)); (fail_if_success (show AWp _ _ _ (Code.region 5 _ _) _ _)); first | refine Zac ?_ | (refine Zat tok mix (by rfl) ?_; conv => whnf) | (refine Zag ?_; conv => whnf) | refine Zae rfl (fun hb => ?_) (fun hb => ?_) | (refine @And.intro (Zaa _ _ _ _) _ ?_ ?_; rotate_left; (conv => whnf); rotate_right))); all_goals (try ((guard_target = Zaa _ _ _ _); refine Zaf ?_; (all_goals (try simp only [Zaa, kzz, kz11, kz12, maxL, Zad] at *)); all_goals omega)))
  · clear hb
    refine Zau (weakW (m := m) (s := s) (L := [jB]) (tl := [(0, .bp jB 0), (2, .rp jF 5 (s.stack.length - 1) 0), (3, .bp (3, 0, 0) 0)]) (el := [((3, 0, 0), Zam (Zbi b))]) ?_ ?_ (fun q hq => Zbf hq) (fun i hi _ => by rw [List.mem_singleton.1 hi]; exact ⟨rfl, rfl⟩)) ?_
    · exact .cons (.bp rfl rfl) (.cons (.rp rfl rfl rfl) (.cons (.bp rfl rfl) .nil))
    · exact .old rfl rfl (GB.one (GVs.imm rfl) (fun _ => rfl)) (Zcm rfl rfl rfl rfl (fun _ => rfl) rfl rfl rfl rfl rfl rfl rfl (fun q hq => Zco hq))
    have hle : s.stack.length - 1 < s.stack.length := by omega
    have hat1 : (s.stack.getD (s.stack.length - 1) default).at_.toNat < b.ins.length := by rw [hft]; omega
    have hat0' : 0 ≤ (s.stack.getD (s.stack.length - 1) default).at_ := by rw [hft]; omega
    have hI' : HG Tryz.prog LW 113 (mem m s) [.bp jB 0, .rp jF 5 (s.stack.length - 1) 0, .agg (Zba (b.ins.getD (s.stack.getD (s.stack.length - 1) default).at_.toNat default))] (.bool false) (mem m s1) := by rw [hft]; exact hI
    ((repeat' first | (refine Zat tok mix (by rfl) ?_; conv => whnf) | (refine @And.intro (Zaa _ _ _ _) _ ?_ ?_; rotate_left; (conv => whnf); rotate_right)); all_goals (try ((guard_target = Zaa _ _ _ _); refine Zaf ?_; (all_goals (try simp only [Zaa, kzz, kz11, kz12, maxL, Zad] at *)); all_goals omega)))
    refine .inr ⟨_, _, _, uG (QH.tnM (by simp) (by simp) hI' h32 (Za5 rfl rfl rfl rfl (fun _ => rfl)) rfl (fun q hq => Zaq hq)), ?_⟩
    conv => whnf
    (repeat' ((fail_if_success (show AWp _ _ _ (Code.region 4 _ _) _ _)); first | (refine Zag ?_; conv => whnf) | (refine Zah ?_; conv => whnf) | refine Zae rfl (fun hb => ?_) (fun hb => ?_)))
    all_goals (try (exfalso; cases hb; done))
    clear hb
    skip
    refine ⟨_, srcL [], rfl, ?_⟩
    rw [← and_assoc]
    exact ⟨Zdf (s := s1) rfl rfl rfl (Zcj rfl rfl rfl) rfl rfl rfl (fun q hq => Zbf hq), .tup .nil, fun i hi hp => Zcs i (by rw [List.mem_singleton.1 hi]; exact .head _) hp⟩
  · exfalso
    rw [hft] at hb
    simp only [decide_eq_false_iff_not] at hb
    omega
set_option maxHeartbeats 4000000 in
theorem c_mStepC (m : Zaj) (s s1 : Mach) (f : Za2) (hf : topF s = f) (h : 0 < s.stack.length) (h32 : s.stack.length ≤ 32) (hF : OkF m f) (he : endB m f = false)
    (hI : HG Tryz.prog [jB] 113 (mem m s) [.bp jB 0, .rp jF 5 (s.stack.length - 1) 0, .agg (Zba ((Za0 m f).ins.getD f.at_.toNat default))] (.bool false) (mem m s1)) :
    HG Tryz.prog [jB] 64 (mem m s) [.bp jB 0] (.tup []) (mem m s1) := by
  refine Zbc tok Tryz.func64 rfl (by decide +kernel) (Nat.le_of_ble_eq_true rfl) ?_
  have hmx : maxL = 4294967296 := rfl
  have hft : s.stack.getD (s.stack.length - 1) default = f := hf
  have hT := Zfd m s h (by omega)
  have hB := Zc8 m s (s.stack.length - 1) (by omega) (by rw [hft]; exact hF)
  rw [hft] at hB
  have hE : ¬ f.at_ = (Za0 m f).ins.length := fun e => by
    have : endB m f = true := decide_eq_true e
    rw [he] at this; cases this
  have hgen : ∃ b, Za0 m f = b := ⟨_, rfl⟩
  obtain ⟨b, hbe⟩ := hgen
  have a0 := hF.a0
  have a1 := hF.a1
  rw [hbe] at hB hE a1 hI
  (repeat' ((fail_if_success (show AWp _ _ _ (Code.region 0 _ _) _ _)); refine Zac ?_))
  (repeat' (refine Zab tok (by rfl) ?_; conv => whnf))
  refine .inr ⟨_, _, _, uG (QH.tnM (by simp) (by simp) hT h32 (Za5 rfl rfl rfl rfl (fun _ => rfl)) rfl (fun q hq => Zaq hq)), ?_⟩
  conv => whnf
  (repeat' ((fail_if_success (show AWp _ _ _ (Code.region 1 _ _) _ _)); refine Zac ?_))
  (repeat' (refine Zab tok (by rfl) ?_; conv => whnf))
  refine .inr ⟨_, _, _, uG (QH.tnM (by simp) (by simp) hB h32 (Za5 rfl rfl rfl rfl (fun _ => Zbq (fun hq => Zaq (by omega)))) rfl (fun q hq => (Zbq (fun hq => Zaq (by omega))).trans (Zaq hq))), ?_⟩
  conv => whnf
  ((repeat' ((fail_if_success (show AWp _ _ _ (Code.region 3 _ _) _ _)); (fail_if_success (show AWp _ _ _ (Code.region 5 _ _) _ _)); first | refine Zac ?_ | (refine Zat tok mix (by rfl) ?_; conv => whnf) | (refine Zag ?_; conv => whnf) | refine Zae rfl (fun hb => ?_) (fun hb => ?_) | (refine @And.intro (Zaa _ _ _ _) _ ?_ ?_; rotate_left; (conv => whnf); rotate_right))); all_goals (try ((guard_target = Zaa _ _ _ _); refine Zaf ?_; (all_goals (try simp only [Zaa, kzz, kz11, kz12, maxL, Zad] at *)); all_goals omega)))
  · clear hb
    refine Zau (Weak.fam (L := [jB]) (tl := [(0, .bp jB 0), (2, .rp jN 5 (s.stack.length - 1) 0), (3, .bp (3, 0, 0) 0)]) (hl := [((3, 0, 0), Zam (Zbi b))] ++ memNL m s) (F := famW s.stack) [(jN, some jF)] rfl (fun c hc => ?_) ?_ ?_ ?_ (fun i hi _ => by rw [List.mem_singleton.1 hi]; exact ⟨rfl, rfl⟩)) ?_
    · rw [List.mem_singleton.1 (show c ∈ [jF] from hc)]; exact .inl rfl
    · exact .cons (.bp rfl rfl) (.cons (.rp rfl rfl rfl) (.cons (.bp rfl rfl) .nil))
    · refine .old rfl rfl (GB.one (GVs.imm rfl) (fun _ => rfl)) ?_
      exact HLs_memN rfl rfl rfl rfl (fun _ => rfl) rfl rfl rfl rfl rfl rfl rfl rfl (fun q hq => Zco hq)
    · exact Zfw (fun _ _ => rfl) (fun q hq => Zbf hq)
    have hle : s.stack.length - 1 < s.stack.length := by omega
    have hat1 : (s.stack.getD (s.stack.length - 1) default).at_.toNat < b.ins.length := by rw [hft]; omega
    have hat0' : 0 ≤ (s.stack.getD (s.stack.length - 1) default).at_ := by rw [hft]; omega
    have hI' : HG Tryz.prog [jB] 113 (memN m s) [.bp jB 0, .rp jN 5 (s.stack.length - 1) 0, .agg (Zba (b.ins.getD (s.stack.getD (s.stack.length - 1) default).at_.toNat default))] (.bool false) (mem m s1) := by rw [hft]; exact renN' hI (.cons (.bp rfl rfl) (.cons (.rp rfl rfl rfl) (.cons (.imm rfl) .nil)))
    ((repeat' first | (refine Zat tok mix (by rfl) ?_; conv => whnf) | (refine @And.intro (Zaa _ _ _ _) _ ?_ ?_; rotate_left; (conv => whnf); rotate_right)); all_goals (try ((guard_target = Zaa _ _ _ _); refine Zaf ?_; (all_goals (try simp only [Zaa, kzz, kz11, kz12, maxL, Zad] at *)); all_goals omega)))
    refine .inr ⟨_, _, _, uG (QH.ddM (by simp) hI' h32 (memN_sub rfl rfl rfl rfl (fun _ => rfl)) rfl rfl (fun q hq => Zaq hq)), ?_⟩
    conv => whnf
    (repeat' ((fail_if_success (show AWp _ _ _ (Code.region 4 _ _) _ _)); first | (refine Zag ?_; conv => whnf) | (refine Zah ?_; conv => whnf) | refine Zae rfl (fun hb => ?_) (fun hb => ?_)))
    all_goals (try (exfalso; cases hb; done))
    clear hb
    skip
    refine ⟨_, srcL [], rfl, ?_⟩
    rw [← and_assoc]
    exact ⟨Zdf (s := s1) rfl rfl rfl (Zcj rfl rfl rfl) rfl rfl rfl (fun q hq => Zbf hq), .tup .nil, fun i hi hp => Zcs i (by rw [List.mem_singleton.1 hi]; exact .head _) hp⟩
  · exfalso
    rw [hft] at hb
    simp only [decide_eq_false_iff_not] at hb
    omega
end Go.Proofs.YtoelbgjpmpoolaaGreat
namespace Go.Proofs.YtoelbgjpmpoolaaGreat
open Go Dv
set_option maxRecDepth 10000
set_option linter.unusedSimpArgs false
set_option maxHeartbeats 4000000 in
theorem c_mStep1 (m : Zaj) (s : Mach) (f : Za2) (b : Zex) (hf : topF s = f) (hbe : Za0 m f = b) (h : 0 < s.stack.length) (h32 : s.stack.length ≤ 32) (hF : OkF m f) (he : endB m f = true) (hk : b.fin.kind = 1) (ha : 0 ≤ b.fin.a ∧ b.fin.a < f.regs.length) (hc : HG Tryz.prog LW 114 (mem m s) [.bp jB 0, .int .u16 (regA f b.fin.a)] (.tup []) (mem m (Zbw m s (regA f b.fin.a)))) :
    HG Tryz.prog [jB] 64 (mem m s) [.bp jB 0] (.tup []) (mem m (Zbw m s (regA f b.fin.a))) := by
  refine Zbc tok Tryz.func64 rfl (by decide +kernel) (Nat.le_of_ble_eq_true rfl) ?_
  have hmx : maxL = 4294967296 := rfl
  have hft : s.stack.getD (s.stack.length - 1) default = f := hf
  have hT := Zfd m s h (by omega)
  have hB := Zc8 m s (s.stack.length - 1) (by omega) (by rw [hft]; exact hF)
  rw [hft] at hB
  have hE : f.at_ = (Za0 m f).ins.length := of_decide_eq_true he
  have a0 := hF.a0
  have a1 := hF.a1
  rw [hbe] at hB hE a1
  (repeat' ((fail_if_success (show AWp _ _ _ (Code.region 0 _ _) _ _)); refine Zac ?_))
  (repeat' (refine Zab tok (by rfl) ?_; conv => whnf))
  refine .inr ⟨_, _, _, uG (QH.tnM (by simp) (by simp) hT h32 (Za5 rfl rfl rfl rfl (fun _ => rfl)) rfl (fun q hq => Zaq hq)), ?_⟩
  conv => whnf
  (repeat' ((fail_if_success (show AWp _ _ _ (Code.region 1 _ _) _ _)); refine Zac ?_))
  (repeat' (refine Zab tok (by rfl) ?_; conv => whnf))
  refine .inr ⟨_, _, _, uG (QH.tnM (by simp) (by simp) hB h32 (Za5 rfl rfl rfl rfl (fun _ => Zbq (fun hq => Zaq (by omega)))) rfl (fun q hq => (Zbq (fun hq => Zaq (by omega))).trans (Zaq hq))), ?_⟩
  conv => whnf
  ((repeat' ((fail_if_success (show AWp _ _ _ (Code.region 3 _ _) _ _)); (fail_if_success (show AWp _ _ _ (Code.region 5 _ _) _ _)); first | refine Zac ?_ | (refine Zat tok mix (by rfl) ?_; conv => whnf) | (refine Zag ?_; conv => whnf) | refine Zae rfl (fun hb => ?_) (fun hb => ?_) | (refine @And.intro (Zaa _ _ _ _) _ ?_ ?_; rotate_left; (conv => whnf); rotate_right))); all_goals (try ((guard_target = Zaa _ _ _ _); refine Zaf ?_; (all_goals (try simp only [Zaa, kzz, kz11, kz12, maxL, Zad] at *)); all_goals omega)))
  · exfalso
    rw [hft] at hb
    simp only [decide_eq_true_eq] at hb
    omega
  clear hb
  refine Zau (weakW (m := m) (s := s) (L := [jB]) (tl := [(0, .bp jB 0), (2, .rp jF 5 (s.stack.length - 1) 0), (3, .bp (3, 0, 0) 0)]) (el := [((3, 0, 0), Zam (Zbi b))]) ?_ ?_ (fun q hq => Zbf hq) (fun i hi _ => by rw [List.mem_singleton.1 hi]; exact ⟨rfl, rfl⟩)) ?_
  · exact .cons (.bp rfl rfl) (.cons (.rp rfl rfl rfl) (.cons (.bp rfl rfl) .nil))
  · exact .old rfl rfl (GB.one (GVs.imm rfl) (fun _ => rfl)) (Zcm rfl rfl rfl rfl (fun _ => rfl) rfl rfl rfl rfl rfl rfl rfl (fun q hq => Zco hq))
  have hle : s.stack.length - 1 < s.stack.length := by omega
  (repeat' ((fail_if_success (show AWp _ _ _ (Code.region 8 _ _) _ _)); (fail_if_success (show AWp _ _ _ (Code.region 9 _ _) _ _)); first | refine Zac ?_ | (refine Zab tok (by rfl) ?_; conv => whnf) | refine Zai ?_ | refine Zae rfl (fun hb => ?_) (fun hb => ?_)))
  rotate_left
  · exfalso; simp only [decide_eq_false_iff_not] at hb; omega
  clear hb
  have haa : b.fin.a.toNat < (topF s).regs.length := by rw [hf]; omega
  have hc' : HG Tryz.prog LW 114 (mem m s) [.bp jB 0, .int .u16 ((topF s).regs.getD (0 + b.fin.a.toNat) 0)] (.tup []) (mem m (Zbw m s (regA f b.fin.a))) := by rw [Nat.zero_add, hf]; exact hc
  ((repeat' first | (refine Zat tok mix (by rfl) ?_; conv => whnf) | (refine @And.intro (Zaa _ _ _ _) _ ?_ ?_; rotate_left; (conv => whnf); rotate_right)); all_goals (try ((guard_target = Zaa _ _ _ _); refine Zaf ?_; (all_goals (try simp only [Zaa, kzz, kz11, kz12, maxL, Zad] at *)); all_goals omega)))
  refine fAV (x := Zbj s.stack (s.stack.length - 1)) (y := .rs jT 1 0 (topF s).regs.length) (Zbh h rfl) ?_
  conv => whnf
  ((repeat' (refine @And.intro (Zaa _ _ _ _) _ ?_ ?_; rotate_left; (conv => whnf); rotate_right)); all_goals (try ((guard_target = Zaa _ _ _ _); refine Zaf ?_; (all_goals (try simp only [Zaa, kzz, kz11, kz12, maxL, Zad] at *)); all_goals omega)))
  refine .inr ⟨_, _, _, uG (QH.tnM (by simp) (by simp) hc' h32 (Za5 rfl rfl rfl rfl (fun _ => rfl)) rfl (fun q hq => Zaq hq)), ?_⟩
  conv => whnf
  skip
  refine ⟨_, srcL [], rfl, ?_⟩
  rw [← and_assoc]
  exact ⟨Zdf (s := Zbw m s (regA f b.fin.a)) rfl rfl rfl (Zcj rfl rfl rfl) rfl rfl rfl (fun q hq => Zbf hq), .tup .nil, fun i hi hp => Zcs i (by rw [List.mem_singleton.1 hi]; exact .head _) hp⟩
set_option maxHeartbeats 4000000 in
theorem c_mStep5 (m : Zaj) (s : Mach) (f : Za2) (b : Zex) (hf : topF s = f) (hbe : Za0 m f = b) (h : 0 < s.stack.length) (h32 : s.stack.length ≤ 32) (hF : OkF m f) (he : endB m f = true) (hk : b.fin.kind = 5) (ha : 0 ≤ b.fin.a ∧ b.fin.a < f.regs.length) (hc : HG Tryz.prog LW 117 (mem m s) [.bp jB 0, .int .u16 (regA f b.fin.a)] (.tup []) (mem m (Zbu m s (regA f b.fin.a)))) :
    HG Tryz.prog [jB] 64 (mem m s) [.bp jB 0] (.tup []) (mem m (Zbu m s (regA f b.fin.a))) := by
  refine Zbc tok Tryz.func64 rfl (by decide +kernel) (Nat.le_of_ble_eq_true rfl) ?_
  have hmx : maxL = 4294967296 := rfl
  have hft : s.stack.getD (s.stack.length - 1) default = f := hf
  have hT := Zfd m s h (by omega)
  have hB := Zc8 m s (s.stack.length - 1) (by omega) (by rw [hft]; exact hF)
  rw [hft] at hB
  have hE : f.at_ = (Za0 m f).ins.length := of_decide_eq_true he
  have a0 := hF.a0
  have a1 := hF.a1
  rw [hbe] at hB hE a1
  (repeat' ((fail_if_success (show AWp _ _ _ (Code.region 0 _ _) _ _)); refine Zac ?_))
  (repeat' (refine Zab tok (by rfl) ?_; conv => whnf))
  refine .inr ⟨_, _, _, uG (QH.tnM (by simp) (by simp) hT h32 (Za5 rfl rfl rfl rfl (fun _ => rfl)) rfl (fun q hq => Zaq hq)), ?_⟩
  conv => whnf
  (repeat' ((fail_if_success (show AWp _ _ _ (Code.region 1 _ _) _ _)); refine Zac ?_))
  (repeat' (refine Zab tok (by rfl) ?_; conv => whnf))
  refine .inr ⟨_, _, _, uG (QH.tnM (by simp) (by simp) hB h32 (Za5 rfl rfl rfl rfl (fun _ => Zbq (fun hq => Zaq (by omega)))) rfl (fun q hq => (Zbq (fun hq => Zaq (by omega))).trans (Zaq hq))), ?_⟩
  conv => whnf
  ((repeat' ((fail_if_success (show AWp _ _ _ (Code.region 3 _ _) _ _)); (fail_if_success (show AWp _ _ _ (Code.region 5 _ _) _ _)); first | refine Zac ?_ | (refine Zat tok mix (by rfl) ?_; conv => whnf) | (refine Zag ?_; conv => whnf) | refine Zae rfl (fun hb => ?_) (fun hb => ?_) | (refine @And.intro (Zaa _ _ _ _) _ ?_ ?_; rotate_left; (conv => whnf); rotate_right))); all_goals (try ((guard_target = Zaa _ _ _ _); refine Zaf ?_; (all_goals (try simp only [Zaa, kzz, kz11, kz12, maxL, Zad] at *)); all_goals omega)))
  · exfalso
    rw [hft] at hb
    simp only [decide_eq_true_eq] at hb
    omega
  clear hb
  refine Zau (weakW (m := m) (s := s) (L := [jB]) (tl := [(0, .bp jB 0), (2, .rp jF 5 (s.stack.length - 1) 0), (3, .bp (3, 0, 0) 0)]) (el := [((3, 0, 0), Zam (Zbi b))]) ?_ ?_ (fun q hq => Zbf hq) (fun i hi _ => by rw [List.mem_singleton.1 hi]; exact ⟨rfl, rfl⟩)) ?_
  · exact .cons (.bp rfl rfl) (.cons (.rp rfl rfl rfl) (.cons (.bp rfl rfl) .nil))
  · exact .old rfl rfl (GB.one (GVs.imm rfl) (fun _ => rfl)) (Zcm rfl rfl rfl rfl (fun _ => rfl) rfl rfl rfl rfl rfl rfl rfl (fun q hq => Zco hq))
  have hle : s.stack.length - 1 < s.stack.length := by omega
  (repeat' ((fail_if_success (show AWp _ _ _ (Code.region 8 _ _) _ _)); (fail_if_success (show AWp _ _ _ (Code.region 9 _ _) _ _)); first | refine Zac ?_ | (refine Zab tok (by rfl) ?_; conv => whnf) | refine Zai ?_ | refine Zae rfl (fun hb => ?_) (fun hb => ?_)))
  · exfalso; simp only [decide_eq_true_eq] at hb; omega
  clear hb
  (repeat' ((fail_if_success (show AWp _ _ _ (Code.region 10 _ _) _ _)); (fail_if_success (show AWp _ _ _ (Code.region 11 _ _) _ _)); first | refine Zac ?_ | (refine Zab tok (by rfl) ?_; conv => whnf) | refine Zae rfl (fun hb => ?_) (fun hb => ?_)))
  · exfalso; simp only [decide_eq_true_eq] at hb; omega
  clear hb
  (repeat' ((fail_if_success (show AWp _ _ _ (Code.region 12 _ _) _ _)); (fail_if_success (show AWp _ _ _ (Code.region 16 _ _) _ _)); first | refine Zac ?_ | (refine Zab tok (by rfl) ?_; conv => whnf) | refine Zae rfl (fun hb => ?_) (fun hb => ?_)))
  · exfalso; simp only [decide_eq_true_eq] at hb; omega
  clear hb
  (repeat' ((fail_if_success (show AWp _ _ _ (Code.region 17 _ _) _ _)); (fail_if_success (show AWp _ _ _ (Code.region 18 _ _) _ _)); first | refine Zac ?_ | (refine Zab tok (by rfl) ?_; conv => whnf) | refine Zae rfl (fun hb => ?_) (fun hb => ?_)))
  · exfalso; simp only [decide_eq_true_eq] at hb; omega
  clear hb
  (repeat' ((fail_if_success (show AWp _ _ _ (Code.region 19 _ _) _ _)); (fail_if_success (show AWp _ _ _ (Code.region 20 _ _) _ _)); first | refine Zac ?_ | (refine Zab tok (by rfl) ?_; conv => whnf) | refine Zae rfl (fun hb => ?_) (fun hb => ?_)))
  rotate_left
  · exfalso; simp only [decide_eq_false_iff_not] at hb; omega
  clear hb
  have haa : b.fin.a.toNat < (topF s).regs.length := by rw [hf]; omega
  have hc' : HG Tryz.prog LW 117 (mem m s) [.bp jB 0, .int .u16 ((topF s).regs.getD (0 + b.fin.a.toNat) 0)] (.tup []) (mem m (Zbu m s (regA f b.fin.a))) := by rw [Nat.zero_add, hf]; exact hc
  ((repeat' first | (refine Zat tok mix (by rfl) ?_; conv => whnf) | (refine @And.intro (Zaa _ _ _ _) _ ?_ ?_; rotate_left; (conv => whnf); rotate_right)); all_goals (try ((guard_target = Zaa _ _ _ _); refine Zaf ?_; (all_goals (try simp only [Zaa, kzz, kz11, kz12, maxL, Zad] at *)); all_goals omega)))
  refine fAV (x := Zbj s.stack (s.stack.length - 1)) (y := .rs jT 1 0 (topF s).regs.length) (Zbh h rfl) ?_
  conv => whnf
  ((repeat' (refine @And.intro (Zaa _ _ _ _) _ ?_ ?_; rotate_left; (conv => whnf); rotate_right)); all_goals (try ((guard_target = Zaa _ _ _ _); refine Zaf ?_; (all_goals (try simp only [Zaa, kzz, kz11, kz12, maxL, Zad] at *)); all_goals omega)))
  refine .inr ⟨_, _, _, uG (QH.tnM (by simp) (by simp) hc' h32 (Za5 rfl rfl rfl rfl (fun _ => rfl)) rfl (fun q hq => Zaq hq)), ?_⟩
  conv => whnf
  skip
  refine ⟨_, srcL [], rfl, ?_⟩
  rw [← and_assoc]
  exact ⟨Zdf (s := Zbu m s (regA f b.fin.a)) rfl rfl rfl (Zcj rfl rfl rfl) rfl rfl rfl (fun q hq => Zbf hq), .tup .nil, fun i hi hp => Zcs i (by rw [List.mem_singleton.1 hi]; exact .head _) hp⟩
set_option maxHeartbeats 4000000 in
theorem c_mStep6 (m : Zaj) (s : Mach) (f : Za2) (b : Zex) (hf : topF s = f) (hbe : Za0 m f = b) (h : 0 < s.stack.length) (h32 : s.stack.length ≤ 32) (hF : OkF m f) (he : endB m f = true) (hk : b.fin.kind = 6) (hc : HG Tryz.prog LW 117 (mem m s) [.bp jB 0, .int .u16 f.fly] (.tup []) (mem m (Zbu m s f.fly))) :
    HG Tryz.prog [jB] 64 (mem m s) [.bp jB 0] (.tup []) (mem m (Zbu m s f.fly)) := by
  refine Zbc tok Tryz.func64 rfl (by decide +kernel) (Nat.le_of_ble_eq_true rfl) ?_
  have hmx : maxL = 4294967296 := rfl
  have hft : s.stack.getD (s.stack.length - 1) default = f := hf
  have hT := Zfd m s h (by omega)
  have hB := Zc8 m s (s.stack.length - 1) (by omega) (by rw [hft]; exact hF)
  rw [hft] at hB
  have hE : f.at_ = (Za0 m f).ins.length := of_decide_eq_true he
  have a0 := hF.a0
  have a1 := hF.a1
  rw [hbe] at hB hE a1
  (repeat' ((fail_if_success (show AWp _ _ _ (Code.region 0 _ _) _ _)); refine Zac ?_))
  (repeat' (refine Zab tok (by rfl) ?_; conv => whnf))
  refine .inr ⟨_, _, _, uG (QH.tnM (by simp) (by simp) hT h32 (Za5 rfl rfl rfl rfl (fun _ => rfl)) rfl (fun q hq => Zaq hq)), ?_⟩
  conv => whnf
  (repeat' ((fail_if_success (show AWp _ _ _ (Code.region 1 _ _) _ _)); refine Zac ?_))
  (repeat' (refine Zab tok (by rfl) ?_; conv => whnf))
  refine .inr ⟨_, _, _, uG (QH.tnM (by simp) (by simp) hB h32 (Za5 rfl rfl rfl rfl (fun _ => Zbq (fun hq => Zaq (by omega)))) rfl (fun q hq => (Zbq (fun hq => Zaq (by omega))).trans (Zaq hq))), ?_⟩
  conv => whnf
  ((repeat' ((fail_if_success (show AWp _ _ _ (Code.region 3 _ _) _ _)); (fail_if_success (show AWp _ _ _ (Code.region 5 _ _) _ _)); first | refine Zac ?_ | (refine Zat tok mix (by rfl) ?_; conv => whnf) | (refine Zag ?_; conv => whnf) | refine Zae rfl (fun hb => ?_) (fun hb => ?_) | (refine @And.intro (Zaa _ _ _ _) _ ?_ ?_; rotate_left; (conv => whnf); rotate_right))); all_goals (try ((guard_target = Zaa _ _ _ _); refine Zaf ?_; (all_goals (try simp only [Zaa, kzz, kz11, kz12, maxL, Zad] at *)); all_goals omega)))
  · exfalso
    rw [hft] at hb
    simp only [decide_eq_true_eq] at hb
    omega
  clear hb
  refine Zau (weakW (m := m) (s := s) (L := [jB]) (tl := [(0, .bp jB 0), (2, .rp jF 5 (s.stack.length - 1) 0), (3, .bp (3, 0, 0) 0)]) (el := [((3, 0, 0), Zam (Zbi b))]) ?_ ?_ (fun q hq => Zbf hq) (fun i hi _ => by rw [List.mem_singleton.1 hi]; exact ⟨rfl, rfl⟩)) ?_
  · exact .cons (.bp rfl rfl) (.cons (.rp rfl rfl rfl) (.cons (.bp rfl rfl) .nil))
  · exact .old rfl rfl (GB.one (GVs.imm rfl) (fun _ => rfl)) (Zcm rfl rfl rfl rfl (fun _ => rfl) rfl rfl rfl rfl rfl rfl rfl (fun q hq => Zco hq))
  have hle : s.stack.length - 1 < s.stack.length := by omega
  (repeat' ((fail_if_success (show AWp _ _ _ (Code.region 8 _ _) _ _)); (fail_if_success (show AWp _ _ _ (Code.region 9 _ _) _ _)); first | refine Zac ?_ | (refine Zab tok (by rfl) ?_; conv => whnf) | refine Zai ?_ | refine Zae rfl (fun hb => ?_) (fun hb => ?_)))
  · exfalso; simp only [decide_eq_true_eq] at hb; omega
  clear hb
  (repeat' ((fail_if_success (show AWp _ _ _ (Code.region 10 _ _) _ _)); (fail_if_success (show AWp _ _ _ (Code.region 11 _ _) _ _)); first | refine Zac ?_ | (refine Zab tok (by rfl) ?_; conv => whnf) | refine Zae rfl (fun hb => ?_) (fun hb => ?_)))
  · exfalso; simp only [decide_eq_true_eq] at hb; omega
  clear hb
  (repeat' ((fail_if_success (show AWp _ _ _ (Code.region 12 _ _) _ _)); (fail_if_success (show AWp _ _ _ (Code.region 16 _ _) _ _)); first | refine Zac ?_ | (refine Zab tok (by rfl) ?_; conv => whnf) | refine Zae rfl (fun hb => ?_) (fun hb => ?_)))
  · exfalso; simp only [decide_eq_true_eq] at hb; omega
  clear hb
  (repeat' ((fail_if_success (show AWp _ _ _ (Code.region 17 _ _) _ _)); (fail_if_success (show AWp _ _ _ (Code.region 18 _ _) _ _)); first | refine Zac ?_ | (refine Zab tok (by rfl) ?_; conv => whnf) | refine Zae rfl (fun hb => ?_) (fun hb => ?_)))
  · exfalso; simp only [decide_eq_true_eq] at hb; omega
  clear hb
  (repeat' ((fail_if_success (show AWp _ _ _ (Code.region 19 _ _) _ _)); (fail_if_success (show AWp _ _ _ (Code.region 20 _ _) _ _)); first | refine Zac ?_ | (refine Zab tok (by rfl) ?_; conv => whnf) | refine Zae rfl (fun hb => ?_) (fun hb => ?_)))
  · exfalso; simp only [decide_eq_true_eq] at hb; omega
  clear hb
  (repeat' ((fail_if_success (show AWp _ _ _ (Code.region 21 _ _) _ _)); first | (refine Zab tok (by rfl) ?_; conv => whnf) | (refine Zag ?_; conv => whnf) | refine Zae rfl (fun hb => ?_) (fun hb => ?_)))
  rotate_left
  · exfalso; simp only [decide_eq_false_iff_not] at hb; omega
  clear hb
  have hc' : HG Tryz.prog LW 117 (mem m s) [.bp jB 0, .int .u16 (s.stack.getD (s.stack.length - 1) default).fly] (.tup []) (mem m (Zbu m s f.fly)) := by rw [hft]; exact hc
  ((repeat' first | (refine Zab tok (by rfl) ?_; conv => whnf) | (refine @And.intro (Zaa _ _ _ _) _ ?_ ?_; rotate_left; (conv => whnf); rotate_right)); all_goals (try ((guard_target = Zaa _ _ _ _); refine Zaf ?_; (all_goals (try simp only [Zaa, kzz, kz11, kz12, maxL, Zad] at *)); all_goals omega)))
  refine .inr ⟨_, _, _, uG (QH.tnM (by simp) (by simp) hc' h32 (Za5 rfl rfl rfl rfl (fun _ => rfl)) rfl (fun q hq => Zaq hq)), ?_⟩
  conv => whnf
  skip
  refine ⟨_, srcL [], rfl, ?_⟩
  rw [← and_assoc]
  exact ⟨Zdf (s := Zbu m s f.fly) rfl rfl rfl (Zcj rfl rfl rfl) rfl rfl rfl (fun q hq => Zbf hq), .tup .nil, fun i hi hp => Zcs i (by rw [List.mem_singleton.1 hi]; exact .head _) hp⟩
set_option maxHeartbeats 4000000 in
theorem c_mStep4 (m : Zaj) (s : Mach) (f : Za2) (b : Zex) (hf : topF s = f) (hbe : Za0 m f = b) (h : 0 < s.stack.length) (h32 : s.stack.length ≤ 32) (hF : OkF m f) (he : endB m f = true) (hk : b.fin.kind = 4) (hc : HG Tryz.prog [jB] 116 (mem m s) [.bp jB 0, iv b.fin.f, ints b.fin.args] (.tup []) (mem m (Zb2 m s b.fin.f b.fin.args))) :
    HG Tryz.prog [jB] 64 (mem m s) [.bp jB 0] (.tup []) (mem m (Zb2 m s b.fin.f b.fin.args)) := by
  refine Zbc tok Tryz.func64 rfl (by decide +kernel) (Nat.le_of_ble_eq_true rfl) ?_
  have hmx : maxL = 4294967296 := rfl
  have hft : s.stack.getD (s.stack.length - 1) default = f := hf
  have hT := Zfd m s h (by omega)
  have hB := Zc8 m s (s.stack.length - 1) (by omega) (by rw [hft]; exact hF)
  rw [hft] at hB
  have hE : f.at_ = (Za0 m f).ins.length := of_decide_eq_true he
  have a0 := hF.a0
  have a1 := hF.a1
  rw [hbe] at hB hE a1
  (repeat' ((fail_if_success (show AWp _ _ _ (Code.region 0 _ _) _ _)); refine Zac ?_))
  (repeat' (refine Zab tok (by rfl) ?_; conv => whnf))
  refine .inr ⟨_, _, _, uG (QH.tnM (by simp) (by simp) hT h32 (Za5 rfl rfl rfl rfl (fun _ => rfl)) rfl (fun q hq => Zaq hq)), ?_⟩
  conv => whnf
  (repeat' ((fail_if_success (show AWp _ _ _ (Code.region 1 _ _) _ _)); refine Zac ?_))
  (repeat' (refine Zab tok (by rfl) ?_; conv => whnf))
  refine .inr ⟨_, _, _, uG (QH.tnM (by simp) (by simp) hB h32 (Za5 rfl rfl rfl rfl (fun _ => Zbq (fun hq => Zaq (by omega)))) rfl (fun q hq => (Zbq (fun hq => Zaq (by omega))).trans (Zaq hq))), ?_⟩
  conv => whnf
  ((repeat' ((fail_if_success (show AWp _ _ _ (Code.region 3 _ _) _ _)); (fail_if_success (show AWp _ _ _ (Code.region 5 _ _) _ _)); first | refine Zac ?_ | (refine Zat tok mix (by rfl) ?_; conv => whnf) | (refine Zag ?_; conv => whnf) | refine Zae rfl (fun hb => ?_) (fun hb => ?_) | (refine @And.intro (Zaa _ _ _ _) _ ?_ ?_; rotate_left; (conv => whnf); rotate_right))); all_goals (try ((guard_target = Zaa _ _ _ _); refine Zaf ?_; (all_goals (try simp only [Zaa, kzz, kz11, kz12, maxL, Zad] at *)); all_goals omega)))
  · exfalso
    rw [hft] at hb
    simp only [decide_eq_true_eq] at hb
    omega
  clear hb
  refine Zau (Weak.fam (L := [jB]) (tl := [(0, .bp jB 0), (2, .rp jN 5 (s.stack.length - 1) 0), (3, .bp (3, 0, 0) 0)]) (hl := [((3, 0, 0), Zam (Zbi b))] ++ memNL m s) (F := famW s.stack) [(jN, some jF)] rfl (fun c hc => ?_) ?_ ?_ ?_ (fun i hi _ => by rw [List.mem_singleton.1 hi]; exact ⟨rfl, rfl⟩)) ?_
  · rw [List.mem_singleton.1 (show c ∈ [jF] from hc)]; exact .inl rfl
  · exact .cons (.bp rfl rfl) (.cons (.rp rfl rfl rfl) (.cons (.bp rfl rfl) .nil))
  · refine .old rfl rfl (GB.one (GVs.imm rfl) (fun _ => rfl)) ?_
    exact HLs_memN rfl rfl rfl rfl (fun _ => rfl) rfl rfl rfl rfl rfl rfl rfl rfl (fun q hq => Zco hq)
  · exact Zfw (fun _ _ => rfl) (fun q hq => Zbf hq)
  have hle : s.stack.length - 1 < s.stack.length := by omega
  (repeat' ((fail_if_success (show AWp _ _ _ (Code.region 8 _ _) _ _)); (fail_if_success (show AWp _ _ _ (Code.region 9 _ _) _ _)); first | refine Zac ?_ | (refine Zab tok (by rfl) ?_; conv => whnf) | refine Zai ?_ | refine Zae rfl (fun hb => ?_) (fun hb => ?_)))
  · exfalso; simp only [decide_eq_true_eq] at hb; omega
  clear hb
  (repeat' ((fail_if_success (show AWp _ _ _ (Code.region 10 _ _) _ _)); (fail_if_success (show AWp _ _ _ (Code.region 11 _ _) _ _)); first | refine Zac ?_ | (refine Zab tok (by rfl) ?_; conv => whnf) | refine Zae rfl (fun hb => ?_) (fun hb => ?_)))
  · exfalso; simp only [decide_eq_true_eq] at hb; omega
  clear hb
  (repeat' ((fail_if_success (show AWp _ _ _ (Code.region 12 _ _) _ _)); (fail_if_success (show AWp _ _ _ (Code.region 16 _ _) _ _)); first | refine Zac ?_ | (refine Zab tok (by rfl) ?_; conv => whnf) | refine Zae rfl (fun hb => ?_) (fun hb => ?_)))
  · exfalso; simp only [decide_eq_true_eq] at hb; omega
  clear hb
  (repeat' ((fail_if_success (show AWp _ _ _ (Code.region 17 _ _) _ _)); (fail_if_success (show AWp _ _ _ (Code.region 18 _ _) _ _)); first | refine Zac ?_ | (refine Zab tok (by rfl) ?_; conv => whnf) | refine Zae rfl (fun hb => ?_) (fun hb => ?_)))
  rotate_left
  · exfalso; simp only [decide_eq_false_iff_not] at hb; omega
  clear hb
  have hc' := renN' hc (.cons (.bp rfl rfl) (.cons (.imm rfl) (.cons (.imm rfl) .nil)))
  (repeat' (refine Zab tok (by rfl) ?_; conv => whnf))
  refine .inr ⟨_, _, _, uG (QH.ddM (by simp) hc' h32 (memN_sub rfl rfl rfl rfl (fun _ => rfl)) rfl rfl (fun q hq => Zaq hq)), ?_⟩
  conv => whnf
  skip
  refine ⟨_, srcL [], rfl, ?_⟩
  rw [← and_assoc]
  exact ⟨Zdf (s := Zb2 m s b.fin.f b.fin.args) rfl rfl rfl (Zcj rfl rfl rfl) rfl rfl rfl (fun q hq => Zbf hq), .tup .nil, fun i hi hp => Zcs i (by rw [List.mem_singleton.1 hi]; exact .head _) hp⟩
end Go.Proofs.YtoelbgjpmpoolaaGreat
namespace Go.Proofs.YtoelbgjpmpoolaaGreat
open Go Dv
set_option maxRecDepth 10000
set_option linter.unusedSimpArgs false
set_option maxHeartbeats 4000000 in
theorem c_mStep2 (m : Zaj) (s : Mach) (f : Za2) (b : Zex) (hf : topF s = f) (hbe : Za0 m f = b) (h : 0 < s.stack.length) (h32 : s.stack.length ≤ 32) (hF : OkF m f) (he : endB m f = true) (hk : b.fin.kind = 2) :
    HG Tryz.prog [jB] 64 (mem m s) [.bp jB 0] (.tup []) (mem m (Zbo s (goF b f))) := by
  refine Zbc tok Tryz.func64 rfl (by decide +kernel) (Nat.le_of_ble_eq_true rfl) ?_
  have hmx : maxL = 4294967296 := rfl
  have hft : s.stack.getD (s.stack.length - 1) default = f := hf
  have hT := Zfd m s h (by omega)
  have hB := Zc8 m s (s.stack.length - 1) (by omega) (by rw [hft]; exact hF)
  rw [hft] at hB
  have hE : f.at_ = (Za0 m f).ins.length := of_decide_eq_true he
  have a0 := hF.a0
  have a1 := hF.a1
  rw [hbe] at hB hE a1
  (repeat' ((fail_if_success (show AWp _ _ _ (Code.region 0 _ _) _ _)); refine Zac ?_))
  (repeat' (refine Zab tok (by rfl) ?_; conv => whnf))
  refine .inr ⟨_, _, _, uG (QH.tnM (by simp) (by simp) hT h32 (Za5 rfl rfl rfl rfl (fun _ => rfl)) rfl (fun q hq => Zaq hq)), ?_⟩
  conv => whnf
  (repeat' ((fail_if_success (show AWp _ _ _ (Code.region 1 _ _) _ _)); refine Zac ?_))
  (repeat' (refine Zab tok (by rfl) ?_; conv => whnf))
  refine .inr ⟨_, _, _, uG (QH.tnM (by simp) (by simp) hB h32 (Za5 rfl rfl rfl rfl (fun _ => Zbq (fun hq => Zaq (by omega)))) rfl (fun q hq => (Zbq (fun hq => Zaq (by omega))).trans (Zaq hq))), ?_⟩
  conv => whnf
  ((repeat' ((fail_if_success (show AWp _ _ _ (Code.region 3 _ _) _ _)); (fail_if_success (show AWp _ _ _ (Code.region 5 _ _) _ _)); first | refine Zac ?_ | (refine Zat tok mix (by rfl) ?_; conv => whnf) | (refine Zag ?_; conv => whnf) | refine Zae rfl (fun hb => ?_) (fun hb => ?_) | (refine @And.intro (Zaa _ _ _ _) _ ?_ ?_; rotate_left; (conv => whnf); rotate_right))); all_goals (try ((guard_target = Zaa _ _ _ _); refine Zaf ?_; (all_goals (try simp only [Zaa, kzz, kz11, kz12, maxL, Zad] at *)); all_goals omega)))
  · exfalso
    rw [hft] at hb
    simp only [decide_eq_true_eq] at hb
    omega
  clear hb
  refine Zau (weakW (m := m) (s := s) (L := [jB]) (tl := [(0, .bp jB 0), (2, .rp jF 5 (s.stack.length - 1) 0), (3, .bp (3, 0, 0) 0)]) (el := [((3, 0, 0), Zam (Zbi b))]) ?_ ?_ (fun q hq => Zbf hq) (fun i hi _ => by rw [List.mem_singleton.1 hi]; exact ⟨rfl, rfl⟩)) ?_
  · exact .cons (.bp rfl rfl) (.cons (.rp rfl rfl rfl) (.cons (.bp rfl rfl) .nil))
  · exact .old rfl rfl (GB.one (GVs.imm rfl) (fun _ => rfl)) (Zcm rfl rfl rfl rfl (fun _ => rfl) rfl rfl rfl rfl rfl rfl rfl (fun q hq => Zco hq))
  have hle : s.stack.length - 1 < s.stack.length := by omega
  (repeat' ((fail_if_success (show AWp _ _ _ (Code.region 8 _ _) _ _)); (fail_if_success (show AWp _ _ _ (Code.region 9 _ _) _ _)); first | refine Zac ?_ | (refine Zab tok (by rfl) ?_; conv => whnf) | refine Zai ?_ | refine Zae rfl (fun hb => ?_) (fun hb => ?_)))
  · exfalso; simp only [decide_eq_true_eq] at hb; omega
  clear hb
  (repeat' ((fail_if_success (show AWp _ _ _ (Code.region 10 _ _) _ _)); (fail_if_success (show AWp _ _ _ (Code.region 11 _ _) _ _)); first | refine Zac ?_ | (refine Zab tok (by rfl) ?_; conv => whnf) | refine Zae rfl (fun hb => ?_) (fun hb => ?_)))
  rotate_left
  · exfalso; simp only [decide_eq_false_iff_not] at hb; omega
  clear hb
  have hG := c_Go (topF s) b.fin.to
  have hGo : goF b f = { topF s with block := b.fin.to, at_ := 0 } := by unfold goF; rw [if_neg (fun e => by omega), hf]
  refine Zc9 tok mix (by rfl) [0, 1, 2, 3, 4, 5, 7] 30 (by rfl) (by rfl) (by rfl) ?_
  conv => whnf
  (repeat' first
    | (refine fAV (x := Zbj s.stack (s.stack.length - 1)) (y := .rs jT 1 0 (topF s).regs.length) (Zbh h rfl) ?_; (conv => whnf))
    | (refine @And.intro (Zaa _ _ _ _) _ ?_ ?_; rotate_left; (conv => whnf); rotate_right)
    | (guard_target = And _ _; refine @And.intro (gOp _ _ _ _ _ _ _ _ _) _ (by (conv => whnf); first | exact ⟨rfl, rfl⟩ | (refine fAV (x := Zbj s.stack (s.stack.length - 1)) (y := .rs jT 1 0 (topF s).regs.length) (Zbh h rfl) ?_; (conv => whnf); exact ⟨rfl, rfl⟩)) ?_; conv => whnf)
    | (guard_target = And _ _; refine And.intro ?_ ?_ <;> (conv => whnf)))
  all_goals (try ((guard_target = Zaa _ _ _ _); refine Zaf ?_; (all_goals (try simp only [Zaa, kzz, kz11, kz12, maxL, Zad] at *)); all_goals omega))
  all_goals (try (show AV.agg [_, _, _, Zbj s.stack (s.stack.length - 1), _] = AV.agg [_, _, _, .rs jT 1 0 (topF s).regs.length, _]; rw [Zbh h rfl]; done))
  refine .inr ⟨_, _, _, uG (QH.lendF (rd := [jT]) hG (.cons (.agg (.cons (.imm rfl) (.cons (.imm rfl) (.cons (.imm rfl) (.cons (.row rfl (.head _) rfl rfl (fun q hq => rfl)) (.cons (.imm rfl) .nil)))))) (.cons (.imm rfl) .nil)) (fun i hi => by rw [Zc3 hi]; rfl) rfl (fun j b e => by
    obtain ⟨rfl, rfl⟩ := lendOne j b e
    exact fun i hi => rfl)), ?_⟩
  conv => whnf
  (repeat' first
    | (refine fAV (x := Zbj s.stack (s.stack.length - 1)) (y := .rs jT 1 0 (topF s).regs.length) (Zbh h rfl) ?_; (conv => whnf))
    | (refine @And.intro (Zaa _ _ _ _) _ ?_ ?_; rotate_left; (conv => whnf); rotate_right)
    | (guard_target = And _ _; refine @And.intro (gOp _ _ _ _ _ _ _ _ _) _ (by (conv => whnf); first | exact ⟨rfl, rfl⟩ | (refine fAV (x := Zbj s.stack (s.stack.length - 1)) (y := .rs jT 1 0 (topF s).regs.length) (Zbh h rfl) ?_; (conv => whnf); exact ⟨rfl, rfl⟩)) ?_; conv => whnf)
    | (guard_target = And _ _; refine And.intro ?_ ?_ <;> (conv => whnf)))
  all_goals (try ((guard_target = Zaa _ _ _ _); refine Zaf ?_; (all_goals (try simp only [Zaa, kzz, kz11, kz12, maxL, Zad] at *)); all_goals omega))
  all_goals (try (show AV.agg [_, _, _, Zbj s.stack (s.stack.length - 1), _] = AV.agg [_, _, _, .rs jT 1 0 (topF s).regs.length, _]; rw [Zbh h rfl]; done))
  skip
  refine ⟨_, srcT jE r0, rfl, ?_⟩
  rw [← and_assoc]
  refine ⟨leaveG (s := s) (g := { topF s with block := b.fin.to, at_ := 0 }) (n' := s.stack.length) h (by rw [hGo]) rfl (.inr (.inl rfl)) (.inl rfl) rfl ?_ rfl (Nat.le_refl _) (fun q hq => ?_) ?_ rfl (Zed _) rfl (Zbv _) (fun q hq => ?_), .tup .nil, fun i hi hp => keepT i (by rw [List.mem_singleton.1 hi]; exact .head _) hp⟩
  · exact Zec (s := Zbo s (goF b f)) (Zc6 (s := s) h).symm rfl rfl rfl rfl
  · exact Zcw (by omega)
  · exact Zdi
  · refine Zew (d := []) (u := oneR (topF s).regs) rfl rfl ?_
    exact Za7 hq
set_option maxHeartbeats 4000000 in
theorem c_mStep3 (m : Zaj) (s : Mach) (f : Za2) (b : Zex) (hf : topF s = f) (hbe : Za0 m f = b) (h : 0 < s.stack.length) (h32 : s.stack.length ≤ 32) (hF : OkF m f) (he : endB m f = true) (hk : b.fin.kind = 3) (ha : 0 ≤ b.fin.a ∧ b.fin.a < f.regs.length) :
    HG Tryz.prog [jB] 64 (mem m s) [.bp jB 0] (.tup []) (mem m (Zbo s (goF b f))) := by
  refine Zbc tok Tryz.func64 rfl (by decide +kernel) (Nat.le_of_ble_eq_true rfl) ?_
  have hmx : maxL = 4294967296 := rfl
  have hft : s.stack.getD (s.stack.length - 1) default = f := hf
  have hT := Zfd m s h (by omega)
  have hB := Zc8 m s (s.stack.length - 1) (by omega) (by rw [hft]; exact hF)
  rw [hft] at hB
  have hE : f.at_ = (Za0 m f).ins.length := of_decide_eq_true he
  have a0 := hF.a0
  have a1 := hF.a1
  rw [hbe] at hB hE a1
  (repeat' ((fail_if_success (show AWp _ _ _ (Code.region 0 _ _) _ _)); refine Zac ?_))
  (repeat' (refine Zab tok (by rfl) ?_; conv => whnf))
  refine .inr ⟨_, _, _, uG (QH.tnM (by simp) (by simp) hT h32 (Za5 rfl rfl rfl rfl (fun _ => rfl)) rfl (fun q hq => Zaq hq)), ?_⟩
  conv => whnf
  (repeat' ((fail_if_success (show AWp _ _ _ (Code.region 1 _ _) _ _)); refine Zac ?_))
  (repeat' (refine Zab tok (by rfl) ?_; conv => whnf))
  refine .inr ⟨_, _, _, uG (QH.tnM (by simp) (by simp) hB h32 (Za5 rfl rfl rfl rfl (fun _ => Zbq (fun hq => Zaq (by omega)))) rfl (fun q hq => (Zbq (fun hq => Zaq (by omega))).trans (Zaq hq))), ?_⟩
  conv => whnf
  ((repeat' ((fail_if_success (show AWp _ _ _ (Code.region 3 _ _) _ _)); (fail_if_success (show AWp _ _ _ (Code.region 5 _ _) _ _)); first | refine Zac ?_ | (refine Zat tok mix (by rfl) ?_; conv => whnf) | (refine Zag ?_; conv => whnf) | refine Zae rfl (fun hb => ?_) (fun hb => ?_) | (refine @And.intro (Zaa _ _ _ _) _ ?_ ?_; rotate_left; (conv => whnf); rotate_right))); all_goals (try ((guard_target = Zaa _ _ _ _); refine Zaf ?_; (all_goals (try simp only [Zaa, kzz, kz11, kz12, maxL, Zad] at *)); all_goals omega)))
  · exfalso
    rw [hft] at hb
    simp only [decide_eq_true_eq] at hb
    omega
  clear hb
  refine Zau (weakW (m := m) (s := s) (L := [jB]) (tl := [(0, .bp jB 0), (2, .rp jF 5 (s.stack.length - 1) 0), (3, .bp (3, 0, 0) 0)]) (el := [((3, 0, 0), Zam (Zbi b))]) ?_ ?_ (fun q hq => Zbf hq) (fun i hi _ => by rw [List.mem_singleton.1 hi]; exact ⟨rfl, rfl⟩)) ?_
  · exact .cons (.bp rfl rfl) (.cons (.rp rfl rfl rfl) (.cons (.bp rfl rfl) .nil))
  · exact .old rfl rfl (GB.one (GVs.imm rfl) (fun _ => rfl)) (Zcm rfl rfl rfl rfl (fun _ => rfl) rfl rfl rfl rfl rfl rfl rfl (fun q hq => Zco hq))
  have hle : s.stack.length - 1 < s.stack.length := by omega
  (repeat' ((fail_if_success (show AWp _ _ _ (Code.region 8 _ _) _ _)); (fail_if_success (show AWp _ _ _ (Code.region 9 _ _) _ _)); first | refine Zac ?_ | (refine Zab tok (by rfl) ?_; conv => whnf) | refine Zai ?_ | refine Zae rfl (fun hb => ?_) (fun hb => ?_)))
  · exfalso; simp only [decide_eq_true_eq] at hb; omega
  clear hb
  (repeat' ((fail_if_success (show AWp _ _ _ (Code.region 10 _ _) _ _)); (fail_if_success (show AWp _ _ _ (Code.region 11 _ _) _ _)); first | refine Zac ?_ | (refine Zab tok (by rfl) ?_; conv => whnf) | refine Zae rfl (fun hb => ?_) (fun hb => ?_)))
  · exfalso; simp only [decide_eq_true_eq] at hb; omega
  clear hb
  (repeat' ((fail_if_success (show AWp _ _ _ (Code.region 12 _ _) _ _)); (fail_if_success (show AWp _ _ _ (Code.region 16 _ _) _ _)); first | refine Zac ?_ | (refine Zab tok (by rfl) ?_; conv => whnf) | refine Zae rfl (fun hb => ?_) (fun hb => ?_)))
  rotate_left
  · exfalso; simp only [decide_eq_false_iff_not] at hb; omega
  clear hb
  have haa : b.fin.a.toNat < (topF s).regs.length := by rw [hf]; omega
  ((repeat' first | refine Zac ?_ | (refine Zab tok (by rfl) ?_; conv => whnf) | (refine Zat tok mix (by rfl) ?_; conv => whnf) | (refine @And.intro (Zaa _ _ _ _) _ ?_ ?_; rotate_left; (conv => whnf); rotate_right)); all_goals (try ((guard_target = Zaa _ _ _ _); refine Zaf ?_; (all_goals (try simp only [Zaa, kzz, kz11, kz12, maxL, Zad] at *)); all_goals omega)))
  refine fAV (x := Zbj s.stack (s.stack.length - 1)) (y := .rs jT 1 0 (topF s).regs.length) (Zbh h rfl) ?_
  conv => whnf
  ((repeat' ((fail_if_success (show AWp _ _ _ (Code.region 14 _ _) _ _)); (fail_if_success (show AWp _ _ _ (Code.region 15 _ _) _ _)); first | (refine Zag ?_; conv => whnf) | refine Zae rfl (fun hb => ?_) (fun hb => ?_) | (refine @And.intro (Zaa _ _ _ _) _ ?_ ?_; rotate_left; (conv => whnf); rotate_right))); all_goals (try ((guard_target = Zaa _ _ _ _); refine Zaf ?_; (all_goals (try simp only [Zaa, kzz, kz11, kz12, maxL, Zad] at *)); all_goals omega)))
  · have hz : ¬ regA f b.fin.a = 0 := by
      unfold regA
      rw [Nat.zero_add, hf] at hb
      simpa using hb
    clear hb
    have hG := c_Go (topF s) b.fin.to
    have hGo : goF b f = { topF s with block := b.fin.to, at_ := 0 } := by unfold goF; rw [if_neg (fun e => hz e.2), hf]
    ((repeat' first | (refine Zab tok (by rfl) ?_; conv => whnf) | (refine @And.intro (Zaa _ _ _ _) _ ?_ ?_; rotate_left; (conv => whnf); rotate_right)); all_goals (try ((guard_target = Zaa _ _ _ _); refine Zaf ?_; (all_goals (try simp only [Zaa, kzz, kz11, kz12, maxL, Zad] at *)); all_goals omega)))
    refine fAV (x := Zbj s.stack (s.stack.length - 1)) (y := .rs jT 1 0 (topF s).regs.length) (Zbh h rfl) ?_
    conv => whnf
    skip
    refine .inr ⟨_, _, _, uG (QH.lendF (rd := [jT]) hG (.cons (.agg (.cons (.imm rfl) (.cons (.imm rfl) (.cons (.imm rfl) (.cons (.row rfl (.head _) rfl rfl (fun q hq => rfl)) (.cons (.imm rfl) .nil)))))) (.cons (.imm rfl) .nil)) (fun i hi => by rw [Zc3 hi]; rfl) rfl (fun j b e => by
      obtain ⟨rfl, rfl⟩ := lendOne j b e
      exact fun i hi => rfl)), ?_⟩
    conv => whnf
    ((repeat' (refine @And.intro (Zaa _ _ _ _) _ ?_ ?_; rotate_left; (conv => whnf); rotate_right)); all_goals (try ((guard_target = Zaa _ _ _ _); refine Zaf ?_; (all_goals (try simp only [Zaa, kzz, kz11, kz12, maxL, Zad] at *)); all_goals omega)))
    refine ⟨_, srcT jE r0, rfl, ?_⟩
    rw [← and_assoc]
    refine ⟨leaveG (s := s) (g := { topF s with block := b.fin.to, at_ := 0 }) (n' := s.stack.length) h (by rw [hGo]) rfl (.inr (.inl rfl)) (.inl rfl) rfl ?_ rfl (Nat.le_refl _) (fun q hq => ?_) ?_ rfl (Zed _) rfl (Zbv _) (fun q hq => ?_), .tup .nil, fun i hi hp => keepT i (by rw [List.mem_singleton.1 hi]; exact .head _) hp⟩
    · exact Zec (s := Zbo s (goF b f)) (Zc6 (s := s) h).symm rfl rfl rfl rfl
    · exact Zcw (by omega)
    · exact Zdi
    · refine Zew (d := []) (u := oneR (topF s).regs) rfl rfl ?_
      exact Za7 hq
  · have hz : regA f b.fin.a = 0 := by
      unfold regA
      rw [Nat.zero_add, hf] at hb
      simpa using hb
    clear hb
    have hG := c_Go (topF s) b.fin.els
    have hGo : goF b f = { topF s with block := b.fin.els, at_ := 0 } := by unfold goF; rw [if_pos ⟨hk, hz⟩, hf]
    ((repeat' first | (refine Zab tok (by rfl) ?_; conv => whnf) | (refine @And.intro (Zaa _ _ _ _) _ ?_ ?_; rotate_left; (conv => whnf); rotate_right)); all_goals (try ((guard_target = Zaa _ _ _ _); refine Zaf ?_; (all_goals (try simp only [Zaa, kzz, kz11, kz12, maxL, Zad] at *)); all_goals omega)))
    refine fAV (x := Zbj s.stack (s.stack.length - 1)) (y := .rs jT 1 0 (topF s).regs.length) (Zbh h rfl) ?_
    conv => whnf
    skip
    refine .inr ⟨_, _, _, uG (QH.lendF (rd := [jT]) hG (.cons (.agg (.cons (.imm rfl) (.cons (.imm rfl) (.cons (.imm rfl) (.cons (.row rfl (.head _) rfl rfl (fun q hq => rfl)) (.cons (.imm rfl) .nil)))))) (.cons (.imm rfl) .nil)) (fun i hi => by rw [Zc3 hi]; rfl) rfl (fun j b e => by
      obtain ⟨rfl, rfl⟩ := lendOne j b e
      exact fun i hi => rfl)), ?_⟩
    conv => whnf
    ((repeat' (refine @And.intro (Zaa _ _ _ _) _ ?_ ?_; rotate_left; (conv => whnf); rotate_right)); all_goals (try ((guard_target = Zaa _ _ _ _); refine Zaf ?_; (all_goals (try simp only [Zaa, kzz, kz11, kz12, maxL, Zad] at *)); all_goals omega)))
    refine ⟨_, srcT jE r0, rfl, ?_⟩
    rw [← and_assoc]
    refine ⟨leaveG (s := s) (g := { topF s with block := b.fin.els, at_ := 0 }) (n' := s.stack.length) h (by rw [hGo]) rfl (.inr (.inl rfl)) (.inl rfl) rfl ?_ rfl (Nat.le_refl _) (fun q hq => ?_) ?_ rfl (Zed _) rfl (Zbv _) (fun q hq => ?_), .tup .nil, fun i hi hp => keepT i (by rw [List.mem_singleton.1 hi]; exact .head _) hp⟩
    · exact Zec (s := Zbo s (goF b f)) (Zc6 (s := s) h).symm rfl rfl rfl rfl
    · exact Zcw (by omega)
    · exact Zdi
    · refine Zew (d := []) (u := oneR (topF s).regs) rfl rfl ?_
      exact Za7 hq
end Go.Proofs.YtoelbgjpmpoolaaGreat
namespace Go.Proofs.YtoelbgjpmpoolaaGreat
open Go Dv
set_option maxRecDepth 10000
set_option linter.unusedSimpArgs false
theorem withM_two {s : Mach} {f g : Za2} (h : 0 < s.stack.length) : Zbo (Zbo s f) g = Zbo s g := by
  unfold Zbo
  simp only [List.length_append, List.length_take, List.length_singleton]
  congr 2
  rw [List.take_append, List.take_take, List.length_take]
  have e1 : min (s.stack.length - 1) s.stack.length = s.stack.length - 1 := by omega
  rw [e1]
  have e2 : s.stack.length - 1 + 1 - 1 - (s.stack.length - 1) = 0 := by omega
  rw [e2]
  have e3 : min (s.stack.length - 1 + 1 - 1) (s.stack.length - 1) = s.stack.length - 1 := by omega
  rw [e3]; simp
theorem top_withM {s : Mach} {f : Za2} (h : 0 < s.stack.length) : topF (Zbo s f) = f := by
  unfold topF; rw [with_len h]; exact with_top h
abbrev HGstep (m : Zaj) (s s1 : Mach) : Prop := HG Tryz.prog [jB] 64 (mem m s) [.bp jB 0] (.tup []) (mem m s1)
theorem c_mStepI {m : Zaj} {s : Mach} (hr : Zbg m = true) (h : OkM m s) (hp : 0 < s.stack.length) (hev : s.events.length < 1000000) (he : endB m (topF s) = false) : HGstep m s (insM m s (topF s) (Zby m (topF s))) := by
  have hF := h.fr _ (Zfk hp)
  have hI := (okF_ins hr hF he).2
  have h64 := (Zeu hr hF).1
  have a0 := hF.a0
  have a1 := hF.a1
  have hR := hF.regs
  have hl := h.len
  have no8 : ∀ n, 8 < n → (Zby m (topF s)).op = n → ¬ (Zby m (topF s)).op ≤ 8 := fun n _ e => by omega
  have r8 : ∀ (h1 : 1 ≤ (Zby m (topF s)).op) (h8 : (Zby m (topF s)).op ≤ 8) (hd : 0 ≤ (Zby m (topF s)).dst ∧ (Zby m (topF s)).dst < (topF s).regs.length) (ha : 1 < (Zby m (topF s)).op → 0 ≤ (Zby m (topF s)).a ∧ (Zby m (topF s)).a < (topF s).regs.length) (hb' : 2 < (Zby m (topF s)).op → 0 ≤ (Zby m (topF s)).b ∧ (Zby m (topF s)).b < (topF s).regs.length), HGstep m s (insM m s (topF s) (Zby m (topF s))) := fun h1 h8 hd ha hb' =>
    c_mStepF m s _ (topF s) rfl hp hl hF he (c_mIns8 m s (topF s) (Zby m (topF s)) rfl hp hl a0 (by omega) h1 h8 hd ha hb')
  have run : ∀ s1 g, s1.stack.length = s.stack.length → HG Tryz.prog LW 113 (mem m s) [.bp jB 0, .rp jF 5 (s.stack.length - 1) 0, .agg (Zba (Zby m (topF s)))] (.bool true) (mem m s1) → topF s1 = g → g.at_ = (topF s).at_ → HGstep m s (Zbo s1 (goOn g)) := fun s1 g e hc e2 e3 => by
    subst e2
    exact c_mStepT m s s1 (topF s) rfl hp hl hF he e (by omega) (by omega) hc
  rcases hI with h1 | h1 | h1 | h1 | h1 | h1 | h1
  · have hd := (Zad _ _).1 h1.2.1
    exact r8 (by omega) (by omega) (by rw [hR]; exact hd) (fun h => by omega) (fun h => by omega)
  · have hd := (Zad _ _).1 h1.2.1
    have ha := (Zad _ _).1 h1.2.2.1
    rcases h1.1 with ho | ho
    · exact r8 (by omega) (by omega) (by rw [hR]; exact hd) (fun h => by rw [hR]; exact ha) (fun h => by omega)
    · have hM : insM m s (topF s) (Zby m (topF s)) = if 16 ≤ (topF s).regs.getD (Zby m (topF s)).a.toNat 0 then endM s 4 0 else Zbo s (goOn (frW (topF s) (Zby m (topF s)).dst (s.cells.getD (cellN (topF s) (Zby m (topF s))) 0))) := by
        unfold insM; rw [if_neg (by omega), if_neg (by omega), if_pos ho]
      rw [hM]
      split
      · rename_i h16
        exact c_mStepF m s _ (topF s) rfl hp hl hF he (c_mIns9n m s (Zby m (topF s)) ho hp hl (by rw [hR]; exact ha) h16)
      · rename_i h16
        have := run _ _ (with_len hp) (c_mIns9y m s (Zby m (topF s)) _ ho hp hl (by rw [hR]; exact ha) (by rw [hR]; exact hd) (by omega) rfl) (top_withM hp) rfl
        rw [withM_two hp] at this
        exact this
  · have hd := (Zad _ _).1 h1.2.1
    have ha := (Zad _ _).1 h1.2.2.1
    have hb := (Zad _ _).1 h1.2.2.2.1
    exact r8 (by omega) (by omega) (by rw [hR]; exact hd) (fun h => by rw [hR]; exact ha) (fun h => by rw [hR]; exact hb)
  · have ho := h1.1
    have ha := (Zad _ _).1 h1.2.2.1
    have hb := (Zad _ _).1 h1.2.2.2.1
    have hM : insM m s (topF s) (Zby m (topF s)) = if 16 ≤ (topF s).regs.getD (Zby m (topF s)).a.toNat 0 then endM s 4 0 else Zbo (stM s (cellN (topF s) (Zby m (topF s))) ((topF s).regs.getD (Zby m (topF s)).b.toNat 0)) (goOn (topF s)) := by
      unfold insM; rw [if_neg (by omega), if_neg (by omega), if_neg (by omega), if_pos ho]; rfl
    rw [hM]
    split
    · rename_i h16
      exact c_mStepF m s _ (topF s) rfl hp hl hF he (c_mIns10n m s (Zby m (topF s)) ho hp hl (by rw [hR]; exact ha) h16)
    · rename_i h16
      exact run _ _ rfl (c_mIns10y m s (Zby m (topF s)) _ ho hp hl (by rw [hR]; exact ha) (by rw [hR]; exact hb) h.cells (by omega) rfl) rfl rfl
  · have hA := argsB_n h1.2.2.2.2.2
    have hM : insM m s (topF s) (Zby m (topF s)) = Zb2 m s (Zby m (topF s)).f (Zby m (topF s)).args := by unfold insM; rw [if_pos h1.1]
    rw [hM]
    exact c_mStepC m s _ (topF s) rfl hp hl hF he (c_mIns11 m s (Zby m (topF s)) _ h1.1 hl (c_mCall m s _ _ hr hp hl hA.1.1 hA.1.2 hA.2.1 (fun p hp' => by rw [hR]; exact hA.2.2 p hp')))
  · have ho := h1.1
    have ha := (Zad _ _).1 h1.2.2.1
    have hM : insM m s (topF s) (Zby m (topF s)) = Zbo (evM s ((topF s).regs.getD (Zby m (topF s)).a.toNat 0)) (goOn (topF s)) := by
      unfold insM; rw [if_neg (by omega), if_neg (by omega), if_neg (by omega), if_neg (by omega), if_pos ho]; rfl
    rw [hM]
    exact run _ _ rfl (c_mIns12 m s (Zby m (topF s)) ho hp (by rw [hR]; exact ha) hev) rfl rfl
  · have ho := h1.1
    have hd := (Zad _ _).1 h1.2.1
    have hM : insM m s (topF s) (Zby m (topF s)) = if s.inputs.length = 0 then endM s 6 0 else Zbo (inM s) (goOn (frW (topF s) (Zby m (topF s)).dst (s.inputs.getD 0 0))) := by
      unfold insM; rw [if_neg (by omega), if_neg (by omega), if_neg (by omega), if_neg (by omega), if_neg (by omega), if_pos ho]; rfl
    rw [hM]
    split
    · rename_i hz
      exact c_mStepF m s _ (topF s) rfl hp hl hF he (c_mIns13a m s (Zby m (topF s)) ho hl hz)
    · rename_i hz
      have := run _ _ (with_len (s := inM s) hp) (c_mIns13b m s (Zby m (topF s)) ho hp hz h.inp.2 (by rw [hR]; exact hd) hev) (top_withM (s := inM s) hp) rfl
      rw [withM_two (s := inM s) hp] at this
      exact this
theorem c_mStepOk {m : Zaj} {s : Mach} (hr : Zbg m = true) (h : OkM m s) (hev : s.events.length < 1000000) (hd : s.done = 0) : HGstep m s (Zfn m s) := by
  have hp := h.pos hd
  have hF := h.fr _ (Zfk hp)
  have hE := (Zeu hr hF).2
  have hl := h.len
  have hR := hF.regs
  rw [show Zfn m s = Zfo m s (topF s) (Za0 m (topF s)) from if_pos hd]
  unfold Zfo
  cases he : endB m (topF s) with
  | false => rw [if_pos rfl]; exact c_mStepI hr h hp hev he
  | true =>
    rw [if_neg (by decide)]
    have hT : ∀ w, HG Tryz.prog LW 117 (mem m s) [.bp jB 0, .int .u16 w] (.tup []) (mem m (Zbu m s w)) := fun w => c_mThr m s w hr hp hl (fun i hi => h.fr _ (Zcz _ hi))
    have hA : ∀ w, HG Tryz.prog LW 114 (mem m s) [.bp jB 0, .int .u16 w] (.tup []) (mem m (Zbw m s w)) := fun w => by
      refine c_mAns m s w hp hl (fun h2 => (Zdr h h2).1) (fun h2 => ?_) (fun h2 he => ?_) (fun h2 he => ?_)
      · have hF := (Zdr h h2).1
        have := (Zeu hr hF).1
        have := hF.a1
        omega
      · exact ((callF_dst hr (Zdr h h2).1 (Zdr h h2).2).1 he).1
      · exact (callF_dst hr (Zdr h h2).1 (Zdr h h2).2).2 he
    have k1 := c_mStep1 m s (topF s) _ rfl rfl hp hl hF he
    have k2 := c_mStep2 m s (topF s) _ rfl rfl hp hl hF he
    have k3 := c_mStep3 m s (topF s) _ rfl rfl hp hl hF he
    have k4 := c_mStep4 m s (topF s) _ rfl rfl hp hl hF he
    have k5 := c_mStep5 m s (topF s) _ rfl rfl hp hl hF he
    have k6 := c_mStep6 m s (topF s) _ rfl rfl hp hl hF he
    rcases hE with e | e | e | e | e
    · rcases e.1 with e1 | e1
      · rw [if_pos e1]; exact k1 e1 (by rw [hR]; exact (Zad _ _).1 e.2.1) (hA _)
      · rw [if_neg (by omega), if_neg (by omega), if_pos e1]; exact k5 e1 (by rw [hR]; exact (Zad _ _).1 e.2.1) (hT _)
    · rw [if_neg (by omega), if_neg (by omega), if_neg (by omega), if_neg (by omega)]; exact k2 e.1
    · rw [if_neg (by omega), if_neg (by omega), if_neg (by omega), if_neg (by omega)]; exact k3 e.1 (by rw [hR]; exact (Zad _ _).1 e.2.1)
    · have hA := argsB_n e.2.2.2.1
      rw [if_neg (by omega), if_pos e.1]; exact k4 e.1 (c_mCall m s _ _ hr hp hl hA.1.1 hA.1.2 hA.2.1 (fun p hp' => by rw [hR]; exact hA.2.2 p hp'))
    · rw [if_neg (by omega), if_neg (by omega), if_neg (by omega), if_pos e.1]; exact k6 e.1 (hT _)
end Go.Proofs.YtoelbgjpmpoolaaGreat
namespace Go.Proofs.YtoelbgjpmpoolaaGreat
open Go Dv
set_option maxRecDepth 10000
set_option linter.unusedSimpArgs false
def newC (F : Dv.Id) (inputs : List Int) : List AV := [.rs F 5 0 1, .int .u16 0, .int .u16 0, .int .u16 0, .int .u16 0, .int .u16 0, .int .u16 0, .int .u16 0, .int .u16 0, .int .u16 0, .int .u16 0, .int .u16 0, .int .u16 0, .int .u16 0, .int .u16 0, .int .u16 0, .int .u16 0, u16s inputs, .nsl, iv 0, .int .u16 0]
def newL (m : Zaj) (inputs : List Int) : List (Dv.Id × Zan) := [(jN, Zc2 (newM m inputs).stack), (jT, regB (frN m 0 []).regs)]
set_option maxHeartbeats 4000000 in
theorem c_mNew (m : Zaj) (inputs : List Int) (hr : Zbg m = true) : HF Tryz.prog 31 [.agg (Zav m), u16s inputs] (.tup [.agg (newC jN inputs), iv 0]) (orH (Za4 (newL m inputs)) noH) := by
  refine Zf3 tok Tryz.func31 rfl (by decide +kernel) (Nat.le_of_ble_eq_true rfl) ?_
  have hmx : maxL = 4294967296 := rfl
  have h0 := right0 hr
  have hN := c_fNew m 0 [] hr (by omega) (by omega) (by simp only [List.length_nil]; exact h0.2.symm)
  refine Zaw 1 (fun hl => ?_)
  have hl0 : inputs.length ≤ maxL := hl.1
  clear hl
  (repeat' first | refine Zac ?_ | (refine Zab tok (by rfl) ?_; conv => whnf))
  refine .inr ⟨_, _, _, uG (QH.lendF (rd := []) hN (.cons (.imm rfl) (.cons (.imm rfl) (.cons .nsl .nil))) (fun i hi => by rw [Zc3 hi]; rfl) rfl (fun j b e => by
    obtain ⟨rfl, rfl⟩ := lendOne j b e
    exact fun i hi => rfl)), ?_⟩
  conv => whnf
  (repeat' ((fail_if_success (show AWp _ _ _ (Code.region 3 _ _) _ _)); (fail_if_success (show AWp _ _ _ (Code.region 4 _ _) _ _)); first | refine Zac ?_ | (refine Zab tok (by rfl) ?_; conv => whnf) | (refine Zag ?_; conv => whnf) | refine Zae rfl (fun hb => ?_) (fun hb => ?_)))
  · exfalso; cases hb
  clear hb
  refine Zc9 tok mix (by rfl) [0, 2] 30 (by rfl) (by rfl) (by rfl) ?_
  conv => whnf
  (repeat' first
    | (refine @And.intro (Zaa _ _ _ _) _ ?_ ?_; rotate_left; (conv => whnf); rotate_right)
    | (guard_target = And _ _; refine @And.intro (gOp _ _ _ _ _ _ _ _ _) _ (by (conv => whnf); exact ⟨rfl, rfl⟩) ?_; conv => whnf)
    | (guard_target = And _ _; refine And.intro ?_ ?_ <;> (conv => whnf))
    | (refine .inl ⟨_, _, _, uG (QC.fo (rd := []) (Zf1 inputs) (Ress.imms rfl) (.inl rfl) rfl), ?_⟩; (conv => whnf)))
  all_goals (try ((guard_target = Zaa _ _ _ _); skip; all_goals omega))
  all_goals
    (repeat' (refine Zah ?_; conv => whnf))
    refine ⟨_, srcL [(jN, some (18, 0, 0)), (jT, some r0)], rfl, ?_⟩
    rw [← and_assoc]
    refine ⟨leaveR [(jN, some (18, 0, 0)), (jT, some r0)] rfl (fun c hc => ?_) (.old rfl rfl (GB.row (Nat.le_refl _) (fun q hq => ?_) (fun e => by cases e)) (.old rfl rfl (Zbv _) .nil)) (fun j b e => by cases e), .tup (.cons (.agg (.cons (.rs rfl rfl rfl rfl) (.cons (.imm rfl) (.cons (.imm rfl) (.cons (.imm rfl) (.cons (.imm rfl) (.cons (.imm rfl) (.cons (.imm rfl) (.cons (.imm rfl) (.cons (.imm rfl) (.cons (.imm rfl) (.cons (.imm rfl) (.cons (.imm rfl) (.cons (.imm rfl) (.cons (.imm rfl) (.cons (.imm rfl) (.cons (.imm rfl) (.cons (.imm rfl) (.cons (GV.frz (fun j hj e => ?_) rfl (by omega) rfl (fun x hx => by rw [Nat.zero_add]; exact .cons (.imm rfl) .nil) (fun x hx => rfl)) (.cons (.imm rfl) (.cons (.imm rfl) (.cons (.imm rfl) .nil)))))))))))))))))))))) (.cons (.imm rfl) .nil))⟩
    · rcases List.mem_cons.1 (show c ∈ [(18, 0, 0), r0] from hc) with rfl | hc
      · exact .inl rfl
      · rw [List.mem_singleton.1 hc]; exact .inl rfl
    · have hq0 : q = 0 := by have : q < 1 := hq; omega
      subst hq0
      exact .cons (.imm rfl) (.cons (.imm rfl) (.cons (.imm rfl) (.cons (.cc rfl rfl (.rs rfl rfl rfl rfl)) (.cons (.imm rfl) .nil))))
    · cases e1 : idEq jN j with
      | true => rw [← Za6.1 e1] at e; cases e
      | false =>
        cases e2 : idEq jT j with
        | true => rw [← Za6.1 e2] at e; cases e
        | false =>
          have hj' : (orH (Za4 (newL m inputs)) noH j).isSome = true := hj
          unfold orH newL at hj'
          simp only [Za4, e1, e2, cond_false, noH] at hj'
          cases hj'
end Go.Proofs.YtoelbgjpmpoolaaGreat
namespace Go.Proofs.YtoelbgjpmpoolaaGreat
open Go Dv
set_option maxRecDepth 10000
set_option linter.unusedSimpArgs false
theorem c_CloneFrames (l : List Za2) : FO Tryz.prog 78 [frs l] 5 l.length (fun i => Zar (l.getD i default)) := by
  refine FO_intro tok Tryz.func78 rfl (by decide +kernel) (Nat.le_of_ble_eq_true rfl) ?_
  refine Zaw 0 (fun hl => ?_)
  have hl0 : l.length ≤ maxL := hl.1
  ((repeat' first | refine Zac ?_ | (refine Zab tok (by rfl) ?_; conv => whnf) | (refine Zag ?_; conv => whnf) | (refine Zah ?_; conv => whnf) | refine Zae rfl (fun hb => ?_) (fun hb => ?_) | (refine @And.intro (Zaa _ _ _ _) _ ?_ ?_; rotate_left; (conv => whnf); rotate_right) | (refine fun (bn : Bool) (hbn : (0 < _ → bn = _)) => ?_; conv => whnf)); all_goals (try ((guard_target = Zaa _ _ _ _); refine Zaf ?_; (first | refine And.intro Zd3 ?_ | skip); (all_goals (try simp only [Zaa, kzz, kz11, kz12, maxL, Zad] at *)); all_goals omega)))
  · refine ⟨_, rfl, RelO.nsl' ?_⟩
    rcases Nat.eq_zero_or_pos l.length with h | h
    · exact h
    · rw [hbn h] at hb; cases hb
  · refine ⟨_, rfl, RelO.rs rfl (Nat.le_refl _) (by simp) (fun i hi => ?_)⟩
    show appR 0 (rowOf 5 []) (fun i => Zar (l.getD i default)) i = _
    exact appR_zero
def famG (l : List Za2) (k : Nat) : Zap := famC 945 (fun z q => bif Nat.beq z 0 && Nat.blt q k then some (regB (l.getD q default).regs) else none)
theorem famG_some {l : List Za2} {k : Nat} {j : Dv.Id} {b : Zan} (h : famG l k j = some b) : ∃ q, j = (945, 0, q) ∧ q < k ∧ b = regB (l.getD q default).regs := by
  obtain ⟨z, q, rfl, h3⟩ := famC_some h
  cases e : (Nat.beq z 0 && Nat.blt q k) with
  | false => rw [e] at h3; cases h3
  | true =>
    rw [e] at h3
    rw [Bool.and_eq_true, Nat.blt_eq] at e
    have hz : z = 0 := Nat.eq_of_beq_eq_true e.1
    subst hz
    exact ⟨q, rfl, e.2, (Option.some.inj h3).symm⟩
theorem famG_at {l : List Za2} {k q : Nat} (h : q < k) : famG l k (945, 0, q) = some (regB (l.getD q default).regs) := by
  show (bif Nat.beq 0 0 && Nat.blt q k then some (regB (l.getD q default).regs) else none) = _
  rw [show (Nat.beq 0 0 && Nat.blt q k) = true from by rw [Bool.and_eq_true, Nat.blt_eq]; exact ⟨rfl, h⟩]; rfl
def cpR (l : List Za2) (i q : Nat) : AV := sel (Nat.blt q i) (.rs (945, 0, q) 1 0 (l.getD q default).regs.length) (u16s (l.getD q default).regs)
def cpF (l : List Za2) (i q : Nat) : List AV := [iv (l.getD q default).f, iv (l.getD q default).block, iv (l.getD q default).at_, cpR l i q, .int .u16 (l.getD q default).fly]
def rowCp (l : List Za2) (i : Nat) : Zan := .row false 5 l.length (cpF l i)
def cpB (F E : Dv.Id) (s : Mach) : List AV := [.rs F 5 0 s.stack.length, cw s.cells 0, cw s.cells 1, cw s.cells 2, cw s.cells 3, cw s.cells 4, cw s.cells 5, cw s.cells 6, cw s.cells 7, cw s.cells 8, cw s.cells 9, cw s.cells 10, cw s.cells 11, cw s.cells 12, cw s.cells 13, cw s.cells 14, cw s.cells 15, u16s s.inputs, .rs E 1 0 s.events.length, iv s.done, .int .u16 s.value]
def cpH (s : Mach) : Zap := orH (Za4 [(jN, rowCp s.stack s.stack.length), (jE, evB s.events)]) (famG s.stack s.stack.length)
theorem GVs_cpB {src : Dv.Id → Option Dv.Id} {h h' : Zap} {F F' E E' : Dv.Id} {s : Mach} (h1 : GV src h h' (.rs F 5 0 s.stack.length) (.rs F' 5 0 s.stack.length)) (h2 : GV src h h' (.rs E 1 0 s.events.length) (.rs E' 1 0 s.events.length)) : GVs src h h' (cpB F E s) (cpB F' E' s) :=
  .cons h1 (.cons (.imm rfl) (.cons (.imm rfl) (.cons (.imm rfl) (.cons (.imm rfl) (.cons (.imm rfl) (.cons (.imm rfl) (.cons (.imm rfl) (.cons (.imm rfl) (.cons (.imm rfl) (.cons (.imm rfl) (.cons (.imm rfl) (.cons (.imm rfl) (.cons (.imm rfl) (.cons (.imm rfl) (.cons (.imm rfl) (.cons (.imm rfl) (.cons (.imm rfl) (.cons h2 (.cons (.imm rfl) (.cons (.imm rfl) .nil))))))))))))))))))))
theorem srcG_eq {k k' : Nat} {o : Option Dv.Id} : srcL [((945, k', k), o)] (945, k', k) = o := by
  show (bif idEq (945, k', k) (945, k', k) then _ else _) = _
  rw [Za6.2 rfl]; rfl
theorem srcG_ne {k q : Nat} {o : Option Dv.Id} (h : q ≠ k) : srcL [((945, 0, k), o)] (945, 0, q) = some (945, 0, q) := by
  show (bif idEq (945, 0, k) (945, 0, q) then _ else _) = _
  rw [Zbs.2 (fun e => h (congrArg (fun x => x.2.2) e).symm)]; rfl
set_option maxHeartbeats 4000000 in
theorem c_mCopyH (s : Mach) : HF Tryz.prog 43 [.agg (Zas s)] (.agg (cpB jN jE s)) (cpH s) := by
  refine Zf3 tok Tryz.func43 rfl (by decide +kernel) (Nat.le_of_ble_eq_true rfl) ?_
  refine Zaw 0 (fun hl => ?_)
  have hl0 : s.stack.length ≤ maxL := hl.1.1
  have hmx : maxL = 4294967296 := rfl
  clear hl
  (repeat' ((fail_if_success (show AWp _ _ _ (Code.region 1 _ _) _ _)); first | refine Zac ?_ | (refine Zab tok (by rfl) ?_; conv => whnf)))
  refine Zc9 tok mix (by rfl) [0, 1, 3, 4, 6, 7, 9, 11, 13] 40 (by rfl) (by rfl) (by rfl) ?_
  conv => whnf
  (repeat' first
    | (refine @And.intro (Zaa _ _ _ _) _ ?_ ?_; rotate_left; (conv => whnf); rotate_right)
    | (guard_target = And _ _; refine @And.intro (gOp _ _ _ _ _ _ _ _ _) _ (by (conv => whnf); exact ⟨rfl, rfl⟩) ?_; conv => whnf)
    | (guard_target = And _ _; refine And.intro ?_ ?_ <;> (conv => whnf))
    | (refine .inl ⟨_, _, _, uG (QC.fo (rd := []) (c_CloneFrames s.stack) (Ress.imms rfl) (.inl rfl) rfl), ?_⟩; (conv => whnf))
    | (refine .inl ⟨_, _, _, uG (QC.fo (rd := []) (Zf1 s.inputs) (Ress.imms rfl) (.inl rfl) rfl), ?_⟩; (conv => whnf))
    | (refine .inl ⟨_, _, _, uG (QC.fo (rd := []) (c_CloneInts s.events) (Ress.imms rfl) (.inl rfl) rfl), ?_⟩; (conv => whnf)))
  all_goals (try ((guard_target = Zaa _ _ _ _); skip; all_goals omega))
  (repeat' ((fail_if_success (show AWp _ _ _ (Code.region 3 _ _) _ _)); first | refine Zac ?_ | (refine Zab tok (by rfl) ?_; conv => whnf) | refine Zai ?_))
  refine Za1 (fun k : Nat => mkF [(1, .bp (1, 0, 0) 0), (2, .bp (2, 0, 0) 0), (18, iv s.stack.length), (19, iv k)] [((1, 0, 0), .row false 21 1 (fun _ => cpB (6, 0, 0) (12, 0, 0) s)), ((2, 0, 0), Zam Zbz), ((6, 0, 0), rowCp s.stack k), ((12, 0, 0), evB s.events)] (famG s.stack k)) (fun k => k ≤ s.stack.length) (fun k => s.stack.length - k) 0 (Nat.zero_le _) ?_ ?_
  · refine Weak.fam [] rfl (fun i hi => by cases hi) ?_ ?_ (fun j b e => by obtain ⟨q, _, h, _⟩ := famG_some e; omega) (fun i hi => by cases hi)
    · (repeat' first | exact TLg.nil | refine TLg.cons (GV.imm rfl) ?_ | refine TLg.cons (GV.bp rfl rfl) ?_)
      all_goals rfl
    · refine .old rfl rfl (GB.one ?_ (fun e => by cases e)) (.old rfl rfl (GB.one (GVs.imm rfl) (fun _ => rfl)) (.old rfl rfl (GB.row (Nat.le_refl _) (fun q hq => ?_) (fun e => by cases e)) (.old rfl rfl (Zed _) .nil)))
      · refine .cons (.rs rfl rfl rfl rfl) (.cons (.imm rfl) (.cons (.imm rfl) (.cons (.imm rfl) (.cons (.imm rfl) (.cons (.imm rfl) (.cons (.imm rfl) (.cons (.imm rfl) (.cons (.imm rfl) (.cons (.imm rfl) (.cons (.imm rfl) (.cons (.imm rfl) (.cons (.imm rfl) (.cons (.imm rfl) (.cons (.imm rfl) (.cons (.imm rfl) (.cons (.imm rfl) (.cons (GV.frz (fun j hj e => ?_) rfl (by omega) rfl (fun x hx => by rw [Nat.zero_add x]; exact .cons (.imm rfl) .nil) (fun x hx => rfl)) (.cons (.rs rfl rfl rfl rfl) (.cons (.imm rfl) (.cons (.imm rfl) .nil))))))))))))))))))))
        have e' : j = (9, 0, 0) := Option.some.inj e
        subst e'
        cases hj
      · exact .cons (.imm rfl) (.cons (.imm rfl) (.cons (.imm rfl) (.cons (.cc rfl (Zdk (Nat.zero_le _)) (.imm rfl)) (.cons (.imm rfl) .nil))))
  intro k hk
  (repeat' ((fail_if_success (show AWp _ _ _ (Code.region 5 _ _) _ _)); (fail_if_success (show AWp _ _ _ (Code.region 7 _ _) _ _)); first | refine Zac ?_ | (refine Zab tok (by rfl) ?_; conv => whnf) | refine Zai ?_ | (refine Zag ?_; conv => whnf) | (refine Za3 ?_; conv => whnf) | refine Zae rfl (fun hb => ?_) (fun hb => ?_)))
  · have hkl : k < s.stack.length := by simp only [decide_eq_true_eq] at hb; omega
    clear hb
    have hsel : cpR s.stack k (0 + k) = u16s (s.stack.getD k default).regs := by rw [Nat.zero_add]; exact Zdk (Nat.le_refl _)
    refine Zc9 tok mix (by rfl) [0, 1, 2, 3, 4, 5, 6, 7, 10, 11] 30 (by rfl) (by rfl) (by rfl) ?_
    conv => whnf
    (repeat' first
      | (refine fAV (x := cpR s.stack k (0 + k)) (y := u16s (s.stack.getD k default).regs) hsel ?_; (conv => whnf))
      | (refine @And.intro (Zaa _ _ _ _) _ ?_ ?_; rotate_left; (conv => whnf); rotate_right)
      | (guard_target = And _ _; refine @And.intro (gOp _ _ _ _ _ _ _ _ _) _ (by (conv => whnf); first | exact ⟨rfl, rfl⟩ | (refine fAV (x := cpR s.stack k (0 + k)) (y := u16s (s.stack.getD k default).regs) hsel ?_; (conv => whnf); exact ⟨rfl, rfl⟩)) ?_; conv => whnf)
      | (guard_target = And _ _; refine And.intro ?_ ?_ <;> (conv => whnf))
      | (refine .inl ⟨_, _, _, uG (QC.fo (rd := []) (Zf1 (s.stack.getD k default).regs) (Ress.imms rfl) (.inl rfl) rfl), ?_⟩; (conv => whnf)))
    all_goals (try rfl)
    all_goals (try ((guard_target = Zaa _ _ _ _); refine Zaf ?_; (all_goals (try simp only [Zaa, kzz, kz11, kz12, maxL, Zad] at *)); all_goals omega))
    (repeat' (refine Zab tok (by rfl) ?_; conv => whnf))
    refine ⟨k + 1, hkl, by omega, ?_⟩
    refine Weak.fam [((945, 0, k), some (31, 0, 0))] rfl (fun c hc => by simp only [tgts, List.mem_singleton] at hc; subst hc; exact .inl rfl) ?_ ?_ (fun j b e => ?_) (fun i hi => by cases hi)
    · (repeat' first | exact TLg.nil | refine TLg.cons (GV.imm rfl) ?_ | refine TLg.cons (GV.bp rfl rfl) ?_ | refine TLg.cons (GV.int ?_) ?_)
      all_goals first | rfl | (simp (disch := omega) only [Zal]; omega)
    · refine .old rfl rfl (GB.one (GVs_cpB (.rs rfl rfl rfl rfl) (.rs rfl rfl rfl rfl)) (fun e => by cases e)) (.old rfl rfl (GB.one (GVs.imm rfl) (fun _ => rfl)) (.old rfl rfl (GB.row (Nat.le_refl _) (fun q hq => ?_) (fun e => by cases e)) (.old rfl rfl (Zed _) .nil)))
      show GVs _ _ _ (updR (cpF s.stack k) (0 + k) [iv (s.stack.getD (0 + k) default).f, iv (s.stack.getD (0 + k) default).block, iv (s.stack.getD (0 + k) default).at_, .rs (31, 0, 0) 1 0 (s.stack.getD k default).regs.length, .int .u16 (s.stack.getD (0 + k) default).fly] q) (cpF s.stack (k + 1) q)
      rw [Nat.zero_add k]
      by_cases e : q = k
      · subst e
        rw [Zdi]
        exact .cons (.imm rfl) (.cons (.imm rfl) (.cons (.imm rfl) (.cons (.cc rfl (Zcy (Nat.lt_succ_self _)) (.rs (famG_at (Nat.lt_succ_self _)) srcG_eq rfl rfl)) (.cons (.imm rfl) .nil))))
      · rw [Zcw (Ne.symm e)]
        refine .cons (.imm rfl) (.cons (.imm rfl) (.cons (.imm rfl) (.cons ?_ (.cons (.imm rfl) .nil))))
        by_cases e2 : q < k
        · exact .cc (Zcy e2) (Zcy (Nat.lt_succ_of_lt e2)) (.rs (famG_at (Nat.lt_succ_of_lt e2)) (srcG_ne e) rfl rfl)
        · exact .cc (Zdk (by omega)) (Zdk (by omega)) (.imm rfl)
    · obtain ⟨q, rfl, hq, rfl⟩ := famG_some e
      by_cases e : q = k
      · subst e
        exact HOk.mk srcG_eq rfl (Zbv _)
      · exact HOk.mk (srcG_ne e) (show famG s.stack k (945, 0, q) = _ from famG_at (by omega)) (Zbv _)
  · have hkl : k = s.stack.length := by simp only [decide_eq_false_iff_not] at hb; omega
    clear hb
    subst hkl
    (repeat' first | (refine Zab tok (by rfl) ?_; conv => whnf) | (refine Zah ?_; conv => whnf))
    refine ⟨_, srcL [(jN, some (6, 0, 0)), (jE, some (12, 0, 0))], rfl, ?_⟩
    rw [← and_assoc]
    refine ⟨leaveR [(jN, some (6, 0, 0)), (jE, some (12, 0, 0))] rfl (fun c hc => ?_) (.old rfl rfl (GB.row (Nat.le_refl _) (fun q hq => ?_) (fun e => by cases e)) (.old rfl rfl (Zed _) .nil)) (fun j b e => ?_), .agg (GVs_cpB (.rs rfl rfl rfl rfl) (.rs rfl rfl rfl rfl))⟩
    · rcases List.mem_cons.1 (show c ∈ [(6, 0, 0), (12, 0, 0)] from hc) with rfl | hc
      · exact .inl rfl
      · rw [List.mem_singleton.1 hc]; exact .inl rfl
    · exact .cons (.imm rfl) (.cons (.imm rfl) (.cons (.imm rfl) (.cons (.cc (Zcy hq) (Zcy hq) (.rs (famG_at hq) rfl rfl rfl)) (.cons (.imm rfl) .nil))))
    · obtain ⟨q, rfl, hq, rfl⟩ := famG_some e
      exact HOk.mk rfl (show famG s.stack s.stack.length (945, 0, q) = _ from famG_at hq) (Zbv _)
end Go.Proofs.YtoelbgjpmpoolaaGreat
namespace Go.Proofs.YtoelbgjpmpoolaaGreat
open Go Dv
set_option maxRecDepth 10000
set_option linter.unusedSimpArgs false
abbrev noH0 : Zap := fun _ => none
theorem GV.rel {src : Dv.Id → Option Dv.Id} {h : Zap} {x y : AV} (g : GV src h noH0 x y) : Rel h x y := fun X ι w v s hv => by
  have h1 := g X ι w v s hv
  have e : plc src noH0 ι = ι0 := funext fun j => rfl
  rw [e] at h1
  exact Zbp keep_out y v (Sub.refl _) h1
theorem frz_frs {src : Dv.Id → Option Dv.Id} {h h' : Zap} {F : Dv.Id} {l : List Za2} {imm : Bool} {f : Nat → List AV} {R : Nat → Dv.Id} (hd : ∀ j, (h' j).isSome = true → src j ≠ some F) (hr : ∀ q, q < l.length → ∀ j, (h' j).isSome = true → src j ≠ some (R q)) (hF : h F = some (.row imm 5 l.length f))
    (hf : ∀ q, q < l.length → ∃ y, f q = [iv (l.getD q default).f, iv (l.getD q default).block, iv (l.getD q default).at_, y, .int .u16 (l.getD q default).fly] ∧ y = .rs (R q) 1 0 (l.getD q default).regs.length ∧ h (R q) = some (regB (l.getD q default).regs)) : GV src h h' (.rs F 5 0 l.length) (frs l) := by
  refine GV.frz hd hF (by omega) rfl (fun x hx => ?_) (fun x hx => rfl)
  obtain ⟨y, e1, e2, e3⟩ := hf x hx
  rw [Nat.zero_add x, e1]
  refine .cons (.imm rfl) (.cons (.imm rfl) (.cons (.imm rfl) (.cons ?_ (.cons (.imm rfl) .nil))))
  rw [e2]
  exact GV.frz (hr x hx) e3 (by omega) rfl (fun z hz => by rw [Nat.zero_add z]; exact .cons (.imm rfl) .nil) (fun z hz => rfl)
theorem c_mCopy (s : Mach) : FC Tryz.prog 43 [.agg (Zas s)] (.agg (Zas s)) := by
  refine HF.fc (c_mCopyH s) (GV.rel (src := fun _ => none) (.agg ?_))
  refine .cons (frz_frs (R := fun q => (945, 0, q)) (fun _ h => by cases h) (fun _ _ _ h => by cases h) rfl (fun q hq => ⟨_, rfl, Zcy hq, famG_at hq⟩)) (.cons (.imm rfl) (.cons (.imm rfl) (.cons (.imm rfl) (.cons (.imm rfl) (.cons (.imm rfl) (.cons (.imm rfl) (.cons (.imm rfl) (.cons (.imm rfl) (.cons (.imm rfl) (.cons (.imm rfl) (.cons (.imm rfl) (.cons (.imm rfl) (.cons (.imm rfl) (.cons (.imm rfl) (.cons (.imm rfl) (.cons (.imm rfl) (.cons (.imm rfl) (.cons (GV.frz (fun _ h => by cases h) rfl (by omega) rfl (fun z hz => by rw [Nat.zero_add z]; exact .cons (.imm rfl) .nil) (fun z hz => rfl)) (.cons (.imm rfl) (.cons (.imm rfl) .nil))))))))))))))))))))
end Go.Proofs.YtoelbgjpmpoolaaGreat
namespace Go.Proofs.YtoelbgjpmpoolaaGreat
open Go Dv
set_option maxRecDepth 10000
set_option linter.unusedSimpArgs false
theorem c_mStepN {m : Zaj} {s : Mach} (hr : Zbg m = true) (h : OkM m s) (hev : s.events.length < 1000000) (hd : s.done = 0) : HG Tryz.prog [jB] 64 (memN m s) [.bp jB 0] (.tup []) (mem m (Zfn m s)) :=
  renN (c_mStepOk hr h hev hd) (.cons (.bp rfl rfl) .nil)
def regN' (l : List Za2) (q : Nat) : Dv.Id := bif Nat.blt q (l.length - 1) then (945, 0, q) else jT
theorem GVs_frzM {src : Dv.Id → Option Dv.Id} {h h' : Zap} {m : Zaj} {s : Mach} {F : Dv.Id} (hd : ∀ j i, (h' j).isSome = true → src j = some i → i ≠ F ∧ i ≠ jE ∧ i ≠ jT ∧ ∀ q, i ≠ (945, 0, q)) (h1 : h F = some (Zc2 s.stack)) (h2 : h jE = some (evB s.events)) (h3 : h jT = some (regB (topF s).regs)) (h4 : ∀ q, q < s.stack.length - 1 → h (945, 0, q) = some (regB (s.stack.getD q default).regs)) :
    GVs src h h' (macX F m s) (Zas s ++ [funcss m.funcs]) := by
  refine .cons ?_ (.cons (.imm rfl) (.cons (.imm rfl) (.cons (.imm rfl) (.cons (.imm rfl) (.cons (.imm rfl) (.cons (.imm rfl) (.cons (.imm rfl) (.cons (.imm rfl) (.cons (.imm rfl) (.cons (.imm rfl) (.cons (.imm rfl) (.cons (.imm rfl) (.cons (.imm rfl) (.cons (.imm rfl) (.cons (.imm rfl) (.cons (.imm rfl) (.cons (.imm rfl) (.cons (GV.frz (fun j hj e => (hd j _ hj e).2.1 rfl) h2 (by omega) rfl (fun z hz => by rw [Nat.zero_add z]; exact .cons (.imm rfl) .nil) (fun z hz => rfl)) (.cons (.imm rfl) (.cons (.imm rfl) (.cons (.imm rfl) .nil)))))))))))))))))))))
  refine frz_frs (R := regN' s.stack) (fun j hj e => (hd j _ hj e).1 rfl) (fun q hq j hj e => ?_) h1 (fun q hq => ⟨_, rfl, ?_, ?_⟩)
  · have := hd j _ hj e
    unfold regN' at this
    cases e2 : Nat.blt q (s.stack.length - 1) with
    | true => rw [e2] at this; exact this.2.2.2 q rfl
    | false => rw [e2] at this; exact this.2.2.1 rfl
  · unfold Zbj regN'
    by_cases e : q < s.stack.length - 1
    · rw [Zcy e, show Nat.blt q (s.stack.length - 1) = true from by rw [Nat.blt_eq]; exact e]; rfl
    · rw [Zdk (by omega), show Nat.blt q (s.stack.length - 1) = false from by rw [Bool.eq_false_iff]; intro h; rw [Nat.blt_eq] at h; omega]; rfl
  · unfold regN'
    by_cases e : q < s.stack.length - 1
    · rw [show Nat.blt q (s.stack.length - 1) = true from by rw [Nat.blt_eq]; exact e]
      exact h4 q e
    · rw [show Nat.blt q (s.stack.length - 1) = false from by rw [Bool.eq_false_iff]; intro h; rw [Nat.blt_eq] at h; omega]
      show h jT = _
      rw [h3]; unfold topF; rw [show s.stack.length - 1 = q by omega]
theorem newL_names {m : Zaj} {inputs : List Int} {i : Dv.Id} (h : (orH (Za4 (newL m inputs)) noH i).isSome = true) : i = jN ∨ i = jT := by
  cases e1 : idEq jN i with
  | true => exact .inl (Za6.1 e1).symm
  | false =>
    cases e2 : idEq jT i with
    | true => exact .inr (Za6.1 e2).symm
    | false =>
      unfold orH newL at h
      simp only [Za4, e1, e2, cond_false, noH] at h
      cases h
set_option maxHeartbeats 4000000 in
theorem c_mRun (m : Zaj) (inputs : List Int) (n : Int) (hr : Zbg m = true) (hi : (∀ x ∈ inputs, 0 ≤ x ∧ x ≤ 65535) ∧ inputs.length < 1000000) (hn : n < 900000) : FC Tryz.prog 28 [.agg (Zav m), u16s inputs, iv n] (.tup [.agg (Zas (runM m inputs n.toNat)), iv 0]) := by
  refine Zao tok Tryz.func28 rfl (by decide +kernel) (Nat.le_of_ble_eq_true rfl) ?_
  have hmx : maxL = 4294967296 := rfl
  (repeat' first | refine Zac ?_ | (refine Zab tok (by rfl) ?_; conv => whnf))
  refine .inr ⟨_, _, _, uG (QH.ofF (c_mNew m inputs hr) rfl (fun i hi => ?_)), ?_⟩
  · rcases newL_names hi with rfl | rfl <;> rfl
  conv => whnf
  (repeat' ((fail_if_success (show AWp _ _ _ (Code.region 3 _ _) _ _)); (fail_if_success (show AWp _ _ _ (Code.region 4 _ _) _ _)); first | refine Zac ?_ | (refine Zab tok (by rfl) ?_; conv => whnf) | (refine Zag ?_; conv => whnf) | refine Zae rfl (fun hb => ?_) (fun hb => ?_)))
  · exfalso
    have : ¬ (1048576 : Int) < n := by omega
    simp [this] at hb
  clear hb
  (repeat' ((fail_if_success (show AWp _ _ _ (Code.region 5 _ _) _ _)); first | refine Zac ?_ | (refine Zab tok (by rfl) ?_; conv => whnf)))
  refine AWp_max tok 1 rfl (by rfl) rfl rfl rfl rfl rfl ?_; conv => whnf
  refine ⟨_, _, _, rfl, rfl, rfl, ?_⟩
  conv => whnf
  (repeat' ((fail_if_success (show AWp _ _ _ (Code.region 6 _ _) _ _)); refine Zai ?_))
  refine Za1 (fun i : Nat => mkF [(2, iv n), (3, .bp (3, 0, 0) 0), (6, .bp (6, 0, 0) 0), (10, .bp jB 0), (29, iv n.toNat), (30, iv i)] ([((3, 0, 0), Zam (Zav m)), ((6, 0, 0), Zam Zbz)] ++ memNL m (runM m inputs i)) (famW (runM m inputs i).stack)) (fun i => i ≤ n.toNat) (fun i => n.toNat - i) 0 (Nat.zero_le _) ?_ ?_
  · refine Weak.fam (L := []) (tl := [(2, iv n), (3, .bp (3, 0, 0) 0), (6, .bp (6, 0, 0) 0), (10, .bp jB 0), (29, iv n.toNat), (30, iv 0)]) (hl := [((3, 0, 0), Zam (Zav m)), ((6, 0, 0), Zam Zbz)] ++ memNL m (runM m inputs 0)) (F := famW (runM m inputs 0).stack) [(jB, some (27, 0, 0)), (jE, none)] rfl (fun c hc => ?_) ?_ ?_ ?_ (fun i hi => by cases hi)
    · rw [List.mem_singleton.1 (show c ∈ [(27, 0, 0)] from hc)]; exact .inl rfl
    · exact .cons (.imm rfl) (.cons (.bp rfl rfl) (.cons (.bp rfl rfl) (.cons (.bp rfl rfl) (.cons (.int (by omega)) (.cons (.imm rfl) .nil)))))
    · refine .old rfl rfl (GB.one (GVs.imm rfl) (fun _ => rfl)) (.old rfl rfl (GB.one (GVs.imm rfl) (fun _ => rfl)) (.old rfl rfl (GB.one ?_ (fun e => by cases e)) (.old rfl rfl (GB_fr (fun q hq => by have : q < 1 - 1 := hq; omega) rfl (fun q hq => by have : q < 1 - 1 := hq; omega) rfl) (.new rfl (.old rfl rfl (Zbv _) .nil)))))
      exact .cons (.rs rfl rfl rfl rfl) (.cons (.imm rfl) (.cons (.imm rfl) (.cons (.imm rfl) (.cons (.imm rfl) (.cons (.imm rfl) (.cons (.imm rfl) (.cons (.imm rfl) (.cons (.imm rfl) (.cons (.imm rfl) (.cons (.imm rfl) (.cons (.imm rfl) (.cons (.imm rfl) (.cons (.imm rfl) (.cons (.imm rfl) (.cons (.imm rfl) (.cons (.imm rfl) (.cons (.imm rfl) (.cons (.nil rfl rfl rfl) (.cons (.imm rfl) (.cons (.imm rfl) (.cons (.imm rfl) .nil)))))))))))))))))))))
    · exact fun j b e => by
        obtain ⟨q, _, hq, _⟩ := famW_some e
        have : q < 1 - 1 := hq
        omega
  intro i hi2
  have hok := okM_run hr hi i
  have hev := ev_run (m := m) (inputs := inputs) i
  generalize hs : runM m inputs i = s at hok hev
  (repeat' ((fail_if_success (show AWp _ _ _ (Code.region 8 _ _) _ _)); (fail_if_success (show AWp _ _ _ (Code.region 10 _ _) _ _)); first | refine Zac ?_ | (refine Zab tok (by rfl) ?_; conv => whnf) | refine Zai ?_ | (refine Zag ?_; conv => whnf) | (refine Za3 ?_; conv => whnf) | refine Zae rfl (fun hb => ?_) (fun hb => ?_)))
  · rename_i hlt
    have hd : ¬ s.done = 0 := by simpa using hb
    have he : runM m inputs n.toNat = s := by
      have := run_done (m := m) (inputs := inputs) (i := i) (by rw [hs]; exact hd) (n.toNat - i)
      rw [show i + (n.toNat - i) = n.toNat by omega, hs] at this
      exact this
    rw [he]
    clear hb
    refine Zau (Weak.fam (L := []) (tl := [(3, .bp (3, 0, 0) 0), (6, .bp (6, 0, 0) 0), (10, .bp jB 0)]) (hl := [((3, 0, 0), Zam (Zav m)), ((6, 0, 0), Zam Zbz)] ++ [(jB, .row false 22 1 (fun _ => Zas s ++ [funcss m.funcs]))]) (F := noH) [] rfl (fun c hc => by cases hc) ?_ ?_ noF (fun i hi => by cases hi)) ?_
    · (repeat' first | exact TLg.nil | refine TLg.cons (GV.bp rfl rfl) ?_)
    · refine .old rfl rfl (GB.one (GVs.imm rfl) (fun _ => rfl)) (.old rfl rfl (GB.one (GVs.imm rfl) (fun _ => rfl)) (.old rfl rfl (GB.one (GVs_frzM (fun j i hj e => ?_) rfl rfl rfl (fun q hq => ?_)) (fun e => by cases e)) .nil))
      · have e' : j = i := Option.some.inj e
        subst e'
        exact ⟨(fun e2 => by subst e2; cases hj), (fun e2 => by subst e2; cases hj), (fun e2 => by subst e2; cases hj), (fun q e2 => by subst e2; cases hj)⟩
      · show famW s.stack (945, 0, q) = _
        exact Za7 hq
    (repeat' (refine Zab tok (by rfl) ?_; conv => whnf))
    refine .inl ⟨_, _, _, uG (QC.fc (c_mCopy s) rfl), ?_⟩
    conv => whnf
    (repeat' (refine Zah ?_; conv => whnf))
    exact ⟨_, rfl, Rel.tup (.cons (Rel.agg (Rels.imm rfl)) (.cons (Rel.int rfl) .nil))⟩
  · rename_i hlt
    have hlt : i < n.toNat := by simp only [decide_eq_true_eq] at hlt; omega
    have hd : s.done = 0 := by simpa using hb
    clear hb
    (repeat' (refine Zab tok (by rfl) ?_; conv => whnf))
    refine .inr ⟨_, _, _, uG (QH.ddM (by simp) (c_mStepN hr hok (by omega) hd) hok.len (memN_sub rfl rfl rfl rfl (fun _ => rfl)) rfl rfl (fun q hq => Zaq hq)), ?_⟩
    conv => whnf
    (repeat' (refine Zab tok (by rfl) ?_; conv => whnf))
    refine ⟨i + 1, hlt, by omega, ?_⟩
    have hs1 : runM m inputs (i + 1) = Zfn m s := by show Zfn m (runM m inputs i) = _; rw [hs]
    rw [hs1]
    refine Weak.fam (L := []) (tl := [(2, iv n), (3, .bp (3, 0, 0) 0), (6, .bp (6, 0, 0) 0), (10, .bp jB 0), (29, iv n.toNat), (30, iv (i + 1))]) (hl := [((3, 0, 0), Zam (Zav m)), ((6, 0, 0), Zam Zbz)] ++ memNL m (Zfn m s)) (F := famW (Zfn m s).stack) [(jN, some jF)] rfl (fun c hc => ?_) ?_ ?_ ?_ (fun i hi => by cases hi)
    · rw [List.mem_singleton.1 (show c ∈ [jF] from hc)]; exact .inl rfl
    · exact .cons (.imm rfl) (.cons (.bp rfl rfl) (.cons (.bp rfl rfl) (.cons (.bp rfl rfl) (.cons (.imm rfl) (.cons (.int (Zal (by omega) (by omega))) .nil)))))
    · refine .old rfl rfl (GB.one (GVs.imm rfl) (fun _ => rfl)) (.old rfl rfl (GB.one (GVs.imm rfl) (fun _ => rfl)) ?_)
      exact HLs_memN rfl rfl rfl rfl (fun _ => rfl) rfl rfl rfl rfl rfl rfl rfl rfl (fun q hq => Zco hq)
    · refine Zfw (fun _ _ => rfl) (fun q hq => ?_)
      exact Zbf hq
  · have he : runM m inputs n.toNat = s := by
      have : i = n.toNat := by simp only [decide_eq_false_iff_not] at hb; omega
      rw [← this, hs]
    rw [he]
    clear hb
    refine Zau (Weak.fam (L := []) (tl := [(3, .bp (3, 0, 0) 0), (6, .bp (6, 0, 0) 0), (10, .bp jB 0)]) (hl := [((3, 0, 0), Zam (Zav m)), ((6, 0, 0), Zam Zbz)] ++ [(jB, .row false 22 1 (fun _ => Zas s ++ [funcss m.funcs]))]) (F := noH) [] rfl (fun c hc => by cases hc) ?_ ?_ noF (fun i hi => by cases hi)) ?_
    · (repeat' first | exact TLg.nil | refine TLg.cons (GV.bp rfl rfl) ?_)
    · refine .old rfl rfl (GB.one (GVs.imm rfl) (fun _ => rfl)) (.old rfl rfl (GB.one (GVs.imm rfl) (fun _ => rfl)) (.old rfl rfl (GB.one (GVs_frzM (fun j i hj e => ?_) rfl rfl rfl (fun q hq => ?_)) (fun e => by cases e)) .nil))
      · have e' : j = i := Option.some.inj e
        subst e'
        exact ⟨(fun e2 => by subst e2; cases hj), (fun e2 => by subst e2; cases hj), (fun e2 => by subst e2; cases hj), (fun q e2 => by subst e2; cases hj)⟩
      · show famW s.stack (945, 0, q) = _
        exact Za7 hq
    (repeat' (refine Zab tok (by rfl) ?_; conv => whnf))
    refine .inl ⟨_, _, _, uG (QC.fc (c_mCopy s) rfl), ?_⟩
    conv => whnf
    (repeat' (refine Zah ?_; conv => whnf))
    exact ⟨_, rfl, Rel.tup (.cons (Rel.agg (Rels.imm rfl)) (.cons (Rel.int rfl) .nil))⟩
end Go.Proofs.YtoelbgjpmpoolaaGreat
namespace Go.Proofs.YtoelbgjpmpoolaaGreat
open Go Dv
set_option maxRecDepth 10000
set_option linter.unusedSimpArgs false
theorem c_WordsEq (l : List Int) : FC Tryz.prog 65 [u16s l, u16s l] (.bool true) := by
  refine Zao tok Tryz.func65 rfl (by decide +kernel) (Nat.le_of_ble_eq_true rfl) ?_
  refine Zaw 0 (fun hl => ?_)
  have hl0 : l.length ≤ maxL := hl.1
  have hmx : maxL = 4294967296 := rfl
  clear hl
  (repeat' ((fail_if_success (show AWp _ _ _ (Code.region 2 _ _) _ _)); (fail_if_success (show AWp _ _ _ (Code.region 3 _ _) _ _)); first | refine Zac ?_ | (refine Zab tok (by rfl) ?_; conv => whnf) | (refine Zag ?_; conv => whnf) | refine Zae rfl (fun hb => ?_) (fun hb => ?_)))
  · exfalso; simp at hb
  clear hb
  (repeat' ((fail_if_success (show AWp _ _ _ (Code.region 4 _ _) _ _)); first | (refine Zab tok (by rfl) ?_; conv => whnf) | refine Zai ?_))
  refine Za1 (fun i : Nat => mkS [(0, u16s l), (1, u16s l), (5, iv i)] []) (fun i => i ≤ l.length) (fun i => l.length - i) 0 (Nat.zero_le _) ?_ ?_
  · refine Weak.list [] rfl (by rfl) ?_ .nil
    ((repeat' first | exact TLes.nil | refine TLes.cons (TLe.eq rfl) ?_); skip)
  intro i hi
  (repeat' ((fail_if_success (show AWp _ _ _ (Code.region 6 _ _) _ _)); (fail_if_success (show AWp _ _ _ (Code.region 8 _ _) _ _)); first | refine Zac ?_ | (refine Zab tok (by rfl) ?_; conv => whnf) | refine Zai ?_ | (refine Zag ?_; conv => whnf) | (refine Za3 ?_; conv => whnf) | refine Zae rfl (fun hb => ?_) (fun hb => ?_)))
  · have hil : i < l.length := by simp only [decide_eq_true_eq] at hb; omega
    clear hb
    ((repeat' first | refine Zac ?_ | (refine Zab tok (by rfl) ?_; conv => whnf) | (refine Zat tok mix (by rfl) ?_; conv => whnf) | (refine Zag ?_; conv => whnf) | (refine Zah ?_; conv => whnf) | refine Zae rfl (fun hb => ?_) (fun hb => ?_) | (refine @And.intro (Zaa _ _ _ _) _ ?_ ?_; rotate_left; (conv => whnf); rotate_right)); all_goals (try ((guard_target = Zaa _ _ _ _); refine Zaf ?_; (all_goals (try simp only [Zaa, kzz, kz11, kz12, maxL, Zad] at *)); all_goals omega)))
    · exfalso; simp at hb
    clear hb
    refine ⟨i + 1, hil, by omega, ?_⟩
    refine Weak.list [] rfl (by rfl) ?_ .nil
    ((repeat' first | exact TLes.nil | refine TLes.cons (TLe.eq rfl) ?_ | refine TLes.cons (TLe.int ?_) ?_); (all_goals first | ((try (simp only [Zaa, kzz, kz11, kz12, maxL, Zad] at *)); exact Zal (by omega) (by omega)) | skip))
  · (repeat' first | (refine Zab tok (by rfl) ?_; conv => whnf) | (refine Zah ?_; conv => whnf))
    exact ⟨_, rfl, Rel.bool rfl⟩
theorem c_FrSameEq (f : Za2) : FC Tryz.prog 66 [.agg (Zar f), .agg (Zar f)] (.bool true) := by
  refine Zao tok Tryz.func66 rfl (by decide +kernel) (Nat.le_of_ble_eq_true rfl) ?_
  refine Zaw 0 (fun hl => ?_)
  have hl0 : f.regs.length ≤ maxL := hl.2.2.2.1.1
  have hmx : maxL = 4294967296 := rfl
  clear hl
  (repeat' ((fail_if_success (show AWp _ _ _ (Code.region 2 _ _) _ _)); (fail_if_success (show AWp _ _ _ (Code.region 3 _ _) _ _)); first | refine Zac ?_ | (refine Zab tok (by rfl) ?_; conv => whnf) | (refine Zag ?_; conv => whnf) | refine Zae rfl (fun hb => ?_) (fun hb => ?_)))
  · exfalso; simp at hb
  clear hb
  (repeat' ((fail_if_success (show AWp _ _ _ (Code.region 4 _ _) _ _)); first | (refine Zab tok (by rfl) ?_; conv => whnf) | refine Zai ?_))
  refine Za1 (fun i : Nat => mkS [(2, .bp (2, 0, 0) 0), (3, .bp (3, 0, 0) 0), (5, iv i)] [((2, 0, 0), Zam (Zar f)), ((3, 0, 0), Zam (Zar f))]) (fun i => i ≤ f.regs.length) (fun i => f.regs.length - i) 0 (Nat.zero_le _) ?_ ?_
  · refine Weak.list [((2, 0, 0), .old (2, 0, 0), Zam (Zar f)), ((3, 0, 0), .old (3, 0, 0), Zam (Zar f))] rfl (by rfl) ?_ (.old rfl (BLe.refl _) (.old rfl (BLe.refl _) .nil))
    ((repeat' first | exact TLes.nil | refine TLes.cons (TLe.eq rfl) ?_); skip)
  intro i hi
  (repeat' ((fail_if_success (show AWp _ _ _ (Code.region 6 _ _) _ _)); (fail_if_success (show AWp _ _ _ (Code.region 8 _ _) _ _)); first | refine Zac ?_ | (refine Zab tok (by rfl) ?_; conv => whnf) | refine Zai ?_ | (refine Zag ?_; conv => whnf) | (refine Za3 ?_; conv => whnf) | refine Zae rfl (fun hb => ?_) (fun hb => ?_)))
  · have hil : i < f.regs.length := by simp only [decide_eq_true_eq] at hb; omega
    clear hb
    ((repeat' first | refine Zac ?_ | (refine Zab tok (by rfl) ?_; conv => whnf) | (refine Zat tok mix (by rfl) ?_; conv => whnf) | (refine Zag ?_; conv => whnf) | (refine Zah ?_; conv => whnf) | refine Zae rfl (fun hb => ?_) (fun hb => ?_) | (refine @And.intro (Zaa _ _ _ _) _ ?_ ?_; rotate_left; (conv => whnf); rotate_right)); all_goals (try ((guard_target = Zaa _ _ _ _); refine Zaf ?_; (all_goals (try simp only [Zaa, kzz, kz11, kz12, maxL, Zad] at *)); all_goals omega)))
    · exfalso; simp at hb
    clear hb
    refine ⟨i + 1, hil, by omega, ?_⟩
    refine Weak.list [((2, 0, 0), .old (2, 0, 0), Zam (Zar f)), ((3, 0, 0), .old (3, 0, 0), Zam (Zar f))] rfl (by rfl) ?_ (.old rfl (BLe.refl _) (.old rfl (BLe.refl _) .nil))
    ((repeat' first | exact TLes.nil | refine TLes.cons (TLe.eq rfl) ?_ | refine TLes.cons (TLe.int ?_) ?_); (all_goals first | ((try (simp only [Zaa, kzz, kz11, kz12, maxL, Zad] at *)); exact Zal (by omega) (by omega)) | skip))
  · (repeat' first | (refine Zab tok (by rfl) ?_; conv => whnf) | (refine Zah ?_; conv => whnf))
    exact ⟨_, rfl, Rel.bool rfl⟩
set_option maxHeartbeats 4000000 in
theorem c_MSameEq (s : Mach) : FC Tryz.prog 29 [.agg (Zas s), .agg (Zas s)] (.bool true) := by
  refine Zao tok Tryz.func29 rfl (by decide +kernel) (Nat.le_of_ble_eq_true rfl) ?_
  refine Zaw 0 (fun hl => ?_)
  have hl0 : s.stack.length ≤ maxL := hl.1.1
  have hmx : maxL = 4294967296 := rfl
  clear hl
  have hI := c_rInts s.events s.events
  rw [decide_eq_true rfl] at hI
  (repeat' first | refine Zac ?_ | (refine Zab tok (by rfl) ?_; conv => whnf))
  refine .inl ⟨_, _, _, uG (QC.fc (c_WordsEq s.inputs) rfl), ?_⟩
  conv => whnf
  skip
  refine .inl ⟨_, _, _, uG (QC.fc hI rfl), ?_⟩
  conv => whnf
  (repeat' ((fail_if_success (show AWp _ _ _ (Code.region 2 _ _) _ _)); (fail_if_success (show AWp _ _ _ (Code.region 3 _ _) _ _)); first | refine Zac ?_ | (refine Zag ?_; conv => whnf) | refine Zae rfl (fun hb => ?_) (fun hb => ?_)))
  · exfalso; simp at hb
  clear hb
  (repeat' ((fail_if_success (show AWp _ _ _ (Code.region 4 _ _) _ _)); first | (refine Zab tok (by rfl) ?_; conv => whnf) | refine Zai ?_))
  refine Za1 (fun i : Nat => mkS [(2, .bp (2, 0, 0) 0), (3, .bp (3, 0, 0) 0), (5, iv i)] [((2, 0, 0), Zam (Zas s)), ((3, 0, 0), Zam (Zas s))]) (fun i => i ≤ s.stack.length) (fun i => s.stack.length - i) 0 (Nat.zero_le _) ?_ ?_
  · refine Weak.list [((2, 0, 0), .old (2, 0, 0), Zam (Zas s)), ((3, 0, 0), .old (3, 0, 0), Zam (Zas s))] rfl (by rfl) ?_ (.old rfl (BLe.refl _) (.old rfl (BLe.refl _) .nil))
    ((repeat' first | exact TLes.nil | refine TLes.cons (TLe.eq rfl) ?_); skip)
  intro i hi
  (repeat' ((fail_if_success (show AWp _ _ _ (Code.region 6 _ _) _ _)); (fail_if_success (show AWp _ _ _ (Code.region 8 _ _) _ _)); first | refine Zac ?_ | (refine Zab tok (by rfl) ?_; conv => whnf) | refine Zai ?_ | (refine Zag ?_; conv => whnf) | (refine Za3 ?_; conv => whnf) | refine Zae rfl (fun hb => ?_) (fun hb => ?_)))
  · have hil : i < s.stack.length := by simp only [decide_eq_true_eq] at hb; omega
    clear hb
    ((repeat' first | (refine Zat tok mix (by rfl) ?_; conv => whnf) | (refine @And.intro (Zaa _ _ _ _) _ ?_ ?_; rotate_left; (conv => whnf); rotate_right)); all_goals (try ((guard_target = Zaa _ _ _ _); refine Zaf ?_; (all_goals (try simp only [Zaa, kzz, kz11, kz12, maxL, Zad] at *)); all_goals omega)))
    refine .inl ⟨_, _, _, uG (QC.fc (c_FrSameEq (s.stack.getD i default)) rfl), ?_⟩
    conv => whnf
    (repeat' first | refine Zac ?_ | (refine Zab tok (by rfl) ?_; conv => whnf) | (refine Zag ?_; conv => whnf) | (refine Zah ?_; conv => whnf) | refine Zae rfl (fun hb => ?_) (fun hb => ?_))
    · exfalso; cases hb
    clear hb
    refine ⟨i + 1, hil, by omega, ?_⟩
    refine Weak.list [((2, 0, 0), .old (2, 0, 0), Zam (Zas s)), ((3, 0, 0), .old (3, 0, 0), Zam (Zas s))] rfl (by rfl) ?_ (.old rfl (BLe.refl _) (.old rfl (BLe.refl _) .nil))
    ((repeat' first | exact TLes.nil | refine TLes.cons (TLe.eq rfl) ?_ | refine TLes.cons (TLe.int ?_) ?_); (all_goals first | ((try (simp only [Zaa, kzz, kz11, kz12, maxL, Zad] at *)); exact Zal (by omega) (by omega)) | skip))
  · (repeat' first | (refine Zab tok (by rfl) ?_; conv => whnf) | (refine Zah ?_; conv => whnf))
    exact ⟨_, rfl, Rel.bool rfl⟩
end Go.Proofs.YtoelbgjpmpoolaaGreat
namespace Go.Proofs.YtoelbgjpmpoolaaGreat
open Go Dv
set_option maxRecDepth 10000
set_option linter.unusedSimpArgs false
theorem FC.arg {P : Program} {f : FuncId} {args args' : List AV} {r : AV} (h : FC P f args' r) (ha : ∀ (X : Nat → Prop) (w : World) (vals : List Value), Vs w X args ι0 vals → Vs w X args' ι0 vals) : FC P f args r :=
  ⟨h.1, fun X w vals hX hV => h.2 X w vals hX (ha X w vals hV)⟩
theorem V_nsl {w : World} {own : Nat → Prop} {ι : Zak} {sz : Nat} {f : Nat → List AV} {v : Value} (hv : V w own .nsl ι v) : V w own (.sl sz 0 f) ι v := by
  simp only [V] at hv ⊢
  exact ⟨none, 0, hv, Nat.le_refl _, Nat.zero_le _, .inl trivial⟩
inductive NS : List AV → List AV → Prop where
  | nil : NS [] []
  | e {x : AV} {xs ys : List AV} (h : NS xs ys) : NS (x :: xs) (x :: ys)
  | n {sz : Nat} {f : Nat → List AV} {xs ys : List AV} (h : NS xs ys) : NS (.nsl :: xs) (.sl sz 0 f :: ys)
theorem NS.Vs {w : World} {own : Nat → Prop} {ι : Zak} : ∀ {xs ys : List AV} {vs : List Value}, NS xs ys → Dv.Vs w own xs ι vs → Dv.Vs w own ys ι vs
  | _, _, _, .nil, h => h
  | _, _, _, .e hr, h => by
      simp only [Dv.Vs] at h ⊢
      obtain ⟨v, r, e, h1, h2⟩ := h
      exact ⟨v, r, e, h1, hr.Vs h2⟩
  | _, _, _, .n hr, h => by
      simp only [Dv.Vs] at h ⊢
      obtain ⟨v, r, e, h1, h2⟩ := h
      exact ⟨v, r, e, V_nsl h1, hr.Vs h2⟩
theorem V_zMach {w : World} {own : Nat → Prop} {ι : Zak} {v : Value} (h : V w own (.agg Zbz) ι v) : V w own (.agg (Zas default)) ι v := by
  simp only [V] at h ⊢
  obtain ⟨a, e, h1⟩ := h
  exact ⟨a, e, NS.Vs (.n (.e (.e (.e (.e (.e (.e (.e (.e (.e (.e (.e (.e (.e (.e (.e (.e (.n (.n (.e (.e .nil))))))))))))))))))))) h1⟩
theorem c_MSameZero : FC Tryz.prog 29 [.agg Zbz, .agg Zbz] (.bool true) :=
  FC.arg (c_MSameEq default) (fun X w vals hV => by
    simp only [Vs] at hV ⊢
    obtain ⟨v1, r1, e1, h1, v2, r2, e2, h2, h3⟩ := hV
    exact ⟨v1, r1, e1, V_zMach h1, v2, r2, e2, V_zMach h2, h3⟩)
theorem c_fFunBad (m : Zaj) (n : Int) (hr : Zbg m = false) : FC Tryz.prog 118 [.agg (Zav m), iv n] (.tup [.agg [iv 0, iv 0, .nsl], .bool false]) := by
  refine Zao tok Tryz.func118 rfl (by decide +kernel) (Nat.le_of_ble_eq_true rfl) ?_
  have hR := c_lRight c_lpad m
  rw [hr] at hR
  (repeat' first | refine Zac ?_ | (refine Zab tok (by rfl) ?_; conv => whnf))
  refine .inl ⟨_, _, _, uG (QC.fc hR rfl), ?_⟩
  conv => whnf
  (repeat' ((fail_if_success (show AWp _ _ _ (Code.region 2 _ _) _ _)); (fail_if_success (show AWp _ _ _ (Code.region 3 _ _) _ _)); first | refine Zac ?_ | (refine Zag ?_; conv => whnf) | refine Zae rfl (fun hb => ?_) (fun hb => ?_)))
  · (repeat' first | (refine Zab tok (by rfl) ?_; conv => whnf) | (refine Zah ?_; conv => whnf))
    exact ⟨_, rfl, Rel.tup (.cons (Rel.agg (Rels.imm rfl)) (.cons (Rel.imm rfl) .nil))⟩
  · exfalso; cases hb
theorem c_fNewBad (m : Zaj) (n : Int) (args : List Int) (hr : Zbg m = false) : FC Tryz.prog 67 [.agg (Zav m), iv n, u16s args] (.tup [.agg [iv 0, iv 0, iv 0, .nsl, .int .u16 0], iv 1]) := by
  refine Zao tok Tryz.func67 rfl (by decide +kernel) (Nat.le_of_ble_eq_true rfl) ?_
  (repeat' first | refine Zac ?_ | (refine Zab tok (by rfl) ?_; conv => whnf))
  refine .inl ⟨_, _, _, uG (QC.fc (c_fFunBad m n hr) rfl), ?_⟩
  conv => whnf
  (repeat' ((fail_if_success (show AWp _ _ _ (Code.region 3 _ _) _ _)); (fail_if_success (show AWp _ _ _ (Code.region 4 _ _) _ _)); first | refine Zac ?_ | (refine Zab tok (by rfl) ?_; conv => whnf) | (refine Zag ?_; conv => whnf) | refine Zae rfl (fun hb => ?_) (fun hb => ?_)))
  · (repeat' first | (refine Zab tok (by rfl) ?_; conv => whnf) | (refine Zah ?_; conv => whnf))
    exact ⟨_, rfl, Rel.tup (.cons (Rel.agg (Rels.imm rfl)) (.cons (Rel.imm rfl) .nil))⟩
  · exfalso; cases hb
theorem c_mNewBad (m : Zaj) (inputs : List Int) (hr : Zbg m = false) : FC Tryz.prog 31 [.agg (Zav m), u16s inputs] (.tup [.agg Zbz, iv 1]) := by
  refine Zao tok Tryz.func31 rfl (by decide +kernel) (Nat.le_of_ble_eq_true rfl) ?_
  (repeat' first | refine Zac ?_ | (refine Zab tok (by rfl) ?_; conv => whnf))
  refine .inl ⟨_, _, _, uG (QC.sc (rd := []) (c_fNewBad m 0 [] hr) (.cons (.imm rfl) (.cons (.imm rfl) (.cons .nsl .nil))) rfl), ?_⟩
  conv => whnf
  (repeat' ((fail_if_success (show AWp _ _ _ (Code.region 3 _ _) _ _)); (fail_if_success (show AWp _ _ _ (Code.region 4 _ _) _ _)); first | refine Zac ?_ | (refine Zab tok (by rfl) ?_; conv => whnf) | (refine Zag ?_; conv => whnf) | refine Zae rfl (fun hb => ?_) (fun hb => ?_)))
  · (repeat' first | (refine Zab tok (by rfl) ?_; conv => whnf) | (refine Zah ?_; conv => whnf))
    exact ⟨_, rfl, Rel.tup (.cons (Rel.agg (Rels.imm rfl)) (.cons (Rel.imm rfl) .nil))⟩
  · exfalso; cases hb
theorem c_mRunBad (m : Zaj) (inputs : List Int) (n : Int) (hr : Zbg m = false) : FC Tryz.prog 28 [.agg (Zav m), u16s inputs, iv n] (.tup [.agg Zbz, iv 1]) := by
  refine Zao tok Tryz.func28 rfl (by decide +kernel) (Nat.le_of_ble_eq_true rfl) ?_
  (repeat' first | refine Zac ?_ | (refine Zab tok (by rfl) ?_; conv => whnf))
  refine .inl ⟨_, _, _, uG (QC.fc (c_mNewBad m inputs hr) rfl), ?_⟩
  conv => whnf
  (repeat' ((fail_if_success (show AWp _ _ _ (Code.region 3 _ _) _ _)); (fail_if_success (show AWp _ _ _ (Code.region 4 _ _) _ _)); first | refine Zac ?_ | (refine Zab tok (by rfl) ?_; conv => whnf) | (refine Zag ?_; conv => whnf) | refine Zae rfl (fun hb => ?_) (fun hb => ?_)))
  · (repeat' first | (refine Zab tok (by rfl) ?_; conv => whnf) | (refine Zah ?_; conv => whnf))
    exact ⟨_, rfl, Rel.tup (.cons (Rel.agg (Rels.imm rfl)) (.cons (Rel.imm rfl) .nil))⟩
  · exfalso; cases hb
set_option maxHeartbeats 2000000 in
theorem c_mRunFar (m : Zaj) (inputs : List Int) (n : Int) (hr : Zbg m = true) (hn : 1048576 < n) : FC Tryz.prog 28 [.agg (Zav m), u16s inputs, iv n] (.tup [.agg Zbz, iv 1]) := by
  refine Zao tok Tryz.func28 rfl (by decide +kernel) (Nat.le_of_ble_eq_true rfl) ?_
  (repeat' first | refine Zac ?_ | (refine Zab tok (by rfl) ?_; conv => whnf))
  refine .inr ⟨_, _, _, uG (QH.ofF (c_mNew m inputs hr) rfl (fun i hi => ?_)), ?_⟩
  · rcases newL_names hi with rfl | rfl <;> rfl
  conv => whnf
  (repeat' ((fail_if_success (show AWp _ _ _ (Code.region 3 _ _) _ _)); (fail_if_success (show AWp _ _ _ (Code.region 4 _ _) _ _)); first | refine Zac ?_ | (refine Zab tok (by rfl) ?_; conv => whnf) | (refine Zag ?_; conv => whnf) | refine Zae rfl (fun hb => ?_) (fun hb => ?_)))
  · (repeat' first | (refine Zab tok (by rfl) ?_; conv => whnf) | (refine Zah ?_; conv => whnf))
    exact ⟨_, rfl, Rel.tup (.cons (Rel.agg (Rels.imm rfl)) (.cons (Rel.imm rfl) .nil))⟩
  · exfalso; rw [decide_eq_true hn] at hb; cases hb
end Go.Proofs.YtoelbgjpmpoolaaGreat
namespace Go.Proofs.YtoelbgjpmpoolaaGreat
open Go Dv Go.ChangeShapes Go.WideShapes Go.ChangeAt Go.RowKit
open Go.Proofs.YtoelbgjpmpoolaaGreat
set_option maxRecDepth 10000
set_option linter.unusedVariables false
section
variable {H : Type} {enc : TypeId × Value → H} {w : World}
abbrev Sm (H : Type) : DataW H → Prop := fun d => Rows.uptoBulk d ≤ 1048576
theorem bulk_all {ds : List (DataW H)} {n : Nat} (h : Rows.uptoBulkAll ds ≤ n) : ∀ d ∈ ds, Rows.uptoBulk d ≤ n := by
  induction ds with
  | nil => intro d hd; cases hd
  | cons x r ih =>
    simp only [Rows.uptoBulkAll] at h
    intro d hd
    simp only [List.mem_cons] at hd
    rcases hd with rfl | hd
    · omega
    · exact ih (by omega) d hd
theorem bulk_pos (d : DataW H) : 1 ≤ Rows.uptoBulk d := by
  cases d with
  | lit l => cases l <;> simp only [Rows.uptoBulk] <;> omega
  | _ => simp only [Rows.uptoBulk]; omega
theorem bulk_len {ds : List (DataW H)} {n : Nat} (h : Rows.uptoBulkAll ds ≤ n) : ds.length ≤ n := by
  induction ds generalizing n with
  | nil => simp
  | cons x r ih =>
    simp only [Rows.uptoBulkAll] at h
    have := bulk_pos x
    have := ih (n := n - Rows.uptoBulk x) (by omega)
    simp only [List.length_cons]; omega
theorem sm_agg (ds : List (DataW H)) (h : Sm H (.agg ds)) : ∀ d ∈ ds, Sm H d := by
  simp only [Sm, Rows.uptoBulk] at h; exact bulk_all (by omega)
theorem sm_slice (es sp : List (DataW H)) (h : Sm H (.slice es sp)) : es.length ≤ maxL ∧ ∀ x ∈ es, Sm H x := by
  simp only [Sm, Rows.uptoBulk] at h
  have h1 : Rows.uptoBulkAll es ≤ 1048576 := by omega
  exact ⟨Nat.le_trans (bulk_len h1) (by decide), bulk_all h1⟩
theorem Zee : Rd enc Tryz.prog w (Sm H) 3 Int (fun n => [iv n]) := Rd.int Tryz.underlying3
theorem rd_u16 : Rd enc Tryz.prog w (Sm H) 50 Int (fun n => [.int .u16 n]) := Rd.int Tryz.underlying50
theorem rd_bool : Rd enc Tryz.prog w (Sm H) 4 Bool (fun b => [.bool b]) := Rd.bool Tryz.underlying4
theorem rd_ints : Rd enc Tryz.prog w (Sm H) 42 (List Int) (fun l => [ints l]) := Rd.slice Tryz.underlying42 (by decide +kernel) (Nat.le_refl _) (fun _ => ⟨rfl, rfl⟩) Zee sm_slice
theorem rd_u16s : Rd enc Tryz.prog w (Sm H) 25 (List Int) (fun l => [u16s l]) := Rd.slice Tryz.underlying25 (by decide +kernel) (Nat.le_refl _) (fun _ => ⟨rfl, rfl⟩) rd_u16 sm_slice
theorem rd_Ins : Rd enc Tryz.prog w (Sm H) 70 Ins Zba :=
  Rd.map (fun x => ⟨x.1, x.2.1, x.2.2.1, x.2.2.2.1, x.2.2.2.2.1, x.2.2.2.2.2.1, x.2.2.2.2.2.2.1⟩)
    (Rd.struct (fl := [(3, 1), (3, 1), (3, 1), (3, 1), (50, 1), (3, 1), (42, 1)]) Tryz.underlying70 (.cons Zee (.cons Zee (.cons Zee (.cons Zee (.cons rd_u16 (.cons Zee (.cons rd_ints .nil)))))))
      rfl (by decide +kernel) (by decide +kernel) sm_agg) (fun _ => rfl)
theorem rd_inss : Rd enc Tryz.prog w (Sm H) 41 (List Ins) (fun l => [inss l]) := Rd.slice Tryz.underlying41 (by decide +kernel) (by decide) (fun _ => ⟨rfl, rfl⟩) rd_Ins sm_slice
theorem rd_End : Rd enc Tryz.prog w (Sm H) 44 End Zd9 :=
  Rd.map (fun x => ⟨x.1, x.2.1, x.2.2.1, x.2.2.2.1, x.2.2.2.2.1, x.2.2.2.2.2.1, x.2.2.2.2.2.2.1, x.2.2.2.2.2.2.2.1⟩)
    (Rd.struct (fl := [(3, 1), (3, 1), (3, 1), (3, 1), (42, 1), (3, 1), (3, 1), (3, 1)]) Tryz.underlying44 (.cons Zee (.cons Zee (.cons Zee (.cons Zee (.cons rd_ints (.cons Zee (.cons Zee (.cons Zee .nil))))))))
      rfl (by decide +kernel) (by decide +kernel) sm_agg) (fun _ => rfl)
theorem rd_Pad : Rd enc Tryz.prog w (Sm H) 40 Pad Zd8 :=
  Rd.map (fun x => ⟨x.1, x.2.1, x.2.2.1, x.2.2.2.1⟩)
    (Rd.struct (fl := [(3, 1), (25, 1), (4, 1), (4, 1)]) Tryz.underlying40 (.cons Zee (.cons rd_u16s (.cons rd_bool (.cons rd_bool .nil))))
      rfl (by decide +kernel) (by decide +kernel) sm_agg) (fun _ => rfl)
theorem rd_Block : Rd enc Tryz.prog w (Sm H) 46 Zex Zbi :=
  Rd.map (fun x => ⟨x.1, x.2.1, x.2.2.1, x.2.2.2.1⟩)
    (Rd.struct (fl := [(4, 1), (40, 4), (41, 1), (44, 8)]) Tryz.underlying46 (.cons rd_bool (.cons rd_Pad (.cons rd_inss (.cons rd_End .nil))))
      rfl (by decide +kernel) (by decide +kernel) sm_agg) (fun _ => rfl)
theorem rd_blocks : Rd enc Tryz.prog w (Sm H) 36 (List Zex) (fun l => [blockss l]) := Rd.slice Tryz.underlying36 (by decide +kernel) (by decide) (fun _ => ⟨rfl, rfl⟩) rd_Block sm_slice
theorem rd_Func : Rd enc Tryz.prog w (Sm H) 38 Func Zbm :=
  Rd.map (fun x => ⟨x.1, x.2.1, x.2.2.1⟩)
    (Rd.struct (fl := [(3, 1), (3, 1), (36, 1)]) Tryz.underlying38 (.cons Zee (.cons Zee (.cons rd_blocks .nil)))
      rfl (by decide +kernel) (by decide +kernel) sm_agg) (fun _ => rfl)
theorem rd_funcs : Rd enc Tryz.prog w (Sm H) 22 (List Func) (fun l => [funcss l]) := Rd.slice Tryz.underlying22 (by decide +kernel) (by decide) (fun _ => ⟨rfl, rfl⟩) rd_Func sm_slice
theorem rd_Module : Rd enc Tryz.prog w (Sm H) 24 Zaj Zav :=
  Rd.map (fun x => ⟨x.1⟩)
    (Rd.struct (fl := [(22, 1)]) Tryz.underlying24 (.cons rd_funcs .nil)
      rfl (by decide +kernel) (by decide +kernel) sm_agg) (fun _ => rfl)
end
theorem small_of {H : Type} {ds gs : List (DataW H)} (hk : Rows.uptoSmall H (ds ++ gs) = true) : ∀ d ∈ ds, Sm H d := by
  have h := of_decide_eq_true hk
  exact fun d hd => bulk_all h d (List.mem_append_left _ hd)
end Go.Proofs.YtoelbgjpmpoolaaGreat
namespace Go.Proofs.YtoelbgjpmpoolaaGreat
open Go Dv
set_option maxRecDepth 10000
set_option linter.unusedSimpArgs false
structure Iv2 (len : Nat) (D : Nat → List Bool → Bool) (is : List Bool) (n : Nat) (js : List Bool) : Prop where
  sz : js.length = len
  be : Zf5 len D js
  le : leL is js
  don : ∀ j, j < n → D j is = true → js.getD j false = true
theorem Iv2.set {len : Nat} {D : Nat → List Bool → Bool} {is js : List Bool} {n m : Nat} (h : Iv2 len D is n js) (hD : MonoD D) (hm : m < len) (hd : D m js = true) : Iv2 len D is n (js.set m true) := by
  have hs := h.sz
  refine ⟨by simp [hs], fun c hc i e => ?_, h.le.trans (leL_set _ _), fun j hj hd => leL_set _ _ j (h.don j hj hd)⟩
  rw [set_get (by omega), Bool.or_eq_true] at e
  rcases e with e | e
  · have : m = i := by simpa using e
    subst this
    exact hc.cl m hm (hD m js c (h.be c hc) hd)
  · exact h.be c hc i e
structure Iv0 (len : Nat) (D : Nat → List Bool → Bool) (r : Nat) (is : List Bool) : Prop where
  sz : is.length = len
  be : Zf5 len D is
  pr : Closed len D is ∨ r ≤ cnt is
theorem Iv0.next {len : Nat} {D : Nat → List Bool → Bool} {is js : List Bool} {r : Nat} (h0 : Iv0 len D r is) (h : Iv2 len D is len js) : Iv0 len D (r + 1) js := by
  refine ⟨h.sz, h.be, ?_⟩
  obtain ⟨h1, h2⟩ := cnt_mono (by rw [h0.sz, h.sz]) h.le
  by_cases hc : cnt js ≤ cnt is
  · have e := h2 hc
    left
    refine ⟨h.sz, fun n hn hd => ?_⟩
    exact h.don n hn (by rw [e]; exact hd)
  · rcases h0.pr with hcl | hcl
    · exfalso
      have e1 := h.be is hcl
      have := (cnt_mono (by rw [h0.sz, h.sz]) e1).1
      omega
    · right; omega
theorem Iv0.done {len : Nat} {D : Nat → List Bool → Bool} (hD : MonoD D) {is : List Bool} (h0 : Iv0 len D (len + 1) is) : is = lfp len D := by
  refine lfp_uniq hD ?_ h0.be
  rcases h0.pr with h | h
  · exact h
  · have := cnt_le (a := is); rw [h0.sz] at this; omega
end Go.Proofs.YtoelbgjpmpoolaaGreat
namespace Go.Proofs.YtoelbgjpmpoolaaGreat
open Go Dv
set_option maxRecDepth 10000
set_option linter.unusedSimpArgs false
end Go.Proofs.YtoelbgjpmpoolaaGreat
namespace Go.Proofs.YtoelbgjpmpoolaaGreat
open Go Dv
set_option maxRecDepth 10000
set_option linter.unusedSimpArgs false
def nilPad : Pad := ⟨0, [], false, false⟩
end Go.Proofs.YtoelbgjpmpoolaaGreat
namespace Go.Proofs.YtoelbgjpmpoolaaGreat
open Go Dv
set_option maxRecDepth 10000
set_option linter.unusedSimpArgs false
def awM : Zaj := ⟨[⟨0, 2, [⟨false, nilPad, [], ⟨4, 0, 0, 1, [], 0, 0, 1⟩⟩, ⟨true, ⟨1, [5], false, false⟩, [], ⟨1, 1, 0, 0, [], 0, 0, 0⟩⟩]⟩, ⟨0, 1, [⟨false, nilPad, [⟨1, 0, 0, 0, 5, 0, []⟩, ⟨12, 0, 0, 0, 0, 0, []⟩], ⟨5, 0, 0, 0, [], 0, 0, 0⟩⟩]⟩]⟩
theorem awM_run : ∃ s, runM awM [] 100 = s ∧ s.done = 1 ∧ s.value = 5 ∧ s.events = [5] := ⟨_, rfl, by decide +kernel, by decide +kernel, by decide +kernel⟩
set_option maxHeartbeats 2000000 in
theorem c_awake06 : FC Tryz.prog 27 [] (.bool true) := by
  refine Zao tok Tryz.func27 rfl (by decide +kernel) (Nat.le_of_ble_eq_true rfl) ?_
  (repeat' ((fail_if_success (show AWp _ _ _ (Code.region 2 _ _) _ _)); first | refine Zac ?_ | (refine Zab tok (by rfl) ?_; conv => whnf)))
  refine Zau (Weak.fam (tl := [(1, .bp (1, 0, 0) 0)]) (hl := [((1, 0, 0), .row true 1 1 (fun _ => Zav awM))]) (F := noH) [] rfl (fun i hi => by cases hi) (.cons (.bp rfl rfl) .nil) (.old rfl rfl (GB.one ?_ (fun _ => rfl)) .nil) noF (fun i hi => by cases hi)) ?_
  · (repeat' first | exact GVs.nil | exact lt0 | refine ltS ?_ ?_ | ((conv => arg 4; whnf); (conv => arg 5; whnf); first | refine GVs.cons (GV.imm rfl) ?_ | refine GVs.cons (GV.wk rfl (.nsl rfl)) ?_ | refine GVs.cons (GV.frz (hd_no rfl) rfl (Nat.le_of_ble_eq_true rfl) rfl ?_ ?_) ?_) | exact (show Zcb _ = true from rfl))
  obtain ⟨s, h0, hd, hv, he⟩ := awM_run
  have hR := c_mRun awM [] 100 (by decide +kernel) ⟨by simp, by simp⟩ (by decide)
  rw [show (100 : Int).toNat = 100 from rfl, h0] at hR
  have hR2 : FC Tryz.prog 28 [.agg (Zav awM), .nsl, iv 100] (.tup [.agg (Zas s), iv 0]) := FC.arg hR (fun X w vals hV => by
    simp only [Vs] at hV ⊢
    obtain ⟨v1, r1, e1, h1, v2, r2, e2, h2, h3⟩ := hV
    exact ⟨v1, r1, e1, h1, v2, r2, e2, V_nsl h2, h3⟩)
  have hel : s.events.length = 1 := by rw [he]; rfl
  (repeat' (refine Zab tok (by rfl) ?_; conv => whnf))
  refine .inl ⟨_, _, _, uG (QC.fc hR2 rfl), ?_⟩
  conv => whnf
  ((repeat' first | refine Zac ?_ | (refine Zab tok (by rfl) ?_; conv => whnf) | (refine Zah ?_; conv => whnf) | (refine @And.intro (Zaa _ _ _ _) _ ?_ ?_; rotate_left; (conv => whnf); rotate_right)); all_goals (try ((guard_target = Zaa _ _ _ _); ((refine Za8 ?_; intro hgd; (conv at hgd => whnf); (try simp (disch := omega) only [Zal] at hgd))); (all_goals (try simp only [Zaa, kzz, kz11, kz12, maxL, Zad] at *)); all_goals omega)))
  refine ⟨_, rfl, Rel.bool ?_⟩
  rw [hd, hv, he]
  rfl
end Go.Proofs.YtoelbgjpmpoolaaGreat
namespace Go.Proofs.YtoelbgjpmpoolaaGreat
open Go Dv
set_option maxRecDepth 10000
set_option linter.unusedSimpArgs false
theorem c_RunNeg {m : Zaj} {inputs : List Int} (hr : Zbg m = true) (n : Int) (hn : n < 0) : FC Tryz.prog 23 [.agg (Zav m), u16s inputs, iv n] (.agg (Zas (runM m inputs 0))) := by
  refine Zao tok Tryz.func23 rfl (by decide +kernel) (Nat.le_of_ble_eq_true rfl) ?_
  have hmx : maxL = 4294967296 := rfl
  have h0 := right0 hr
  have hN := c_newM m inputs h0.1 h0.2 (right_regs hr (n := 0) (by omega) (by omega))
  (repeat' first | refine Zac ?_ | (refine Zab tok (by rfl) ?_; conv => whnf))
  refine .inl ⟨_, _, _, uG (QC.fc hN rfl), ?_⟩
  conv => whnf
  (repeat' ((fail_if_success (show AWp _ _ _ (Code.region 3 _ _) _ _)); first | refine Zac ?_ | (refine Zab tok (by rfl) ?_; conv => whnf) | refine Zai ?_))
  refine Za1 (fun _ : Nat => mkS [(2, iv n), (3, .bp (3, 0, 0) 0), (6, .bp (6, 0, 0) 0), (7, .bp (7, 0, 0) 0), (8, iv 0)] [((3, 0, 0), Zam (Zav m)), ((6, 0, 0), Zam Zbz), ((7, 0, 0), .row true 21 1 (fun _ => Zas (newM m inputs)))]) (fun _ => True) (fun i => i) 0 trivial ?_ ?_
  · refine Weak.list [((3, 0, 0), .old (3, 0, 0), Zam (Zav m)), ((6, 0, 0), .old (6, 0, 0), Zam Zbz), ((7, 0, 0), .old (7, 0, 0), .row true 21 1 (fun _ => Zas (newM m inputs)))] rfl (by rfl) ?_ (.old rfl (BLe.refl _) (.old rfl (BLe.refl _) (.old rfl (BLe.rowW (Nat.le_refl _) (ltS (Wks.of rfl) lt0)) .nil)))
    ((repeat' first | exact TLes.nil | refine TLes.cons (TLe.eq rfl) ?_); skip)
  intro i _
  (repeat' ((fail_if_success (show AWp _ _ _ (Code.region 5 _ _) _ _)); (fail_if_success (show AWp _ _ _ (Code.region 6 _ _) _ _)); first | refine Zac ?_ | (refine Zab tok (by rfl) ?_; conv => whnf) | refine Zai ?_ | (refine Zag ?_; conv => whnf) | (refine Za3 ?_; conv => whnf) | refine Zae rfl (fun hb => ?_) (fun hb => ?_)))
  · exfalso; rw [decide_eq_false (show ¬ (0 : Int) < n by omega)] at hb; cases hb
  · (repeat' first | (refine Zab tok (by rfl) ?_; conv => whnf) | (refine Zah ?_; conv => whnf))
    exact ⟨_, rfl, Rel.agg (Rels.imm rfl)⟩
theorem c_RunZ {m : Zaj} {inputs : List Int} (hr : Zbg m = true) (hi : (∀ x ∈ inputs, 0 ≤ x ∧ x ≤ 65535) ∧ inputs.length < 1000000) (n : Int) (hn : n < 1000000) : FC Tryz.prog 23 [.agg (Zav m), u16s inputs, iv n] (.agg (Zas (runM m inputs n.toNat))) := by
  by_cases h : n < 0
  · have := c_RunNeg (inputs := inputs) hr n h
    rw [show n.toNat = 0 by omega]; exact this
  · have := c_RunOk hr hi n.toNat (by omega)
    rw [show ((n.toNat : Nat) : Int) = n by omega] at this; exact this
set_option maxHeartbeats 4000000 in
theorem c_MachRuns (m : Zaj) (inputs : List Int) (fuel : Int) : FC Tryz.prog 5 [.agg (Zav m), u16s inputs, iv fuel] (.bool true) := by
  refine Zao tok Tryz.func5 rfl (by decide +kernel) (Nat.le_of_ble_eq_true rfl) ?_
  refine Zaw 1 (fun hl => ?_)
  have hwords : ∀ x ∈ inputs, 0 ≤ x ∧ x ≤ 65535 := fun x hx => by
    obtain ⟨i, hi, rfl⟩ := List.getElem_of_mem hx
    have := (hl.2 i hi).1
    rw [Zb5 0 hi] at this; exact this
  clear hl
  have hmx : maxL = 4294967296 := rfl
  (repeat' first | refine Zac ?_ | (refine Zab tok (by rfl) ?_; conv => whnf))
  refine .inl ⟨_, _, _, uG (QC.fc c_awake06 rfl), ?_⟩
  conv => whnf
  (repeat' first | refine Zac ?_ | (refine Zab tok (by rfl) ?_; conv => whnf) | (refine Zag ?_; conv => whnf) | (refine Zah ?_; conv => whnf) | refine Zae rfl (fun hb => ?_) (fun hb => ?_))
  · cases hb
  clear hb
  refine .inl ⟨_, _, _, uG (QC.fc (c_r6Small m inputs) rfl), ?_⟩
  conv => whnf
  (repeat' ((fail_if_success (show AWp _ _ _ (Code.region 4 _ _) _ _)); (fail_if_success (show AWp _ _ _ (Code.region 5 _ _) _ _)); first | refine Zac ?_ | (refine Zag ?_; conv => whnf) | refine Zae rfl (fun hb => ?_) (fun hb => ?_)))
  · (repeat' first | (refine Zab tok (by rfl) ?_; conv => whnf) | (refine Zah ?_; conv => whnf))
    exact ⟨_, rfl, Rel.bool rfl⟩
  have hsm : smallB m inputs = true ∧ (fuel ≤ 300 ∨ 1048576 < fuel) := by
    cases h1 : smallB m inputs with
    | false => rw [h1] at hb; cases hb
    | true =>
      refine ⟨rfl, ?_⟩
      rw [h1] at hb
      by_cases h2 : 300 < fuel <;> by_cases h3 : fuel ≤ 1048576 <;> simp [h2, h3] at hb <;> omega
  clear hb
  obtain ⟨hsm, hfu⟩ := hsm
  unfold smallB at hsm
  rw [Bool.and_eq_true, decide_eq_true_eq] at hsm
  have hi : (∀ x ∈ inputs, 0 ≤ x ∧ x ≤ 65535) ∧ inputs.length < 1000000 := ⟨hwords, by omega⟩
  have hR := c_Right m
  by_cases hbad : Zbg m = false ∨ 1048576 < fuel
  · have hRun : FC Tryz.prog 28 [.agg (Zav m), u16s inputs, iv fuel] (.tup [.agg Zbz, iv 1]) := by
      cases hr : Zbg m with
      | false => exact c_mRunBad m inputs fuel hr
      | true => exact c_mRunFar m inputs fuel hr (by rcases hbad with h | h; rw [hr] at h; cases h; exact h)
    (repeat' (refine Zab tok (by rfl) ?_; conv => whnf))
    refine .inl ⟨_, _, _, uG (QC.fc hRun rfl), ?_⟩
    conv => whnf
    (repeat' first | refine Zac ?_ | (refine Zab tok (by rfl) ?_; conv => whnf))
    refine .inl ⟨_, _, _, uG (QC.fc hR rfl), ?_⟩
    conv => whnf
    (repeat' ((fail_if_success (show AWp _ _ _ (Code.region 7 _ _) _ _)); (fail_if_success (show AWp _ _ _ (Code.region 8 _ _) _ _)); first | refine Zac ?_ | (refine Zag ?_; conv => whnf) | refine Zae rfl (fun hb => ?_) (fun hb => ?_)))
    · (repeat' (refine Zab tok (by rfl) ?_; conv => whnf))
      refine .inl ⟨_, _, _, uG (QC.fc c_MSameZero rfl), ?_⟩
      conv => whnf
      (repeat' (refine Zah ?_; conv => whnf))
      exact ⟨_, rfl, Rel.bool rfl⟩
    · exfalso
      rcases hbad with h | h
      · rw [h] at hb; cases hb
      · cases h2 : Zbg m with
        | false => rw [h2] at hb; cases hb
        | true => rw [h2, decide_eq_true h] at hb; cases hb
  · have hr : Zbg m = true := by
      cases h : Zbg m with
      | true => rfl
      | false => exact absurd (.inl h) hbad
    have hfu : fuel ≤ 300 := by
      rcases hfu with h | h
      · exact h
      · exact absurd (.inr h) hbad
    clear hbad
    have hRun := c_mRun m inputs fuel hr hi (by omega)
    have hRef := c_RunZ hr hi fuel (by omega)
    generalize runM m inputs fuel.toNat = s at hRun hRef
    have hS := c_MSameEq s
    rw [hr] at hR
    (repeat' (refine Zab tok (by rfl) ?_; conv => whnf))
    refine .inl ⟨_, _, _, uG (QC.fc hRun rfl), ?_⟩
    conv => whnf
    (repeat' first | refine Zac ?_ | (refine Zab tok (by rfl) ?_; conv => whnf))
    refine .inl ⟨_, _, _, uG (QC.fc hR rfl), ?_⟩
    conv => whnf
    (repeat' ((fail_if_success (show AWp _ _ _ (Code.region 7 _ _) _ _)); (fail_if_success (show AWp _ _ _ (Code.region 8 _ _) _ _)); first | refine Zac ?_ | (refine Zag ?_; conv => whnf) | refine Zae rfl (fun hb => ?_) (fun hb => ?_)))
    · exfalso; rw [decide_eq_false (show ¬ 1048576 < fuel by omega)] at hb; cases hb
    clear hb
    (repeat' (refine Zat tok mix (by rfl) ?_; conv => whnf))
    refine .inl ⟨_, _, _, uG (QC.fc hRef rfl), ?_⟩
    conv => whnf
    skip
    refine .inl ⟨_, _, _, uG (QC.fc hS rfl), ?_⟩
    conv => whnf
    (repeat' (refine Zah ?_; conv => whnf))
    exact ⟨_, rfl, Rel.bool rfl⟩
end Go.Proofs.YtoelbgjpmpoolaaGreat
