/- Whatever a module, and the words told to it: of each step of its machine, what is thrown leaves frames alone of functions out of which something may be thrown, nothing is told while a frame is there of a function that does not tell, and no cell is written while one is there of a function that does not write. -/
import Derived.Test.YtoelbgjpmpoolaaGreatDvc3
import Derived.Test.YtoelbgjpmpoolaaGreatLawthrowsSound2
import Derived.Test.YtoelbgjpmpoolaaGreatRows
import Derived.WalkKit
import Derived.ProofKit
import Derived.OpenShut
import Derived.JoinedCond
set_option linter.unusedVariables false
set_option linter.unusedSimpArgs false
set_option linter.unnecessarySimpa false
namespace Go.Proofs.YtoelbgjpmpoolaaGreat
open Go Dv
set_option maxRecDepth 10000
set_option linter.unusedSimpArgs false
theorem weakCW {n : Nat} {tl : List (Nat × AV)} {m : Zag} {s : Mach} {w : Int} {σ : ASt} (ht : TLg (srcL []) σ.h (orH (Zax (cL w ++ memL m s)) (famW s.stack)) σ.tm tl) (k1 : σ.h c1 = some c1B) (k2 : σ.h c2 = some (c2B w)) (h1 : σ.h jB = some (macB m s)) (h2 : σ.h jF = some (Zcz s.stack)) (h3 : σ.h jE = some (evB s.events)) (h4 : σ.h jT = some (regB (topF s).regs)) (h5 : ∀ q, q < s.stack.length - 1 → σ.h (945, 0, q) = some (regB (s.stack.getD q default).regs)) :
    Weak n LW σ (mkF tl (cL w ++ memL m s) (famW s.stack)) := by
  refine Weak.fam [] rfl (fun c hc => by cases hc) ht ?_ ?_ LW_keepL
  · refine .old rfl k1 (GB.one (.cons (.bp rfl rfl) .nil) (fun e => by cases e)) (.old rfl k2 (GB.one (.cons (.imm rfl) .nil) (fun _ => rfl)) ?_)
    exact Zcl rfl rfl rfl rfl (fun _ => rfl) h1 h2 h3 h4 rfl rfl rfl (fun q hq => Zco hq)
  · exact Zfy (fun _ _ => rfl) h5
theorem lendOne {l : List Int} : ∀ j b, oneR l j = some b → j = r0 ∧ b = regB l := fun j b e => by
  have := Zc2 (i := j) (by rw [e]; rfl)
  subst this
  exact ⟨rfl, (Option.some.inj e).symm⟩
theorem LW_keepS {tl : List (Dv.Id × Zam)} {F : Zan} {S : List (Dv.Id × Option Dv.Id)} (hB : (orH (Zax tl) F jB).isSome = true ∧ srcL S jB = some jB := by exact ⟨rfl, rfl⟩) (hF : (orH (Zax tl) F jF).isSome = true ∧ srcL S jF = some jF := by exact ⟨rfl, rfl⟩) : ∀ i ∈ LW, Zei i = true → (orH (Zax tl) F i).isSome = true ∧ srcL S i = some i := fun i hi _ => by
  rcases List.mem_cons.1 hi with rfl | hi
  · exact hB
  · rw [List.mem_singleton.1 hi]; exact hF
set_option maxHeartbeats 4000000 in
theorem c_mThr (m : Zag) (s : Mach) (w : Int) (hr : Zbd m = true) (h : 0 < s.stack.length) (h32 : s.stack.length ≤ 32) (hF : ∀ i, i < s.stack.length → OkF m (s.stack.getD i default)) :
    HG Tryz.prog LW 117 (mem m s) [.bp jB 0, .int .u16 w] (.tup []) (mem m (Zbq m s w)) := by
  refine Za7 tok Tryz.func117 rfl (by decide +kernel) (Nat.le_of_ble_eq_true rfl) ?_
  have hmx : maxL = 4294967296 := rfl
  have hpl := Zc0 (s := s)
  have hgen : ∃ p, popM s = p := ⟨_, rfl⟩
  obtain ⟨p, hp⟩ := hgen
  have hP := c_mPop m s h (by omega)
  have hF2 : ∀ i, i < p.stack.length → OkF m (p.stack.getD i default) := fun i hi => by
    rw [← hp] at hi ⊢
    rw [show (popM s).stack.getD i default = s.stack.getD i default from Zb3 _ (by omega)]
    exact hF i (by omega)
  have hpp : ∀ i, i < p.stack.length → (Zar m (p.stack.getD i default)).fin.kind = 4 → 0 ≤ (Zar m (p.stack.getD i default)).fin.pad ∧ (Zar m (p.stack.getD i default)).fin.pad < (Zc5 m (p.stack.getD i default)).blocks.length := fun i hi hk => (okF_pad hr (hF2 i hi) hk).1
  have hT0 : Zbq m s w = if (List.range p.stack.length).any (Zbz m p.stack w false) = true then
      Zby (Zdj p (Zey (Zbz m p.stack w true) (p.stack.length - 1) + 1)) (landF m (p.stack.getD (Zey (Zbz m p.stack w true) (p.stack.length - 1)) default) (Zar m (p.stack.getD (Zey (Zbz m p.stack w true) (p.stack.length - 1)) default)).fin.pad w)
      else endM p 2 w := by rw [← hp]; rfl
  rw [hp] at hP hpl
  have hC := c_ContainsFr m p w (by omega) hF2 hpp
  rw [hT0]
  (repeat' ((fail_if_success (show AWp _ _ _ (Code.region 1 _ _) _ _)); first | refine Zac ?_ | (refine Zab tok (by rfl) ?_; conv => whnf)))
  refine Zaw (Weak.fam (L := LW) (tl := [(2, .bp c1 0), (3, .bp c2 0)]) (hl := cL w ++ memL m s) (F := famW s.stack) [(c1, some (2, 0, 0)), (c2, some (3, 0, 0))] rfl (fun c hc => ?_) ?_ ?_ ?_ LW_keepS) ?_
  · rcases List.mem_cons.1 (show c ∈ [(2, 0, 0), (3, 0, 0)] from hc) with rfl | hc
    · exact .inl rfl
    · rw [List.mem_singleton.1 hc]; exact .inl rfl
  · exact .cons (.bp rfl rfl) (.cons (.bp rfl rfl) .nil)
  · refine .old rfl rfl (GB.one (.cons (.bp rfl rfl) .nil) (fun e => by cases e)) (.old rfl rfl (GB.one (.cons (.imm rfl) .nil) (fun _ => rfl)) ?_)
    exact Zcl rfl rfl rfl rfl (fun _ => rfl) rfl rfl rfl rfl rfl rfl rfl (fun q hq => Zco hq)
  · exact Zfy (fun _ _ => rfl) (fun q hq => Za1 hq)
  (repeat' (refine Zab tok (by rfl) ?_; conv => whnf))
  refine .inr ⟨_, _, _, uG (QH.tnM (by simp) (by simp) hP (by omega) (Zaz rfl rfl rfl rfl (fun _ => rfl)) rfl (fun q hq => Zao hq)), ?_⟩
  conv => whnf
  (repeat' ((fail_if_success (show AWp _ _ _ (Code.region 2 _ _) _ _)); refine Zac ?_))
  refine Zaw (weakCW (tl := [(2, .bp c1 0), (3, .bp c2 0)]) (.cons (.bp rfl rfl) (.cons (.bp rfl rfl) .nil)) rfl rfl rfl rfl rfl rfl (fun q hq => Zbc hq)) ?_
  (repeat' (refine Zab tok (by rfl) ?_; conv => whnf))
  refine .inr ⟨_, _, _, uG (QH.tnE (.head _) (.tail _ (.head _)) rfl rfl rfl rfl (fun _ => rfl) cL_closed cL_pin hC (by omega) (fun j b e => e) rfl (fun q hq => hq)), ?_⟩
  conv => whnf
  (repeat' ((fail_if_success (show AWp _ _ _ (Code.region 4 _ _) _ _)); (fail_if_success (show AWp _ _ _ (Code.region 5 _ _) _ _)); first | refine Zac ?_ | (refine Zab tok (by rfl) ?_; conv => whnf) | refine Zak ?_ | (refine Zah ?_; conv => whnf) | refine Zaf rfl (fun hb => ?_) (fun hb => ?_)))
  · have hn : ¬ (List.range p.stack.length).any (Zbz m p.stack w false) = true := by simpa using hb
    rw [if_neg hn]
    refine Zaw (weakCW (tl := [(2, .bp c1 0), (3, .bp c2 0)]) (.cons (.bp rfl rfl) (.cons (.bp rfl rfl) .nil)) rfl rfl rfl rfl rfl rfl (fun q hq => Zf3 hq)) ?_
    (repeat' (refine Zab tok (by rfl) ?_; conv => whnf))
    refine .inr ⟨_, _, _, uG (QH.tnM (by simp) (by simp) (c_mEnd m p 2 w) (by omega) (Zaz rfl rfl rfl rfl (fun q => rfl)) rfl (fun q hq => Zao hq)), ?_⟩
    conv => whnf
    (repeat' (refine Zaj ?_; conv => whnf))
    refine ⟨_, srcL [], rfl, ?_⟩
    rw [← and_assoc]
    exact ⟨Zde (s := endM p 2 w) rfl rfl rfl (Zch rfl rfl rfl) rfl rfl rfl (fun q hq => Zbc hq), .tup .nil, Zcs⟩
  have hany : (List.range p.stack.length).any (Zbz m p.stack w false) = true := by simpa using hb
  clear hb
  rw [if_pos hany]
  obtain ⟨i0, hi0, hci⟩ := List.any_eq_true.1 hany
  rw [List.mem_range] at hi0
  have hex : ∃ j, j ≤ p.stack.length - 1 ∧ Zbz m p.stack w true j = true := ⟨i0, by omega, catch_more hci⟩
  have hgen : ∃ K, Zey (Zbz m p.stack w true) (p.stack.length - 1) = K := ⟨_, rfl⟩
  obtain ⟨K, hK⟩ := hgen
  obtain ⟨hK1, hK2⟩ := Zfh hex
  rw [hK] at hK1 hK2 ⊢
  have hKl : K < p.stack.length := by omega
  have htl : ∀ n, n ≤ p.stack.length - 1 → (Zdj p (n + 1)).stack.length = n + 1 := fun n hn => by simp [Zdj]; omega
  have htk : ∀ n, n ≤ p.stack.length - 1 → (Zdj p (n + 1)).stack.getD n default = p.stack.getD n default := fun n hn => Zb3 _ (by omega)
  have hfull : Zdj p (p.stack.length - 1 + 1) = p := by
    unfold Zdj
    rw [show p.stack.length - 1 + 1 = p.stack.length by omega, List.take_length]
  refine Za3 (fun n : Nat => mkF [(2, .bp c1 0), (3, .bp c2 0)] (cL w ++ memL m (Zdj p (n + 1))) (famW (Zdj p (n + 1)).stack)) (fun n => n ≤ p.stack.length - 1 ∧ Zey (Zbz m p.stack w true) n = K ∧ ∃ j, j ≤ n ∧ Zbz m p.stack w true j = true) (fun n => n) (p.stack.length - 1) ⟨Nat.le_refl _, hK, hex⟩ ?_ ?_
  · rw [hfull]
    exact weakCW (.cons (.bp rfl rfl) (.cons (.bp rfl rfl) .nil)) rfl rfl rfl rfl rfl rfl (fun q hq => Zf3 hq)
  rintro n ⟨hn1, hn2, hn3⟩
  have hgen : ∃ u, Zdj p (n + 1) = u := ⟨_, rfl⟩
  obtain ⟨u, hu⟩ := hgen
  have hul := htl n hn1
  have hut := htk n hn1
  rw [hu] at hul hut ⊢
  have hu1 : u.stack.length - 1 = n := by omega
  have hPd := c_mPad m u n (by omega) (by omega) (by rw [hut]; exact hF2 n (by omega)) (by rw [hut]; exact hpp n (by omega))
  rw [hut] at hPd
  have hTp := Zfj m u (by omega) (by omega)
  rw [hu1] at hTp
  (repeat' first | refine Zac ?_ | (refine Zab tok (by rfl) ?_; conv => whnf) | refine Zak ?_)
  refine .inr ⟨_, _, _, uG (QH.tnM (by simp) (by simp) hTp (by omega) (Zaz rfl rfl rfl rfl (fun q => rfl)) rfl (fun q hq => Zao hq)), ?_⟩
  conv => whnf
  (repeat' first | refine Zac ?_ | (refine Zab tok (by rfl) ?_; conv => whnf))
  refine .inr ⟨_, _, _, uG (QH.tnM (by simp) (by simp) hPd (by omega) (Zaz rfl rfl rfl rfl (fun q => Zbm (fun hq => Zao (by omega)))) rfl (fun q hq => (Zbm (fun hq => Zao (by omega))).trans (Zao hq))), ?_⟩
  conv => whnf
  (repeat' first | refine Zac ?_ | (refine Zab tok (by rfl) ?_; conv => whnf))
  refine .inl ⟨_, _, _, uG (QC.fc (c_fCatches (padV m (p.stack.getD n default)).2.1 w) rfl), ?_⟩
  conv => whnf
  (repeat' ((fail_if_success (show AWp _ _ _ (Code.region 8 _ _) _ _)); (fail_if_success (show AWp _ _ _ (Code.region 9 _ _) _ _)); first | refine Zac ?_ | (refine Zah ?_; conv => whnf) | refine Zaf rfl (fun hb => ?_) (fun hb => ?_)))
  · have hyes : Zbz m p.stack w true n = true := by
      show Zez m (p.stack.getD n default) w true = true
      rw [← padV_catch2]
      simpa using hb
    clear hb
    have hnK : n = K := by rw [← hn2, downK_yes hyes]
    subst hnK
    rw [hu]
    have htop : topF u = p.stack.getD n default := by unfold topF; rw [hu1]; exact hut
    have hk4 : (Zar m (p.stack.getD n default)).fin.kind = 4 := by
      unfold Zbz Zez at hyes
      simp only [Bool.and_eq_true, decide_eq_true_eq] at hyes
      exact hyes.2.1
    have hkE : endB m (p.stack.getD n default) = true := by
      unfold Zbz Zez at hyes
      simp only [Bool.and_eq_true, decide_eq_true_eq] at hyes
      exact hyes.1
    have hpv : (padV m (p.stack.getD n default)).1 = (Zar m (p.stack.getD n default)).fin.pad := by
      unfold padV; rw [if_pos ⟨hkE, hk4⟩]
    obtain ⟨⟨g1, g2⟩, g3, g4, g5⟩ := okF_pad hr (hF2 n hKl) hk4
    have hL := c_fLand m (p.stack.getD n default) (Zar m (p.stack.getD n default)).fin.pad w hr (hF2 n hKl) g1 g2 g3 ⟨g4, g5⟩
    rw [← hpv, ← htop] at hL ⊢
    have hgen : ∃ k, (padV m (topF u)).1 = k := ⟨_, rfl⟩
    obtain ⟨k, hk⟩ := hgen
    rw [hk] at hL ⊢
    have hgen : ∃ g, landF m (topF u) k w = g := ⟨_, rfl⟩
    obtain ⟨g, hg⟩ := hgen
    rw [hg] at hL ⊢
    have hle : n < u.stack.length := by omega
    have hrt : Zbg u.stack n = .rs jT 1 0 (topF u).regs.length := Zbf (by omega) hu1.symm
    have hut2 : u.stack.getD n default = topF u := by rw [htop]; exact hut
    refine Zaw (weakCW (tl := [(2, .bp c1 0), (3, .bp c2 0), (5, .rp jF 5 n 0), (6, iv k)]) (.cons (.bp rfl rfl) (.cons (.bp rfl rfl) (.cons (.rp rfl rfl rfl) (.cons (.int (by rw [← hk, htop])) .nil)))) rfl rfl rfl rfl rfl rfl (fun q hq => Zbc hq)) ?_
    refine Zdz tok mix (by rfl) [0, 1, 2, 3, 4, 5, 6, 8, 9, 14] 30 (by rfl) (by rfl) (by rfl) ?_
    conv => whnf
    (repeat' first
      | (refine fAV (x := Zbg u.stack n) (y := .rs jT 1 0 (topF u).regs.length) hrt ?_; (conv => whnf))
      | (refine @And.intro (Zaa _ _ _ _) _ ?_ ?_; rotate_left; (conv => whnf); rotate_right)
      | (guard_target = And _ _; refine @And.intro (gOp _ _ _ _ _ _ _ _ _) _ (by (conv => whnf); first | exact ⟨rfl, rfl⟩ | (refine fAV (x := Zbg u.stack n) (y := .rs jT 1 0 (topF u).regs.length) hrt ?_; (conv => whnf); exact ⟨rfl, rfl⟩)) ?_; conv => whnf)
      | (guard_target = And _ _; refine And.intro ?_ ?_ <;> (conv => whnf)))
    all_goals (try ((guard_target = Zaa _ _ _ _); refine Zae ?_; (all_goals (try simp only [Zaa, kzz, kz11, kz12, maxL, Zad] at *)); all_goals omega))
    all_goals (try (show AV.agg [_, _, _, Zbg u.stack n, _] = AV.agg [_, _, _, .rs jT 1 0 (topF u).regs.length, _]; rw [hrt]; done))
    have hut3 : (u.stack.getD n default) = (u.stack.getD (u.stack.length - 1) default) := by rw [hu1]
    have hL' : HF Tryz.prog 163 [.agg (Zba m), .agg (Zb1 (u.stack.getD n default)), iv k, .int .u16 w] (.tup [.agg (frO g (.rs r0 1 0 g.regs.length)), iv 0]) (oneR g.regs) := by rw [hut2]; exact hL
    refine .inr ⟨_, _, _, uG (QH.lendF (rd := [jT]) hL' (.cons (.imm rfl) (.cons (.agg (.cons (.imm rfl) (.cons (.imm rfl) (.cons (.imm rfl) (.cons (.row rfl (.head _) rfl (by rw [hut2]) (fun q hq => by rw [hut2])) (.cons (.imm rfl) .nil)))))) (.cons (.imm rfl) (.cons (.imm rfl) .nil)))) (fun i hi => by rw [Zc2 hi]; rfl) rfl (fun j b e => by
      obtain ⟨rfl, rfl⟩ := lendOne j b e
      exact fun i hi => rfl)), ?_⟩
    conv => whnf
    (repeat' first
      | (refine fAV (x := Zbg u.stack n) (y := .rs jT 1 0 (topF u).regs.length) hrt ?_; (conv => whnf))
      | (refine @And.intro (Zaa _ _ _ _) _ ?_ ?_; rotate_left; (conv => whnf); rotate_right)
      | (guard_target = And _ _; refine @And.intro (gOp _ _ _ _ _ _ _ _ _) _ (by (conv => whnf); first | exact ⟨rfl, rfl⟩ | (refine fAV (x := Zbg u.stack n) (y := .rs jT 1 0 (topF u).regs.length) hrt ?_; (conv => whnf); exact ⟨rfl, rfl⟩)) ?_; conv => whnf)
      | (guard_target = And _ _; refine And.intro ?_ ?_ <;> (conv => whnf)))
    all_goals (try ((guard_target = Zaa _ _ _ _); refine Zae ?_; (all_goals (try simp only [Zaa, kzz, kz11, kz12, maxL, Zad] at *)); all_goals omega))
    all_goals (try (show AV.agg [_, _, _, Zbg u.stack n, _] = AV.agg [_, _, _, .rs jT 1 0 (topF u).regs.length, _]; rw [hrt]; done))
    all_goals
      (repeat' (refine Zaj ?_; conv => whnf))
      refine ⟨_, srcT jE r0, rfl, ?_⟩
      rw [← and_assoc]
      refine ⟨leaveG (s := u) (g := g) (n' := u.stack.length) (by omega) rfl rfl (.inr (.inl rfl)) (.inl rfl) rfl ?_ rfl (Nat.le_refl _) (fun q hq => ?_) ?_ rfl (Zd6 _) rfl (Zbu _) (fun q hq => ?_), .tup .nil, keepT⟩
      · exact Zeb (s := Zby u g) (Zc4 (s := u) (by omega)).symm rfl rfl rfl rfl
      · exact Zcv (by omega)
      · rw [hu1]; exact Zdi
      · refine Ze0 (d := []) (u := oneR g.regs) rfl rfl ?_
        exact Za1 hq
  · have hno : ¬ Zbz m p.stack w true n = true := by
      show ¬ Zez m (p.stack.getD n default) w true = true
      rw [← padV_catch2]
      simpa using hb
    clear hb
    obtain ⟨e1, e2⟩ := downK_no hn3 hno
    have hPu := c_mPop m u (by omega) (by omega)
    have hpu : popM u = Zdj p (n - 1 + 1) := by
      rw [← hu]
      unfold popM Zdj
      simp only [List.length_take, List.take_take]
      congr 2
      omega
    rw [hpu] at hPu
    refine Zaw (weakCW (tl := [(2, .bp c1 0), (3, .bp c2 0)]) (.cons (.bp rfl rfl) (.cons (.bp rfl rfl) .nil)) rfl rfl rfl rfl rfl rfl (fun q hq => Zbc hq)) ?_
    (repeat' (refine Zab tok (by rfl) ?_; conv => whnf))
    refine .inr ⟨_, _, _, uG (QH.tnM (by simp) (by simp) hPu (by omega) (Zaz rfl rfl rfl rfl (fun q => rfl)) rfl (fun q hq => Zao hq)), ?_⟩
    conv => whnf
    skip
    refine ⟨n - 1, ⟨by omega, by rw [← e2]; exact hn2, ?_⟩, by omega, weakCW (.cons (.bp rfl rfl) (.cons (.bp rfl rfl) .nil)) rfl rfl rfl rfl rfl rfl (fun q hq => Zbc hq)⟩
    obtain ⟨j, j1, j2⟩ := hn3
    refine ⟨j, ?_, j2⟩
    rcases Nat.lt_or_ge j n with h3 | h3
    · omega
    · have : j = n := by omega
      subst this; exact absurd j2 hno
end Go.Proofs.YtoelbgjpmpoolaaGreat
namespace Go.Proofs.YtoelbgjpmpoolaaGreat
open Go Dv
set_option maxRecDepth 10000
set_option linter.unusedSimpArgs false
theorem weakW {n : Nat} {tl : List (Nat × AV)} {el : List (Dv.Id × Zam)} {m : Zag} {s : Mach} {σ : ASt} {L : List Dv.Id} (ht : TLg (srcL []) σ.h (orH (Zax (el ++ memL m s)) (famW s.stack)) σ.tm tl) (he : HLs (srcL []) σ.h (orH (Zax (el ++ memL m s)) (famW s.stack)) (el ++ memL m s)) (h5 : ∀ q, q < s.stack.length - 1 → σ.h (945, 0, q) = some (regB (s.stack.getD q default).regs))
    (hL : ∀ i ∈ L, Zei i = true → (orH (Zax (el ++ memL m s)) (famW s.stack) i).isSome = true ∧ srcL [] i = some i) : Weak n L σ (mkF tl (el ++ memL m s) (famW s.stack)) := by
  exact Weak.fam [] rfl (fun c hc => by cases hc) ht he (Zfy (fun _ _ => rfl) h5) hL
set_option maxHeartbeats 4000000 in
theorem c_mStepT (m : Zag) (s s1 : Mach) (f : Zav) (hf : topF s = f) (h : 0 < s.stack.length) (h32 : s.stack.length ≤ 32) (hF : OkF m f) (he : endB m f = false) (hl : s1.stack.length = s.stack.length) (hat0 : 0 ≤ (topF s1).at_) (hat : (topF s1).at_ < 1000000)
    (hI : HG Tryz.prog LW 113 (mem m s) [.bp jB 0, .rp jF 5 (s.stack.length - 1) 0, .agg (Zbh ((Zar m f).ins.getD f.at_.toNat default))] (.bool true) (mem m s1)) :
    HG Tryz.prog [jB] 64 (mem m s) [.bp jB 0] (.tup []) (mem m (Zby s1 (goOn (topF s1)))) := by
  refine Za7 tok Tryz.func64 rfl (by decide +kernel) (Nat.le_of_ble_eq_true rfl) ?_
  have hmx : maxL = 4294967296 := rfl
  have hft : s.stack.getD (s.stack.length - 1) default = f := hf
  have hT := Zfj m s h (by omega)
  have hB := Zc8 m s (s.stack.length - 1) (by omega) (by rw [hft]; exact hF)
  rw [hft] at hB
  have hE : ¬ f.at_ = (Zar m f).ins.length := fun e => by
    have : endB m f = true := decide_eq_true e
    rw [he] at this; cases this
  have hgen : ∃ b, Zar m f = b := ⟨_, rfl⟩
  obtain ⟨b, hbe⟩ := hgen
  have a0 := hF.a0
  have a1 := hF.a1
  rw [hbe] at hB hE a1 hI
  (repeat' ((fail_if_success (show AWp _ _ _ (Code.region 0 _ _) _ _)); refine Zac ?_))
  (repeat' (refine Zab tok (by rfl) ?_; conv => whnf))
  refine .inr ⟨_, _, _, uG (QH.tnM (by simp) (by simp) hT h32 (Zaz rfl rfl rfl rfl (fun _ => rfl)) rfl (fun q hq => Zao hq)), ?_⟩
  conv => whnf
  (repeat' ((fail_if_success (show AWp _ _ _ (Code.region 1 _ _) _ _)); refine Zac ?_))
  (repeat' (refine Zab tok (by rfl) ?_; conv => whnf))
  refine .inr ⟨_, _, _, uG (QH.tnM (by simp) (by simp) hB h32 (Zaz rfl rfl rfl rfl (fun _ => Zbm (fun hq => Zao (by omega)))) rfl (fun q hq => (Zbm (fun hq => Zao (by omega))).trans (Zao hq))), ?_⟩
  conv => whnf
  ((repeat' ((fail_if_success (show AWp _ _ _ (Code.region 3 _ _) _ _)); (fail_if_success (show AWp _ _ _ (Code.region 5 _ _) _ _)); first | refine Zac ?_ | (refine Zaq tok mix (by rfl) ?_; conv => whnf) | (refine Zah ?_; conv => whnf) | refine Zaf rfl (fun hb => ?_) (fun hb => ?_) | (refine @And.intro (Zaa _ _ _ _) _ ?_ ?_; rotate_left; (conv => whnf); rotate_right))); all_goals (try ((guard_target = Zaa _ _ _ _); refine Zae ?_; (all_goals (try simp only [Zaa, kzz, kz11, kz12, maxL, Zad] at *)); all_goals omega)))
  · clear hb
    refine Zaw (weakW (m := m) (s := s) (L := [jB]) (tl := [(0, .bp jB 0), (2, .rp jF 5 (s.stack.length - 1) 0), (3, .bp (3, 0, 0) 0)]) (el := [((3, 0, 0), Za8 (Zbe b))]) ?_ ?_ (fun q hq => Zbc hq) (fun i hi _ => by rw [List.mem_singleton.1 hi]; exact ⟨rfl, rfl⟩)) ?_
    · exact .cons (.bp rfl rfl) (.cons (.rp rfl rfl rfl) (.cons (.bp rfl rfl) .nil))
    · exact .old rfl rfl (GB.one (GVs.imm rfl) (fun _ => rfl)) (Zcl rfl rfl rfl rfl (fun _ => rfl) rfl rfl rfl rfl rfl rfl rfl (fun q hq => Zco hq))
    have hle : s.stack.length - 1 < s.stack.length := by omega
    have hat1 : (s.stack.getD (s.stack.length - 1) default).at_.toNat < b.ins.length := by rw [hft]; omega
    have hat0' : 0 ≤ (s.stack.getD (s.stack.length - 1) default).at_ := by rw [hft]; omega
    have hI' : HG Tryz.prog LW 113 (mem m s) [.bp jB 0, .rp jF 5 (s.stack.length - 1) 0, .agg (Zbh (b.ins.getD (s.stack.getD (s.stack.length - 1) default).at_.toNat default))] (.bool true) (mem m s1) := by rw [hft]; exact hI
    have hle1 : s.stack.length - 1 < s1.stack.length := by omega
    have htp : s1.stack.getD (s.stack.length - 1) default = topF s1 := by rw [← hl]; rfl
    have hatt : 0 ≤ (s1.stack.getD (s.stack.length - 1) default).at_ ∧ (s1.stack.getD (s.stack.length - 1) default).at_ < 1000000 := by rw [htp]; exact ⟨hat0, hat⟩
    ((repeat' first | (refine Zaq tok mix (by rfl) ?_; conv => whnf) | (refine @And.intro (Zaa _ _ _ _) _ ?_ ?_; rotate_left; (conv => whnf); rotate_right)); all_goals (try ((guard_target = Zaa _ _ _ _); refine Zae ?_; (all_goals (try simp only [Zaa, kzz, kz11, kz12, maxL, Zad] at *)); all_goals omega)))
    refine .inr ⟨_, _, _, uG (QH.tnM (by simp) (by simp) hI' h32 (Zaz rfl rfl rfl rfl (fun _ => rfl)) rfl (fun q hq => Zao hq)), ?_⟩
    conv => whnf
    (repeat' ((fail_if_success (show AWp _ _ _ (Code.region 4 _ _) _ _)); first | (refine Zah ?_; conv => whnf) | (refine Zaj ?_; conv => whnf) | refine Zaf rfl (fun hb => ?_) (fun hb => ?_)))
    all_goals (try (exfalso; cases hb; done))
    clear hb
    ((repeat' first | (refine Zab tok (by rfl) ?_; conv => whnf) | (refine @And.intro (Zaa _ _ _ _) _ ?_ ?_; rotate_left; (conv => whnf); rotate_right)); all_goals (try ((guard_target = Zaa _ _ _ _); refine Zae ?_; (all_goals (try simp only [Zaa, kzz, kz11, kz12, maxL, Zad] at *)); all_goals omega)))
    refine fAV (x := Zbg s1.stack (s.stack.length - 1)) (y := .rs jT 1 0 (topF s1).regs.length) (Zbf (by omega) (by rw [hl])) ?_
    conv => whnf
    (repeat' (refine Zaj ?_; conv => whnf))
    refine ⟨_, srcT jE jT, rfl, ?_⟩
    rw [← and_assoc]
    refine ⟨leaveG (s := s1) (g := goOn (topF s1)) (n' := s1.stack.length) (by omega) rfl rfl (.inr (.inl rfl)) (.inr (.inr rfl)) rfl ?_ rfl (Nat.le_refl _) (fun q hq => ?_) ?_ rfl (Zd6 _) rfl (Zbu _) (fun q hq => Zbc (s := s1) hq), .tup .nil, fun i hi hp => keepT i (by rw [List.mem_singleton.1 hi]; exact .head _) hp⟩
    · exact Zeb (s := Zby s1 (goOn (topF s1))) (Zc4 (s := s1) (by omega)).symm rfl rfl rfl rfl
    · exact Zcv (by omega)
    · rw [hl]
      refine Zdi.trans ?_
      rw [htp, Zal (by omega) (by omega)]
      rfl
  · exfalso
    rw [hft] at hb
    simp only [decide_eq_false_iff_not] at hb
    omega
end Go.Proofs.YtoelbgjpmpoolaaGreat
namespace Go.Proofs.YtoelbgjpmpoolaaGreat
open Go Dv
set_option maxRecDepth 10000
set_option linter.unusedSimpArgs false
theorem renN' {m : Zag} {s s' : Mach} {f : FuncId} {args args' : List AV} {r : AV} (h : HG Tryz.prog [jB] f (mem m s) args r (mem m s')) (ha : GVs (srcL [(jF, some jN)]) (memN m s) (mem m s) args' args) : HG Tryz.prog [jB] f (memN m s) args' r (mem m s') := by
  refine h.ren (srcL [(jF, some jN)]) (Ze3 rfl (fun i hi => ?_)) (fun j b e => ?_) ha (fun i hi _ => by rw [List.mem_singleton.1 hi]; exact ⟨rfl, rfl⟩)
  · rw [List.mem_singleton.1 (show i ∈ [jN] from hi)]; exact .inl rfl
  · rcases Zb9 e with ⟨rfl, rfl⟩ | ⟨rfl, rfl⟩ | ⟨rfl, rfl⟩ | ⟨rfl, rfl⟩ | ⟨q, rfl, hq2, rfl⟩
    · exact HOk.mk rfl rfl (GB.one (cells22 rfl rfl rfl rfl) (fun e => by cases e))
    · exact HOk.mk rfl rfl (GB_fr (fun _ _ => rfl) rfl (fun q hq => by rw [Zds, Za1 hq]; rfl) rfl)
    · exact HOk.mk rfl rfl (Zd6 _)
    · exact HOk.mk rfl rfl (Zbu _)
    · exact HOk.mk rfl (Za1 (l := s.stack) hq2) (Zbu _)
set_option maxHeartbeats 4000000 in
theorem c_mStepF (m : Zag) (s s1 : Mach) (f : Zav) (hf : topF s = f) (h : 0 < s.stack.length) (h32 : s.stack.length ≤ 32) (hF : OkF m f) (he : endB m f = false)
    (hI : HG Tryz.prog LW 113 (mem m s) [.bp jB 0, .rp jF 5 (s.stack.length - 1) 0, .agg (Zbh ((Zar m f).ins.getD f.at_.toNat default))] (.bool false) (mem m s1)) :
    HG Tryz.prog [jB] 64 (mem m s) [.bp jB 0] (.tup []) (mem m s1) := by
  refine Za7 tok Tryz.func64 rfl (by decide +kernel) (Nat.le_of_ble_eq_true rfl) ?_
  have hmx : maxL = 4294967296 := rfl
  have hft : s.stack.getD (s.stack.length - 1) default = f := hf
  have hT := Zfj m s h (by omega)
  have hB := Zc8 m s (s.stack.length - 1) (by omega) (by rw [hft]; exact hF)
  rw [hft] at hB
  have hE : ¬ f.at_ = (Zar m f).ins.length := fun e => by
    have : endB m f = true := decide_eq_true e
    rw [he] at this; cases this
  have hgen : ∃ b, Zar m f = b := ⟨_, rfl⟩
  obtain ⟨b, hbe⟩ := hgen
  have a0 := hF.a0
  have a1 := hF.a1
  rw [hbe] at hB hE a1 hI
  (repeat' ((fail_if_success (show AWp _ _ _ (Code.region 0 _ _) _ _)); refine Zac ?_))
  (repeat' (refine Zab tok (by rfl) ?_; conv => whnf))
  refine .inr ⟨_, _, _, uG (QH.tnM (by simp) (by simp) hT h32 (Zaz rfl rfl rfl rfl (fun _ => rfl)) rfl (fun q hq => Zao hq)), ?_⟩
  conv => whnf
  (repeat' ((fail_if_success (show AWp _ _ _ (Code.region 1 _ _) _ _)); refine Zac ?_))
  (repeat' (refine Zab tok (by rfl) ?_; conv => whnf))
  refine .inr ⟨_, _, _, uG (QH.tnM (by simp) (by simp) hB h32 (Zaz rfl rfl rfl rfl (fun _ => Zbm (fun hq => Zao (by omega)))) rfl (fun q hq => (Zbm (fun hq => Zao (by omega))).trans (Zao hq))), ?_⟩
  conv => whnf
  ((repeat' ((fail_if_success (show AWp _ _ _ (Code.region 3 _ _) _ _)); (fail_if_success (show AWp _ _ _ (Code.region 5 _ _) _ _)); first | refine Zac ?_ | (refine Zaq tok mix (by rfl) ?_; conv => whnf) | (refine Zah ?_; conv => whnf) | refine Zaf rfl (fun hb => ?_) (fun hb => ?_) | (refine @And.intro (Zaa _ _ _ _) _ ?_ ?_; rotate_left; (conv => whnf); rotate_right))); all_goals (try ((guard_target = Zaa _ _ _ _); refine Zae ?_; (all_goals (try simp only [Zaa, kzz, kz11, kz12, maxL, Zad] at *)); all_goals omega)))
  · clear hb
    refine Zaw (weakW (m := m) (s := s) (L := [jB]) (tl := [(0, .bp jB 0), (2, .rp jF 5 (s.stack.length - 1) 0), (3, .bp (3, 0, 0) 0)]) (el := [((3, 0, 0), Za8 (Zbe b))]) ?_ ?_ (fun q hq => Zbc hq) (fun i hi _ => by rw [List.mem_singleton.1 hi]; exact ⟨rfl, rfl⟩)) ?_
    · exact .cons (.bp rfl rfl) (.cons (.rp rfl rfl rfl) (.cons (.bp rfl rfl) .nil))
    · exact .old rfl rfl (GB.one (GVs.imm rfl) (fun _ => rfl)) (Zcl rfl rfl rfl rfl (fun _ => rfl) rfl rfl rfl rfl rfl rfl rfl (fun q hq => Zco hq))
    have hle : s.stack.length - 1 < s.stack.length := by omega
    have hat1 : (s.stack.getD (s.stack.length - 1) default).at_.toNat < b.ins.length := by rw [hft]; omega
    have hat0' : 0 ≤ (s.stack.getD (s.stack.length - 1) default).at_ := by rw [hft]; omega
    have hI' : HG Tryz.prog LW 113 (mem m s) [.bp jB 0, .rp jF 5 (s.stack.length - 1) 0, .agg (Zbh (b.ins.getD (s.stack.getD (s.stack.length - 1) default).at_.toNat default))] (.bool false) (mem m s1) := by rw [hft]; exact hI
    ((repeat' first | (refine Zaq tok mix (by rfl) ?_; conv => whnf) | (refine @And.intro (Zaa _ _ _ _) _ ?_ ?_; rotate_left; (conv => whnf); rotate_right)); all_goals (try ((guard_target = Zaa _ _ _ _); refine Zae ?_; (all_goals (try simp only [Zaa, kzz, kz11, kz12, maxL, Zad] at *)); all_goals omega)))
    refine .inr ⟨_, _, _, uG (QH.tnM (by simp) (by simp) hI' h32 (Zaz rfl rfl rfl rfl (fun _ => rfl)) rfl (fun q hq => Zao hq)), ?_⟩
    conv => whnf
    (repeat' ((fail_if_success (show AWp _ _ _ (Code.region 4 _ _) _ _)); first | (refine Zah ?_; conv => whnf) | (refine Zaj ?_; conv => whnf) | refine Zaf rfl (fun hb => ?_) (fun hb => ?_)))
    all_goals (try (exfalso; cases hb; done))
    clear hb
    skip
    refine ⟨_, srcL [], rfl, ?_⟩
    rw [← and_assoc]
    exact ⟨Zde (s := s1) rfl rfl rfl (Zch rfl rfl rfl) rfl rfl rfl (fun q hq => Zbc hq), .tup .nil, fun i hi hp => Zcs i (by rw [List.mem_singleton.1 hi]; exact .head _) hp⟩
  · exfalso
    rw [hft] at hb
    simp only [decide_eq_false_iff_not] at hb
    omega
set_option maxHeartbeats 4000000 in
theorem c_mStepC (m : Zag) (s s1 : Mach) (f : Zav) (hf : topF s = f) (h : 0 < s.stack.length) (h32 : s.stack.length ≤ 32) (hF : OkF m f) (he : endB m f = false)
    (hI : HG Tryz.prog [jB] 113 (mem m s) [.bp jB 0, .rp jF 5 (s.stack.length - 1) 0, .agg (Zbh ((Zar m f).ins.getD f.at_.toNat default))] (.bool false) (mem m s1)) :
    HG Tryz.prog [jB] 64 (mem m s) [.bp jB 0] (.tup []) (mem m s1) := by
  refine Za7 tok Tryz.func64 rfl (by decide +kernel) (Nat.le_of_ble_eq_true rfl) ?_
  have hmx : maxL = 4294967296 := rfl
  have hft : s.stack.getD (s.stack.length - 1) default = f := hf
  have hT := Zfj m s h (by omega)
  have hB := Zc8 m s (s.stack.length - 1) (by omega) (by rw [hft]; exact hF)
  rw [hft] at hB
  have hE : ¬ f.at_ = (Zar m f).ins.length := fun e => by
    have : endB m f = true := decide_eq_true e
    rw [he] at this; cases this
  have hgen : ∃ b, Zar m f = b := ⟨_, rfl⟩
  obtain ⟨b, hbe⟩ := hgen
  have a0 := hF.a0
  have a1 := hF.a1
  rw [hbe] at hB hE a1 hI
  (repeat' ((fail_if_success (show AWp _ _ _ (Code.region 0 _ _) _ _)); refine Zac ?_))
  (repeat' (refine Zab tok (by rfl) ?_; conv => whnf))
  refine .inr ⟨_, _, _, uG (QH.tnM (by simp) (by simp) hT h32 (Zaz rfl rfl rfl rfl (fun _ => rfl)) rfl (fun q hq => Zao hq)), ?_⟩
  conv => whnf
  (repeat' ((fail_if_success (show AWp _ _ _ (Code.region 1 _ _) _ _)); refine Zac ?_))
  (repeat' (refine Zab tok (by rfl) ?_; conv => whnf))
  refine .inr ⟨_, _, _, uG (QH.tnM (by simp) (by simp) hB h32 (Zaz rfl rfl rfl rfl (fun _ => Zbm (fun hq => Zao (by omega)))) rfl (fun q hq => (Zbm (fun hq => Zao (by omega))).trans (Zao hq))), ?_⟩
  conv => whnf
  ((repeat' ((fail_if_success (show AWp _ _ _ (Code.region 3 _ _) _ _)); (fail_if_success (show AWp _ _ _ (Code.region 5 _ _) _ _)); first | refine Zac ?_ | (refine Zaq tok mix (by rfl) ?_; conv => whnf) | (refine Zah ?_; conv => whnf) | refine Zaf rfl (fun hb => ?_) (fun hb => ?_) | (refine @And.intro (Zaa _ _ _ _) _ ?_ ?_; rotate_left; (conv => whnf); rotate_right))); all_goals (try ((guard_target = Zaa _ _ _ _); refine Zae ?_; (all_goals (try simp only [Zaa, kzz, kz11, kz12, maxL, Zad] at *)); all_goals omega)))
  · clear hb
    refine Zaw (Weak.fam (L := [jB]) (tl := [(0, .bp jB 0), (2, .rp jN 5 (s.stack.length - 1) 0), (3, .bp (3, 0, 0) 0)]) (hl := [((3, 0, 0), Za8 (Zbe b))] ++ memNL m s) (F := famW s.stack) [(jN, some jF)] rfl (fun c hc => ?_) ?_ ?_ ?_ (fun i hi _ => by rw [List.mem_singleton.1 hi]; exact ⟨rfl, rfl⟩)) ?_
    · rw [List.mem_singleton.1 (show c ∈ [jF] from hc)]; exact .inl rfl
    · exact .cons (.bp rfl rfl) (.cons (.rp rfl rfl rfl) (.cons (.bp rfl rfl) .nil))
    · refine .old rfl rfl (GB.one (GVs.imm rfl) (fun _ => rfl)) ?_
      exact HLs_memN rfl rfl rfl rfl (fun _ => rfl) rfl rfl rfl rfl rfl rfl rfl rfl (fun q hq => Zco hq)
    · exact Zfy (fun _ _ => rfl) (fun q hq => Zbc hq)
    have hle : s.stack.length - 1 < s.stack.length := by omega
    have hat1 : (s.stack.getD (s.stack.length - 1) default).at_.toNat < b.ins.length := by rw [hft]; omega
    have hat0' : 0 ≤ (s.stack.getD (s.stack.length - 1) default).at_ := by rw [hft]; omega
    have hI' : HG Tryz.prog [jB] 113 (memN m s) [.bp jB 0, .rp jN 5 (s.stack.length - 1) 0, .agg (Zbh (b.ins.getD (s.stack.getD (s.stack.length - 1) default).at_.toNat default))] (.bool false) (mem m s1) := by rw [hft]; exact renN' hI (.cons (.bp rfl rfl) (.cons (.rp rfl rfl rfl) (.cons (.imm rfl) .nil)))
    ((repeat' first | (refine Zaq tok mix (by rfl) ?_; conv => whnf) | (refine @And.intro (Zaa _ _ _ _) _ ?_ ?_; rotate_left; (conv => whnf); rotate_right)); all_goals (try ((guard_target = Zaa _ _ _ _); refine Zae ?_; (all_goals (try simp only [Zaa, kzz, kz11, kz12, maxL, Zad] at *)); all_goals omega)))
    refine .inr ⟨_, _, _, uG (QH.ddM (by simp) hI' h32 (memN_sub rfl rfl rfl rfl (fun _ => rfl)) rfl rfl (fun q hq => Zao hq)), ?_⟩
    conv => whnf
    (repeat' ((fail_if_success (show AWp _ _ _ (Code.region 4 _ _) _ _)); first | (refine Zah ?_; conv => whnf) | (refine Zaj ?_; conv => whnf) | refine Zaf rfl (fun hb => ?_) (fun hb => ?_)))
    all_goals (try (exfalso; cases hb; done))
    clear hb
    skip
    refine ⟨_, srcL [], rfl, ?_⟩
    rw [← and_assoc]
    exact ⟨Zde (s := s1) rfl rfl rfl (Zch rfl rfl rfl) rfl rfl rfl (fun q hq => Zbc hq), .tup .nil, fun i hi hp => Zcs i (by rw [List.mem_singleton.1 hi]; exact .head _) hp⟩
  · exfalso
    rw [hft] at hb
    simp only [decide_eq_false_iff_not] at hb
    omega
end Go.Proofs.YtoelbgjpmpoolaaGreat
namespace Go.Proofs.YtoelbgjpmpoolaaGreat
open Go Dv
set_option maxRecDepth 10000
set_option linter.unusedSimpArgs false
set_option maxHeartbeats 4000000 in
theorem c_mStep1 (m : Zag) (s : Mach) (f : Zav) (b : Zb2) (hf : topF s = f) (hbe : Zar m f = b) (h : 0 < s.stack.length) (h32 : s.stack.length ≤ 32) (hF : OkF m f) (he : endB m f = true) (hk : b.fin.kind = 1) (ha : 0 ≤ b.fin.a ∧ b.fin.a < f.regs.length) (hc : HG Tryz.prog LW 114 (mem m s) [.bp jB 0, .int .u16 (regA f b.fin.a)] (.tup []) (mem m (Zbt m s (regA f b.fin.a)))) :
    HG Tryz.prog [jB] 64 (mem m s) [.bp jB 0] (.tup []) (mem m (Zbt m s (regA f b.fin.a))) := by
  refine Za7 tok Tryz.func64 rfl (by decide +kernel) (Nat.le_of_ble_eq_true rfl) ?_
  have hmx : maxL = 4294967296 := rfl
  have hft : s.stack.getD (s.stack.length - 1) default = f := hf
  have hT := Zfj m s h (by omega)
  have hB := Zc8 m s (s.stack.length - 1) (by omega) (by rw [hft]; exact hF)
  rw [hft] at hB
  have hE : f.at_ = (Zar m f).ins.length := of_decide_eq_true he
  have a0 := hF.a0
  have a1 := hF.a1
  rw [hbe] at hB hE a1
  (repeat' ((fail_if_success (show AWp _ _ _ (Code.region 0 _ _) _ _)); refine Zac ?_))
  (repeat' (refine Zab tok (by rfl) ?_; conv => whnf))
  refine .inr ⟨_, _, _, uG (QH.tnM (by simp) (by simp) hT h32 (Zaz rfl rfl rfl rfl (fun _ => rfl)) rfl (fun q hq => Zao hq)), ?_⟩
  conv => whnf
  (repeat' ((fail_if_success (show AWp _ _ _ (Code.region 1 _ _) _ _)); refine Zac ?_))
  (repeat' (refine Zab tok (by rfl) ?_; conv => whnf))
  refine .inr ⟨_, _, _, uG (QH.tnM (by simp) (by simp) hB h32 (Zaz rfl rfl rfl rfl (fun _ => Zbm (fun hq => Zao (by omega)))) rfl (fun q hq => (Zbm (fun hq => Zao (by omega))).trans (Zao hq))), ?_⟩
  conv => whnf
  ((repeat' ((fail_if_success (show AWp _ _ _ (Code.region 3 _ _) _ _)); (fail_if_success (show AWp _ _ _ (Code.region 5 _ _) _ _)); first | refine Zac ?_ | (refine Zaq tok mix (by rfl) ?_; conv => whnf) | (refine Zah ?_; conv => whnf) | refine Zaf rfl (fun hb => ?_) (fun hb => ?_) | (refine @And.intro (Zaa _ _ _ _) _ ?_ ?_; rotate_left; (conv => whnf); rotate_right))); all_goals (try ((guard_target = Zaa _ _ _ _); refine Zae ?_; (all_goals (try simp only [Zaa, kzz, kz11, kz12, maxL, Zad] at *)); all_goals omega)))
  · exfalso
    rw [hft] at hb
    simp only [decide_eq_true_eq] at hb
    omega
  clear hb
  refine Zaw (weakW (m := m) (s := s) (L := [jB]) (tl := [(0, .bp jB 0), (2, .rp jF 5 (s.stack.length - 1) 0), (3, .bp (3, 0, 0) 0)]) (el := [((3, 0, 0), Za8 (Zbe b))]) ?_ ?_ (fun q hq => Zbc hq) (fun i hi _ => by rw [List.mem_singleton.1 hi]; exact ⟨rfl, rfl⟩)) ?_
  · exact .cons (.bp rfl rfl) (.cons (.rp rfl rfl rfl) (.cons (.bp rfl rfl) .nil))
  · exact .old rfl rfl (GB.one (GVs.imm rfl) (fun _ => rfl)) (Zcl rfl rfl rfl rfl (fun _ => rfl) rfl rfl rfl rfl rfl rfl rfl (fun q hq => Zco hq))
  have hle : s.stack.length - 1 < s.stack.length := by omega
  (repeat' ((fail_if_success (show AWp _ _ _ (Code.region 8 _ _) _ _)); (fail_if_success (show AWp _ _ _ (Code.region 9 _ _) _ _)); first | refine Zac ?_ | (refine Zab tok (by rfl) ?_; conv => whnf) | refine Zak ?_ | refine Zaf rfl (fun hb => ?_) (fun hb => ?_)))
  rotate_left
  · exfalso; simp only [decide_eq_false_iff_not] at hb; omega
  clear hb
  have haa : b.fin.a.toNat < (topF s).regs.length := by rw [hf]; omega
  have hc' : HG Tryz.prog LW 114 (mem m s) [.bp jB 0, .int .u16 ((topF s).regs.getD (0 + b.fin.a.toNat) 0)] (.tup []) (mem m (Zbt m s (regA f b.fin.a))) := by rw [Nat.zero_add, hf]; exact hc
  ((repeat' first | (refine Zaq tok mix (by rfl) ?_; conv => whnf) | (refine @And.intro (Zaa _ _ _ _) _ ?_ ?_; rotate_left; (conv => whnf); rotate_right)); all_goals (try ((guard_target = Zaa _ _ _ _); refine Zae ?_; (all_goals (try simp only [Zaa, kzz, kz11, kz12, maxL, Zad] at *)); all_goals omega)))
  refine fAV (x := Zbg s.stack (s.stack.length - 1)) (y := .rs jT 1 0 (topF s).regs.length) (Zbf h rfl) ?_
  conv => whnf
  ((repeat' (refine @And.intro (Zaa _ _ _ _) _ ?_ ?_; rotate_left; (conv => whnf); rotate_right)); all_goals (try ((guard_target = Zaa _ _ _ _); refine Zae ?_; (all_goals (try simp only [Zaa, kzz, kz11, kz12, maxL, Zad] at *)); all_goals omega)))
  refine .inr ⟨_, _, _, uG (QH.tnM (by simp) (by simp) hc' h32 (Zaz rfl rfl rfl rfl (fun _ => rfl)) rfl (fun q hq => Zao hq)), ?_⟩
  conv => whnf
  skip
  refine ⟨_, srcL [], rfl, ?_⟩
  rw [← and_assoc]
  exact ⟨Zde (s := Zbt m s (regA f b.fin.a)) rfl rfl rfl (Zch rfl rfl rfl) rfl rfl rfl (fun q hq => Zbc hq), .tup .nil, fun i hi hp => Zcs i (by rw [List.mem_singleton.1 hi]; exact .head _) hp⟩
set_option maxHeartbeats 4000000 in
theorem c_mStep5 (m : Zag) (s : Mach) (f : Zav) (b : Zb2) (hf : topF s = f) (hbe : Zar m f = b) (h : 0 < s.stack.length) (h32 : s.stack.length ≤ 32) (hF : OkF m f) (he : endB m f = true) (hk : b.fin.kind = 5) (ha : 0 ≤ b.fin.a ∧ b.fin.a < f.regs.length) (hc : HG Tryz.prog LW 117 (mem m s) [.bp jB 0, .int .u16 (regA f b.fin.a)] (.tup []) (mem m (Zbq m s (regA f b.fin.a)))) :
    HG Tryz.prog [jB] 64 (mem m s) [.bp jB 0] (.tup []) (mem m (Zbq m s (regA f b.fin.a))) := by
  refine Za7 tok Tryz.func64 rfl (by decide +kernel) (Nat.le_of_ble_eq_true rfl) ?_
  have hmx : maxL = 4294967296 := rfl
  have hft : s.stack.getD (s.stack.length - 1) default = f := hf
  have hT := Zfj m s h (by omega)
  have hB := Zc8 m s (s.stack.length - 1) (by omega) (by rw [hft]; exact hF)
  rw [hft] at hB
  have hE : f.at_ = (Zar m f).ins.length := of_decide_eq_true he
  have a0 := hF.a0
  have a1 := hF.a1
  rw [hbe] at hB hE a1
  (repeat' ((fail_if_success (show AWp _ _ _ (Code.region 0 _ _) _ _)); refine Zac ?_))
  (repeat' (refine Zab tok (by rfl) ?_; conv => whnf))
  refine .inr ⟨_, _, _, uG (QH.tnM (by simp) (by simp) hT h32 (Zaz rfl rfl rfl rfl (fun _ => rfl)) rfl (fun q hq => Zao hq)), ?_⟩
  conv => whnf
  (repeat' ((fail_if_success (show AWp _ _ _ (Code.region 1 _ _) _ _)); refine Zac ?_))
  (repeat' (refine Zab tok (by rfl) ?_; conv => whnf))
  refine .inr ⟨_, _, _, uG (QH.tnM (by simp) (by simp) hB h32 (Zaz rfl rfl rfl rfl (fun _ => Zbm (fun hq => Zao (by omega)))) rfl (fun q hq => (Zbm (fun hq => Zao (by omega))).trans (Zao hq))), ?_⟩
  conv => whnf
  ((repeat' ((fail_if_success (show AWp _ _ _ (Code.region 3 _ _) _ _)); (fail_if_success (show AWp _ _ _ (Code.region 5 _ _) _ _)); first | refine Zac ?_ | (refine Zaq tok mix (by rfl) ?_; conv => whnf) | (refine Zah ?_; conv => whnf) | refine Zaf rfl (fun hb => ?_) (fun hb => ?_) | (refine @And.intro (Zaa _ _ _ _) _ ?_ ?_; rotate_left; (conv => whnf); rotate_right))); all_goals (try ((guard_target = Zaa _ _ _ _); refine Zae ?_; (all_goals (try simp only [Zaa, kzz, kz11, kz12, maxL, Zad] at *)); all_goals omega)))
  · exfalso
    rw [hft] at hb
    simp only [decide_eq_true_eq] at hb
    omega
  clear hb
  refine Zaw (weakW (m := m) (s := s) (L := [jB]) (tl := [(0, .bp jB 0), (2, .rp jF 5 (s.stack.length - 1) 0), (3, .bp (3, 0, 0) 0)]) (el := [((3, 0, 0), Za8 (Zbe b))]) ?_ ?_ (fun q hq => Zbc hq) (fun i hi _ => by rw [List.mem_singleton.1 hi]; exact ⟨rfl, rfl⟩)) ?_
  · exact .cons (.bp rfl rfl) (.cons (.rp rfl rfl rfl) (.cons (.bp rfl rfl) .nil))
  · exact .old rfl rfl (GB.one (GVs.imm rfl) (fun _ => rfl)) (Zcl rfl rfl rfl rfl (fun _ => rfl) rfl rfl rfl rfl rfl rfl rfl (fun q hq => Zco hq))
  have hle : s.stack.length - 1 < s.stack.length := by omega
  (repeat' ((fail_if_success (show AWp _ _ _ (Code.region 8 _ _) _ _)); (fail_if_success (show AWp _ _ _ (Code.region 9 _ _) _ _)); first | refine Zac ?_ | (refine Zab tok (by rfl) ?_; conv => whnf) | refine Zak ?_ | refine Zaf rfl (fun hb => ?_) (fun hb => ?_)))
  · exfalso; simp only [decide_eq_true_eq] at hb; omega
  clear hb
  (repeat' ((fail_if_success (show AWp _ _ _ (Code.region 10 _ _) _ _)); (fail_if_success (show AWp _ _ _ (Code.region 11 _ _) _ _)); first | refine Zac ?_ | (refine Zab tok (by rfl) ?_; conv => whnf) | refine Zaf rfl (fun hb => ?_) (fun hb => ?_)))
  · exfalso; simp only [decide_eq_true_eq] at hb; omega
  clear hb
  (repeat' ((fail_if_success (show AWp _ _ _ (Code.region 12 _ _) _ _)); (fail_if_success (show AWp _ _ _ (Code.region 16 _ _) _ _)); first | refine Zac ?_ | (refine Zab tok (by rfl) ?_; conv => whnf) | refine Zaf rfl (fun hb => ?_) (fun hb => ?_)))
  · exfalso; simp only [decide_eq_true_eq] at hb; omega
  clear hb
  (repeat' ((fail_if_success (show AWp _ _ _ (Code.region 17 _ _) _ _)); (fail_if_success (show AWp _ _ _ (Code.region 18 _ _) _ _)); first | refine Zac ?_ | (refine Zab tok (by rfl) ?_; conv => whnf) | refine Zaf rfl (fun hb => ?_) (fun hb => ?_)))
  · exfalso; simp only [decide_eq_true_eq] at hb; omega
  clear hb
  (repeat' ((fail_if_success (show AWp _ _ _ (Code.region 19 _ _) _ _)); (fail_if_success (show AWp _ _ _ (Code.region 20 _ _) _ _)); first | refine Zac ?_ | (refine Zab tok (by rfl) ?_; conv => whnf) | refine Zaf rfl (fun hb => ?_) (fun hb => ?_)))
  rotate_left
  · exfalso; simp only [decide_eq_false_iff_not] at hb; omega
  clear hb
  have haa : b.fin.a.toNat < (topF s).regs.length := by rw [hf]; omega
  have hc' : HG Tryz.prog LW 117 (mem m s) [.bp jB 0, .int .u16 ((topF s).regs.getD (0 + b.fin.a.toNat) 0)] (.tup []) (mem m (Zbq m s (regA f b.fin.a))) := by rw [Nat.zero_add, hf]; exact hc
  ((repeat' first | (refine Zaq tok mix (by rfl) ?_; conv => whnf) | (refine @And.intro (Zaa _ _ _ _) _ ?_ ?_; rotate_left; (conv => whnf); rotate_right)); all_goals (try ((guard_target = Zaa _ _ _ _); refine Zae ?_; (all_goals (try simp only [Zaa, kzz, kz11, kz12, maxL, Zad] at *)); all_goals omega)))
  refine fAV (x := Zbg s.stack (s.stack.length - 1)) (y := .rs jT 1 0 (topF s).regs.length) (Zbf h rfl) ?_
  conv => whnf
  ((repeat' (refine @And.intro (Zaa _ _ _ _) _ ?_ ?_; rotate_left; (conv => whnf); rotate_right)); all_goals (try ((guard_target = Zaa _ _ _ _); refine Zae ?_; (all_goals (try simp only [Zaa, kzz, kz11, kz12, maxL, Zad] at *)); all_goals omega)))
  refine .inr ⟨_, _, _, uG (QH.tnM (by simp) (by simp) hc' h32 (Zaz rfl rfl rfl rfl (fun _ => rfl)) rfl (fun q hq => Zao hq)), ?_⟩
  conv => whnf
  skip
  refine ⟨_, srcL [], rfl, ?_⟩
  rw [← and_assoc]
  exact ⟨Zde (s := Zbq m s (regA f b.fin.a)) rfl rfl rfl (Zch rfl rfl rfl) rfl rfl rfl (fun q hq => Zbc hq), .tup .nil, fun i hi hp => Zcs i (by rw [List.mem_singleton.1 hi]; exact .head _) hp⟩
set_option maxHeartbeats 4000000 in
theorem c_mStep6 (m : Zag) (s : Mach) (f : Zav) (b : Zb2) (hf : topF s = f) (hbe : Zar m f = b) (h : 0 < s.stack.length) (h32 : s.stack.length ≤ 32) (hF : OkF m f) (he : endB m f = true) (hk : b.fin.kind = 6) (hc : HG Tryz.prog LW 117 (mem m s) [.bp jB 0, .int .u16 f.fly] (.tup []) (mem m (Zbq m s f.fly))) :
    HG Tryz.prog [jB] 64 (mem m s) [.bp jB 0] (.tup []) (mem m (Zbq m s f.fly)) := by
  refine Za7 tok Tryz.func64 rfl (by decide +kernel) (Nat.le_of_ble_eq_true rfl) ?_
  have hmx : maxL = 4294967296 := rfl
  have hft : s.stack.getD (s.stack.length - 1) default = f := hf
  have hT := Zfj m s h (by omega)
  have hB := Zc8 m s (s.stack.length - 1) (by omega) (by rw [hft]; exact hF)
  rw [hft] at hB
  have hE : f.at_ = (Zar m f).ins.length := of_decide_eq_true he
  have a0 := hF.a0
  have a1 := hF.a1
  rw [hbe] at hB hE a1
  (repeat' ((fail_if_success (show AWp _ _ _ (Code.region 0 _ _) _ _)); refine Zac ?_))
  (repeat' (refine Zab tok (by rfl) ?_; conv => whnf))
  refine .inr ⟨_, _, _, uG (QH.tnM (by simp) (by simp) hT h32 (Zaz rfl rfl rfl rfl (fun _ => rfl)) rfl (fun q hq => Zao hq)), ?_⟩
  conv => whnf
  (repeat' ((fail_if_success (show AWp _ _ _ (Code.region 1 _ _) _ _)); refine Zac ?_))
  (repeat' (refine Zab tok (by rfl) ?_; conv => whnf))
  refine .inr ⟨_, _, _, uG (QH.tnM (by simp) (by simp) hB h32 (Zaz rfl rfl rfl rfl (fun _ => Zbm (fun hq => Zao (by omega)))) rfl (fun q hq => (Zbm (fun hq => Zao (by omega))).trans (Zao hq))), ?_⟩
  conv => whnf
  ((repeat' ((fail_if_success (show AWp _ _ _ (Code.region 3 _ _) _ _)); (fail_if_success (show AWp _ _ _ (Code.region 5 _ _) _ _)); first | refine Zac ?_ | (refine Zaq tok mix (by rfl) ?_; conv => whnf) | (refine Zah ?_; conv => whnf) | refine Zaf rfl (fun hb => ?_) (fun hb => ?_) | (refine @And.intro (Zaa _ _ _ _) _ ?_ ?_; rotate_left; (conv => whnf); rotate_right))); all_goals (try ((guard_target = Zaa _ _ _ _); refine Zae ?_; (all_goals (try simp only [Zaa, kzz, kz11, kz12, maxL, Zad] at *)); all_goals omega)))
  · exfalso
    rw [hft] at hb
    simp only [decide_eq_true_eq] at hb
    omega
  clear hb
  refine Zaw (weakW (m := m) (s := s) (L := [jB]) (tl := [(0, .bp jB 0), (2, .rp jF 5 (s.stack.length - 1) 0), (3, .bp (3, 0, 0) 0)]) (el := [((3, 0, 0), Za8 (Zbe b))]) ?_ ?_ (fun q hq => Zbc hq) (fun i hi _ => by rw [List.mem_singleton.1 hi]; exact ⟨rfl, rfl⟩)) ?_
  · exact .cons (.bp rfl rfl) (.cons (.rp rfl rfl rfl) (.cons (.bp rfl rfl) .nil))
  · exact .old rfl rfl (GB.one (GVs.imm rfl) (fun _ => rfl)) (Zcl rfl rfl rfl rfl (fun _ => rfl) rfl rfl rfl rfl rfl rfl rfl (fun q hq => Zco hq))
  have hle : s.stack.length - 1 < s.stack.length := by omega
  (repeat' ((fail_if_success (show AWp _ _ _ (Code.region 8 _ _) _ _)); (fail_if_success (show AWp _ _ _ (Code.region 9 _ _) _ _)); first | refine Zac ?_ | (refine Zab tok (by rfl) ?_; conv => whnf) | refine Zak ?_ | refine Zaf rfl (fun hb => ?_) (fun hb => ?_)))
  · exfalso; simp only [decide_eq_true_eq] at hb; omega
  clear hb
  (repeat' ((fail_if_success (show AWp _ _ _ (Code.region 10 _ _) _ _)); (fail_if_success (show AWp _ _ _ (Code.region 11 _ _) _ _)); first | refine Zac ?_ | (refine Zab tok (by rfl) ?_; conv => whnf) | refine Zaf rfl (fun hb => ?_) (fun hb => ?_)))
  · exfalso; simp only [decide_eq_true_eq] at hb; omega
  clear hb
  (repeat' ((fail_if_success (show AWp _ _ _ (Code.region 12 _ _) _ _)); (fail_if_success (show AWp _ _ _ (Code.region 16 _ _) _ _)); first | refine Zac ?_ | (refine Zab tok (by rfl) ?_; conv => whnf) | refine Zaf rfl (fun hb => ?_) (fun hb => ?_)))
  · exfalso; simp only [decide_eq_true_eq] at hb; omega
  clear hb
  (repeat' ((fail_if_success (show AWp _ _ _ (Code.region 17 _ _) _ _)); (fail_if_success (show AWp _ _ _ (Code.region 18 _ _) _ _)); first | refine Zac ?_ | (refine Zab tok (by rfl) ?_; conv => whnf) | refine Zaf rfl (fun hb => ?_) (fun hb => ?_)))
  · exfalso; simp only [decide_eq_true_eq] at hb; omega
  clear hb
  (repeat' ((fail_if_success (show AWp _ _ _ (Code.region 19 _ _) _ _)); (fail_if_success (show AWp _ _ _ (Code.region 20 _ _) _ _)); first | refine Zac ?_ | (refine Zab tok (by rfl) ?_; conv => whnf) | refine Zaf rfl (fun hb => ?_) (fun hb => ?_)))
  · exfalso; simp only [decide_eq_true_eq] at hb; omega
  clear hb
  (repeat' ((fail_if_success (show AWp _ _ _ (Code.region 21 _ _) _ _)); first | (refine Zab tok (by rfl) ?_; conv => whnf) | (refine Zah ?_; conv => whnf) | refine Zaf rfl (fun hb => ?_) (fun hb => ?_)))
  rotate_left
  · exfalso; simp only [decide_eq_false_iff_not] at hb; omega
  clear hb
  have hc' : HG Tryz.prog LW 117 (mem m s) [.bp jB 0, .int .u16 (s.stack.getD (s.stack.length - 1) default).fly] (.tup []) (mem m (Zbq m s f.fly)) := by rw [hft]; exact hc
  ((repeat' first | (refine Zab tok (by rfl) ?_; conv => whnf) | (refine @And.intro (Zaa _ _ _ _) _ ?_ ?_; rotate_left; (conv => whnf); rotate_right)); all_goals (try ((guard_target = Zaa _ _ _ _); refine Zae ?_; (all_goals (try simp only [Zaa, kzz, kz11, kz12, maxL, Zad] at *)); all_goals omega)))
  refine .inr ⟨_, _, _, uG (QH.tnM (by simp) (by simp) hc' h32 (Zaz rfl rfl rfl rfl (fun _ => rfl)) rfl (fun q hq => Zao hq)), ?_⟩
  conv => whnf
  skip
  refine ⟨_, srcL [], rfl, ?_⟩
  rw [← and_assoc]
  exact ⟨Zde (s := Zbq m s f.fly) rfl rfl rfl (Zch rfl rfl rfl) rfl rfl rfl (fun q hq => Zbc hq), .tup .nil, fun i hi hp => Zcs i (by rw [List.mem_singleton.1 hi]; exact .head _) hp⟩
set_option maxHeartbeats 4000000 in
theorem c_mStep4 (m : Zag) (s : Mach) (f : Zav) (b : Zb2) (hf : topF s = f) (hbe : Zar m f = b) (h : 0 < s.stack.length) (h32 : s.stack.length ≤ 32) (hF : OkF m f) (he : endB m f = true) (hk : b.fin.kind = 4) (hc : HG Tryz.prog [jB] 116 (mem m s) [.bp jB 0, iv b.fin.f, ints b.fin.args] (.tup []) (mem m (Zb5 m s b.fin.f b.fin.args))) :
    HG Tryz.prog [jB] 64 (mem m s) [.bp jB 0] (.tup []) (mem m (Zb5 m s b.fin.f b.fin.args)) := by
  refine Za7 tok Tryz.func64 rfl (by decide +kernel) (Nat.le_of_ble_eq_true rfl) ?_
  have hmx : maxL = 4294967296 := rfl
  have hft : s.stack.getD (s.stack.length - 1) default = f := hf
  have hT := Zfj m s h (by omega)
  have hB := Zc8 m s (s.stack.length - 1) (by omega) (by rw [hft]; exact hF)
  rw [hft] at hB
  have hE : f.at_ = (Zar m f).ins.length := of_decide_eq_true he
  have a0 := hF.a0
  have a1 := hF.a1
  rw [hbe] at hB hE a1
  (repeat' ((fail_if_success (show AWp _ _ _ (Code.region 0 _ _) _ _)); refine Zac ?_))
  (repeat' (refine Zab tok (by rfl) ?_; conv => whnf))
  refine .inr ⟨_, _, _, uG (QH.tnM (by simp) (by simp) hT h32 (Zaz rfl rfl rfl rfl (fun _ => rfl)) rfl (fun q hq => Zao hq)), ?_⟩
  conv => whnf
  (repeat' ((fail_if_success (show AWp _ _ _ (Code.region 1 _ _) _ _)); refine Zac ?_))
  (repeat' (refine Zab tok (by rfl) ?_; conv => whnf))
  refine .inr ⟨_, _, _, uG (QH.tnM (by simp) (by simp) hB h32 (Zaz rfl rfl rfl rfl (fun _ => Zbm (fun hq => Zao (by omega)))) rfl (fun q hq => (Zbm (fun hq => Zao (by omega))).trans (Zao hq))), ?_⟩
  conv => whnf
  ((repeat' ((fail_if_success (show AWp _ _ _ (Code.region 3 _ _) _ _)); (fail_if_success (show AWp _ _ _ (Code.region 5 _ _) _ _)); first | refine Zac ?_ | (refine Zaq tok mix (by rfl) ?_; conv => whnf) | (refine Zah ?_; conv => whnf) | refine Zaf rfl (fun hb => ?_) (fun hb => ?_) | (refine @And.intro (Zaa _ _ _ _) _ ?_ ?_; rotate_left; (conv => whnf); rotate_right))); all_goals (try ((guard_target = Zaa _ _ _ _); refine Zae ?_; (all_goals (try simp only [Zaa, kzz, kz11, kz12, maxL, Zad] at *)); all_goals omega)))
  · exfalso
    rw [hft] at hb
    simp only [decide_eq_true_eq] at hb
    omega
  clear hb
  refine Zaw (Weak.fam (L := [jB]) (tl := [(0, .bp jB 0), (2, .rp jN 5 (s.stack.length - 1) 0), (3, .bp (3, 0, 0) 0)]) (hl := [((3, 0, 0), Za8 (Zbe b))] ++ memNL m s) (F := famW s.stack) [(jN, some jF)] rfl (fun c hc => ?_) ?_ ?_ ?_ (fun i hi _ => by rw [List.mem_singleton.1 hi]; exact ⟨rfl, rfl⟩)) ?_
  · rw [List.mem_singleton.1 (show c ∈ [jF] from hc)]; exact .inl rfl
  · exact .cons (.bp rfl rfl) (.cons (.rp rfl rfl rfl) (.cons (.bp rfl rfl) .nil))
  · refine .old rfl rfl (GB.one (GVs.imm rfl) (fun _ => rfl)) ?_
    exact HLs_memN rfl rfl rfl rfl (fun _ => rfl) rfl rfl rfl rfl rfl rfl rfl rfl (fun q hq => Zco hq)
  · exact Zfy (fun _ _ => rfl) (fun q hq => Zbc hq)
  have hle : s.stack.length - 1 < s.stack.length := by omega
  (repeat' ((fail_if_success (show AWp _ _ _ (Code.region 8 _ _) _ _)); (fail_if_success (show AWp _ _ _ (Code.region 9 _ _) _ _)); first | refine Zac ?_ | (refine Zab tok (by rfl) ?_; conv => whnf) | refine Zak ?_ | refine Zaf rfl (fun hb => ?_) (fun hb => ?_)))
  · exfalso; simp only [decide_eq_true_eq] at hb; omega
  clear hb
  (repeat' ((fail_if_success (show AWp _ _ _ (Code.region 10 _ _) _ _)); (fail_if_success (show AWp _ _ _ (Code.region 11 _ _) _ _)); first | refine Zac ?_ | (refine Zab tok (by rfl) ?_; conv => whnf) | refine Zaf rfl (fun hb => ?_) (fun hb => ?_)))
  · exfalso; simp only [decide_eq_true_eq] at hb; omega
  clear hb
  (repeat' ((fail_if_success (show AWp _ _ _ (Code.region 12 _ _) _ _)); (fail_if_success (show AWp _ _ _ (Code.region 16 _ _) _ _)); first | refine Zac ?_ | (refine Zab tok (by rfl) ?_; conv => whnf) | refine Zaf rfl (fun hb => ?_) (fun hb => ?_)))
  · exfalso; simp only [decide_eq_true_eq] at hb; omega
  clear hb
  (repeat' ((fail_if_success (show AWp _ _ _ (Code.region 17 _ _) _ _)); (fail_if_success (show AWp _ _ _ (Code.region 18 _ _) _ _)); first | refine Zac ?_ | (refine Zab tok (by rfl) ?_; conv => whnf) | refine Zaf rfl (fun hb => ?_) (fun hb => ?_)))
  rotate_left
  · exfalso; simp only [decide_eq_false_iff_not] at hb; omega
  clear hb
  have hc' := renN' hc (.cons (.bp rfl rfl) (.cons (.imm rfl) (.cons (.imm rfl) .nil)))
  (repeat' (refine Zab tok (by rfl) ?_; conv => whnf))
  refine .inr ⟨_, _, _, uG (QH.ddM (by simp) hc' h32 (memN_sub rfl rfl rfl rfl (fun _ => rfl)) rfl rfl (fun q hq => Zao hq)), ?_⟩
  conv => whnf
  skip
  refine ⟨_, srcL [], rfl, ?_⟩
  rw [← and_assoc]
  exact ⟨Zde (s := Zb5 m s b.fin.f b.fin.args) rfl rfl rfl (Zch rfl rfl rfl) rfl rfl rfl (fun q hq => Zbc hq), .tup .nil, fun i hi hp => Zcs i (by rw [List.mem_singleton.1 hi]; exact .head _) hp⟩
end Go.Proofs.YtoelbgjpmpoolaaGreat
namespace Go.Proofs.YtoelbgjpmpoolaaGreat
open Go Dv
set_option maxRecDepth 10000
set_option linter.unusedSimpArgs false
set_option maxHeartbeats 4000000 in
theorem c_mStep2 (m : Zag) (s : Mach) (f : Zav) (b : Zb2) (hf : topF s = f) (hbe : Zar m f = b) (h : 0 < s.stack.length) (h32 : s.stack.length ≤ 32) (hF : OkF m f) (he : endB m f = true) (hk : b.fin.kind = 2) :
    HG Tryz.prog [jB] 64 (mem m s) [.bp jB 0] (.tup []) (mem m (Zby s (goF b f))) := by
  refine Za7 tok Tryz.func64 rfl (by decide +kernel) (Nat.le_of_ble_eq_true rfl) ?_
  have hmx : maxL = 4294967296 := rfl
  have hft : s.stack.getD (s.stack.length - 1) default = f := hf
  have hT := Zfj m s h (by omega)
  have hB := Zc8 m s (s.stack.length - 1) (by omega) (by rw [hft]; exact hF)
  rw [hft] at hB
  have hE : f.at_ = (Zar m f).ins.length := of_decide_eq_true he
  have a0 := hF.a0
  have a1 := hF.a1
  rw [hbe] at hB hE a1
  (repeat' ((fail_if_success (show AWp _ _ _ (Code.region 0 _ _) _ _)); refine Zac ?_))
  (repeat' (refine Zab tok (by rfl) ?_; conv => whnf))
  refine .inr ⟨_, _, _, uG (QH.tnM (by simp) (by simp) hT h32 (Zaz rfl rfl rfl rfl (fun _ => rfl)) rfl (fun q hq => Zao hq)), ?_⟩
  conv => whnf
  (repeat' ((fail_if_success (show AWp _ _ _ (Code.region 1 _ _) _ _)); refine Zac ?_))
  (repeat' (refine Zab tok (by rfl) ?_; conv => whnf))
  refine .inr ⟨_, _, _, uG (QH.tnM (by simp) (by simp) hB h32 (Zaz rfl rfl rfl rfl (fun _ => Zbm (fun hq => Zao (by omega)))) rfl (fun q hq => (Zbm (fun hq => Zao (by omega))).trans (Zao hq))), ?_⟩
  conv => whnf
  ((repeat' ((fail_if_success (show AWp _ _ _ (Code.region 3 _ _) _ _)); (fail_if_success (show AWp _ _ _ (Code.region 5 _ _) _ _)); first | refine Zac ?_ | (refine Zaq tok mix (by rfl) ?_; conv => whnf) | (refine Zah ?_; conv => whnf) | refine Zaf rfl (fun hb => ?_) (fun hb => ?_) | (refine @And.intro (Zaa _ _ _ _) _ ?_ ?_; rotate_left; (conv => whnf); rotate_right))); all_goals (try ((guard_target = Zaa _ _ _ _); refine Zae ?_; (all_goals (try simp only [Zaa, kzz, kz11, kz12, maxL, Zad] at *)); all_goals omega)))
  · exfalso
    rw [hft] at hb
    simp only [decide_eq_true_eq] at hb
    omega
  clear hb
  refine Zaw (weakW (m := m) (s := s) (L := [jB]) (tl := [(0, .bp jB 0), (2, .rp jF 5 (s.stack.length - 1) 0), (3, .bp (3, 0, 0) 0)]) (el := [((3, 0, 0), Za8 (Zbe b))]) ?_ ?_ (fun q hq => Zbc hq) (fun i hi _ => by rw [List.mem_singleton.1 hi]; exact ⟨rfl, rfl⟩)) ?_
  · exact .cons (.bp rfl rfl) (.cons (.rp rfl rfl rfl) (.cons (.bp rfl rfl) .nil))
  · exact .old rfl rfl (GB.one (GVs.imm rfl) (fun _ => rfl)) (Zcl rfl rfl rfl rfl (fun _ => rfl) rfl rfl rfl rfl rfl rfl rfl (fun q hq => Zco hq))
  have hle : s.stack.length - 1 < s.stack.length := by omega
  (repeat' ((fail_if_success (show AWp _ _ _ (Code.region 8 _ _) _ _)); (fail_if_success (show AWp _ _ _ (Code.region 9 _ _) _ _)); first | refine Zac ?_ | (refine Zab tok (by rfl) ?_; conv => whnf) | refine Zak ?_ | refine Zaf rfl (fun hb => ?_) (fun hb => ?_)))
  · exfalso; simp only [decide_eq_true_eq] at hb; omega
  clear hb
  (repeat' ((fail_if_success (show AWp _ _ _ (Code.region 10 _ _) _ _)); (fail_if_success (show AWp _ _ _ (Code.region 11 _ _) _ _)); first | refine Zac ?_ | (refine Zab tok (by rfl) ?_; conv => whnf) | refine Zaf rfl (fun hb => ?_) (fun hb => ?_)))
  rotate_left
  · exfalso; simp only [decide_eq_false_iff_not] at hb; omega
  clear hb
  have hG := c_Go (topF s) b.fin.to
  have hGo : goF b f = { topF s with block := b.fin.to, at_ := 0 } := by unfold goF; rw [if_neg (fun e => by omega), hf]
  refine Zdz tok mix (by rfl) [0, 1, 2, 3, 4, 5, 7] 30 (by rfl) (by rfl) (by rfl) ?_
  conv => whnf
  (repeat' first
    | (refine fAV (x := Zbg s.stack (s.stack.length - 1)) (y := .rs jT 1 0 (topF s).regs.length) (Zbf h rfl) ?_; (conv => whnf))
    | (refine @And.intro (Zaa _ _ _ _) _ ?_ ?_; rotate_left; (conv => whnf); rotate_right)
    | (guard_target = And _ _; refine @And.intro (gOp _ _ _ _ _ _ _ _ _) _ (by (conv => whnf); first | exact ⟨rfl, rfl⟩ | (refine fAV (x := Zbg s.stack (s.stack.length - 1)) (y := .rs jT 1 0 (topF s).regs.length) (Zbf h rfl) ?_; (conv => whnf); exact ⟨rfl, rfl⟩)) ?_; conv => whnf)
    | (guard_target = And _ _; refine And.intro ?_ ?_ <;> (conv => whnf)))
  all_goals (try ((guard_target = Zaa _ _ _ _); refine Zae ?_; (all_goals (try simp only [Zaa, kzz, kz11, kz12, maxL, Zad] at *)); all_goals omega))
  all_goals (try (show AV.agg [_, _, _, Zbg s.stack (s.stack.length - 1), _] = AV.agg [_, _, _, .rs jT 1 0 (topF s).regs.length, _]; rw [Zbf h rfl]; done))
  refine .inr ⟨_, _, _, uG (QH.lendF (rd := [jT]) hG (.cons (.agg (.cons (.imm rfl) (.cons (.imm rfl) (.cons (.imm rfl) (.cons (.row rfl (.head _) rfl rfl (fun q hq => rfl)) (.cons (.imm rfl) .nil)))))) (.cons (.imm rfl) .nil)) (fun i hi => by rw [Zc2 hi]; rfl) rfl (fun j b e => by
    obtain ⟨rfl, rfl⟩ := lendOne j b e
    exact fun i hi => rfl)), ?_⟩
  conv => whnf
  (repeat' first
    | (refine fAV (x := Zbg s.stack (s.stack.length - 1)) (y := .rs jT 1 0 (topF s).regs.length) (Zbf h rfl) ?_; (conv => whnf))
    | (refine @And.intro (Zaa _ _ _ _) _ ?_ ?_; rotate_left; (conv => whnf); rotate_right)
    | (guard_target = And _ _; refine @And.intro (gOp _ _ _ _ _ _ _ _ _) _ (by (conv => whnf); first | exact ⟨rfl, rfl⟩ | (refine fAV (x := Zbg s.stack (s.stack.length - 1)) (y := .rs jT 1 0 (topF s).regs.length) (Zbf h rfl) ?_; (conv => whnf); exact ⟨rfl, rfl⟩)) ?_; conv => whnf)
    | (guard_target = And _ _; refine And.intro ?_ ?_ <;> (conv => whnf)))
  all_goals (try ((guard_target = Zaa _ _ _ _); refine Zae ?_; (all_goals (try simp only [Zaa, kzz, kz11, kz12, maxL, Zad] at *)); all_goals omega))
  all_goals (try (show AV.agg [_, _, _, Zbg s.stack (s.stack.length - 1), _] = AV.agg [_, _, _, .rs jT 1 0 (topF s).regs.length, _]; rw [Zbf h rfl]; done))
  skip
  refine ⟨_, srcT jE r0, rfl, ?_⟩
  rw [← and_assoc]
  refine ⟨leaveG (s := s) (g := { topF s with block := b.fin.to, at_ := 0 }) (n' := s.stack.length) h (by rw [hGo]) rfl (.inr (.inl rfl)) (.inl rfl) rfl ?_ rfl (Nat.le_refl _) (fun q hq => ?_) ?_ rfl (Zd6 _) rfl (Zbu _) (fun q hq => ?_), .tup .nil, fun i hi hp => keepT i (by rw [List.mem_singleton.1 hi]; exact .head _) hp⟩
  · exact Zeb (s := Zby s (goF b f)) (Zc4 (s := s) h).symm rfl rfl rfl rfl
  · exact Zcv (by omega)
  · exact Zdi
  · refine Ze0 (d := []) (u := oneR (topF s).regs) rfl rfl ?_
    exact Za1 hq
set_option maxHeartbeats 4000000 in
theorem c_mStep3 (m : Zag) (s : Mach) (f : Zav) (b : Zb2) (hf : topF s = f) (hbe : Zar m f = b) (h : 0 < s.stack.length) (h32 : s.stack.length ≤ 32) (hF : OkF m f) (he : endB m f = true) (hk : b.fin.kind = 3) (ha : 0 ≤ b.fin.a ∧ b.fin.a < f.regs.length) :
    HG Tryz.prog [jB] 64 (mem m s) [.bp jB 0] (.tup []) (mem m (Zby s (goF b f))) := by
  refine Za7 tok Tryz.func64 rfl (by decide +kernel) (Nat.le_of_ble_eq_true rfl) ?_
  have hmx : maxL = 4294967296 := rfl
  have hft : s.stack.getD (s.stack.length - 1) default = f := hf
  have hT := Zfj m s h (by omega)
  have hB := Zc8 m s (s.stack.length - 1) (by omega) (by rw [hft]; exact hF)
  rw [hft] at hB
  have hE : f.at_ = (Zar m f).ins.length := of_decide_eq_true he
  have a0 := hF.a0
  have a1 := hF.a1
  rw [hbe] at hB hE a1
  (repeat' ((fail_if_success (show AWp _ _ _ (Code.region 0 _ _) _ _)); refine Zac ?_))
  (repeat' (refine Zab tok (by rfl) ?_; conv => whnf))
  refine .inr ⟨_, _, _, uG (QH.tnM (by simp) (by simp) hT h32 (Zaz rfl rfl rfl rfl (fun _ => rfl)) rfl (fun q hq => Zao hq)), ?_⟩
  conv => whnf
  (repeat' ((fail_if_success (show AWp _ _ _ (Code.region 1 _ _) _ _)); refine Zac ?_))
  (repeat' (refine Zab tok (by rfl) ?_; conv => whnf))
  refine .inr ⟨_, _, _, uG (QH.tnM (by simp) (by simp) hB h32 (Zaz rfl rfl rfl rfl (fun _ => Zbm (fun hq => Zao (by omega)))) rfl (fun q hq => (Zbm (fun hq => Zao (by omega))).trans (Zao hq))), ?_⟩
  conv => whnf
  ((repeat' ((fail_if_success (show AWp _ _ _ (Code.region 3 _ _) _ _)); (fail_if_success (show AWp _ _ _ (Code.region 5 _ _) _ _)); first | refine Zac ?_ | (refine Zaq tok mix (by rfl) ?_; conv => whnf) | (refine Zah ?_; conv => whnf) | refine Zaf rfl (fun hb => ?_) (fun hb => ?_) | (refine @And.intro (Zaa _ _ _ _) _ ?_ ?_; rotate_left; (conv => whnf); rotate_right))); all_goals (try ((guard_target = Zaa _ _ _ _); refine Zae ?_; (all_goals (try simp only [Zaa, kzz, kz11, kz12, maxL, Zad] at *)); all_goals omega)))
  · exfalso
    rw [hft] at hb
    simp only [decide_eq_true_eq] at hb
    omega
  clear hb
  refine Zaw (weakW (m := m) (s := s) (L := [jB]) (tl := [(0, .bp jB 0), (2, .rp jF 5 (s.stack.length - 1) 0), (3, .bp (3, 0, 0) 0)]) (el := [((3, 0, 0), Za8 (Zbe b))]) ?_ ?_ (fun q hq => Zbc hq) (fun i hi _ => by rw [List.mem_singleton.1 hi]; exact ⟨rfl, rfl⟩)) ?_
  · exact .cons (.bp rfl rfl) (.cons (.rp rfl rfl rfl) (.cons (.bp rfl rfl) .nil))
  · exact .old rfl rfl (GB.one (GVs.imm rfl) (fun _ => rfl)) (Zcl rfl rfl rfl rfl (fun _ => rfl) rfl rfl rfl rfl rfl rfl rfl (fun q hq => Zco hq))
  have hle : s.stack.length - 1 < s.stack.length := by omega
  (repeat' ((fail_if_success (show AWp _ _ _ (Code.region 8 _ _) _ _)); (fail_if_success (show AWp _ _ _ (Code.region 9 _ _) _ _)); first | refine Zac ?_ | (refine Zab tok (by rfl) ?_; conv => whnf) | refine Zak ?_ | refine Zaf rfl (fun hb => ?_) (fun hb => ?_)))
  · exfalso; simp only [decide_eq_true_eq] at hb; omega
  clear hb
  (repeat' ((fail_if_success (show AWp _ _ _ (Code.region 10 _ _) _ _)); (fail_if_success (show AWp _ _ _ (Code.region 11 _ _) _ _)); first | refine Zac ?_ | (refine Zab tok (by rfl) ?_; conv => whnf) | refine Zaf rfl (fun hb => ?_) (fun hb => ?_)))
  · exfalso; simp only [decide_eq_true_eq] at hb; omega
  clear hb
  (repeat' ((fail_if_success (show AWp _ _ _ (Code.region 12 _ _) _ _)); (fail_if_success (show AWp _ _ _ (Code.region 16 _ _) _ _)); first | refine Zac ?_ | (refine Zab tok (by rfl) ?_; conv => whnf) | refine Zaf rfl (fun hb => ?_) (fun hb => ?_)))
  rotate_left
  · exfalso; simp only [decide_eq_false_iff_not] at hb; omega
  clear hb
  have haa : b.fin.a.toNat < (topF s).regs.length := by rw [hf]; omega
  ((repeat' first | refine Zac ?_ | (refine Zab tok (by rfl) ?_; conv => whnf) | (refine Zaq tok mix (by rfl) ?_; conv => whnf) | (refine @And.intro (Zaa _ _ _ _) _ ?_ ?_; rotate_left; (conv => whnf); rotate_right)); all_goals (try ((guard_target = Zaa _ _ _ _); refine Zae ?_; (all_goals (try simp only [Zaa, kzz, kz11, kz12, maxL, Zad] at *)); all_goals omega)))
  refine fAV (x := Zbg s.stack (s.stack.length - 1)) (y := .rs jT 1 0 (topF s).regs.length) (Zbf h rfl) ?_
  conv => whnf
  ((repeat' ((fail_if_success (show AWp _ _ _ (Code.region 14 _ _) _ _)); (fail_if_success (show AWp _ _ _ (Code.region 15 _ _) _ _)); first | (refine Zah ?_; conv => whnf) | refine Zaf rfl (fun hb => ?_) (fun hb => ?_) | (refine @And.intro (Zaa _ _ _ _) _ ?_ ?_; rotate_left; (conv => whnf); rotate_right))); all_goals (try ((guard_target = Zaa _ _ _ _); refine Zae ?_; (all_goals (try simp only [Zaa, kzz, kz11, kz12, maxL, Zad] at *)); all_goals omega)))
  · have hz : ¬ regA f b.fin.a = 0 := by
      unfold regA
      rw [Nat.zero_add, hf] at hb
      simpa using hb
    clear hb
    have hG := c_Go (topF s) b.fin.to
    have hGo : goF b f = { topF s with block := b.fin.to, at_ := 0 } := by unfold goF; rw [if_neg (fun e => hz e.2), hf]
    ((repeat' first | (refine Zab tok (by rfl) ?_; conv => whnf) | (refine @And.intro (Zaa _ _ _ _) _ ?_ ?_; rotate_left; (conv => whnf); rotate_right)); all_goals (try ((guard_target = Zaa _ _ _ _); refine Zae ?_; (all_goals (try simp only [Zaa, kzz, kz11, kz12, maxL, Zad] at *)); all_goals omega)))
    refine fAV (x := Zbg s.stack (s.stack.length - 1)) (y := .rs jT 1 0 (topF s).regs.length) (Zbf h rfl) ?_
    conv => whnf
    skip
    refine .inr ⟨_, _, _, uG (QH.lendF (rd := [jT]) hG (.cons (.agg (.cons (.imm rfl) (.cons (.imm rfl) (.cons (.imm rfl) (.cons (.row rfl (.head _) rfl rfl (fun q hq => rfl)) (.cons (.imm rfl) .nil)))))) (.cons (.imm rfl) .nil)) (fun i hi => by rw [Zc2 hi]; rfl) rfl (fun j b e => by
      obtain ⟨rfl, rfl⟩ := lendOne j b e
      exact fun i hi => rfl)), ?_⟩
    conv => whnf
    ((repeat' (refine @And.intro (Zaa _ _ _ _) _ ?_ ?_; rotate_left; (conv => whnf); rotate_right)); all_goals (try ((guard_target = Zaa _ _ _ _); refine Zae ?_; (all_goals (try simp only [Zaa, kzz, kz11, kz12, maxL, Zad] at *)); all_goals omega)))
    refine ⟨_, srcT jE r0, rfl, ?_⟩
    rw [← and_assoc]
    refine ⟨leaveG (s := s) (g := { topF s with block := b.fin.to, at_ := 0 }) (n' := s.stack.length) h (by rw [hGo]) rfl (.inr (.inl rfl)) (.inl rfl) rfl ?_ rfl (Nat.le_refl _) (fun q hq => ?_) ?_ rfl (Zd6 _) rfl (Zbu _) (fun q hq => ?_), .tup .nil, fun i hi hp => keepT i (by rw [List.mem_singleton.1 hi]; exact .head _) hp⟩
    · exact Zeb (s := Zby s (goF b f)) (Zc4 (s := s) h).symm rfl rfl rfl rfl
    · exact Zcv (by omega)
    · exact Zdi
    · refine Ze0 (d := []) (u := oneR (topF s).regs) rfl rfl ?_
      exact Za1 hq
  · have hz : regA f b.fin.a = 0 := by
      unfold regA
      rw [Nat.zero_add, hf] at hb
      simpa using hb
    clear hb
    have hG := c_Go (topF s) b.fin.els
    have hGo : goF b f = { topF s with block := b.fin.els, at_ := 0 } := by unfold goF; rw [if_pos ⟨hk, hz⟩, hf]
    ((repeat' first | (refine Zab tok (by rfl) ?_; conv => whnf) | (refine @And.intro (Zaa _ _ _ _) _ ?_ ?_; rotate_left; (conv => whnf); rotate_right)); all_goals (try ((guard_target = Zaa _ _ _ _); refine Zae ?_; (all_goals (try simp only [Zaa, kzz, kz11, kz12, maxL, Zad] at *)); all_goals omega)))
    refine fAV (x := Zbg s.stack (s.stack.length - 1)) (y := .rs jT 1 0 (topF s).regs.length) (Zbf h rfl) ?_
    conv => whnf
    skip
    refine .inr ⟨_, _, _, uG (QH.lendF (rd := [jT]) hG (.cons (.agg (.cons (.imm rfl) (.cons (.imm rfl) (.cons (.imm rfl) (.cons (.row rfl (.head _) rfl rfl (fun q hq => rfl)) (.cons (.imm rfl) .nil)))))) (.cons (.imm rfl) .nil)) (fun i hi => by rw [Zc2 hi]; rfl) rfl (fun j b e => by
      obtain ⟨rfl, rfl⟩ := lendOne j b e
      exact fun i hi => rfl)), ?_⟩
    conv => whnf
    ((repeat' (refine @And.intro (Zaa _ _ _ _) _ ?_ ?_; rotate_left; (conv => whnf); rotate_right)); all_goals (try ((guard_target = Zaa _ _ _ _); refine Zae ?_; (all_goals (try simp only [Zaa, kzz, kz11, kz12, maxL, Zad] at *)); all_goals omega)))
    refine ⟨_, srcT jE r0, rfl, ?_⟩
    rw [← and_assoc]
    refine ⟨leaveG (s := s) (g := { topF s with block := b.fin.els, at_ := 0 }) (n' := s.stack.length) h (by rw [hGo]) rfl (.inr (.inl rfl)) (.inl rfl) rfl ?_ rfl (Nat.le_refl _) (fun q hq => ?_) ?_ rfl (Zd6 _) rfl (Zbu _) (fun q hq => ?_), .tup .nil, fun i hi hp => keepT i (by rw [List.mem_singleton.1 hi]; exact .head _) hp⟩
    · exact Zeb (s := Zby s (goF b f)) (Zc4 (s := s) h).symm rfl rfl rfl rfl
    · exact Zcv (by omega)
    · exact Zdi
    · refine Ze0 (d := []) (u := oneR (topF s).regs) rfl rfl ?_
      exact Za1 hq
end Go.Proofs.YtoelbgjpmpoolaaGreat
namespace Go.Proofs.YtoelbgjpmpoolaaGreat
open Go Dv
set_option maxRecDepth 10000
set_option linter.unusedSimpArgs false
theorem withM_two {s : Mach} {f g : Zav} (h : 0 < s.stack.length) : Zby (Zby s f) g = Zby s g := by
  unfold Zby
  simp only [List.length_append, List.length_take, List.length_singleton]
  congr 2
  rw [List.take_append, List.take_take, List.length_take]
  have e1 : min (s.stack.length - 1) s.stack.length = s.stack.length - 1 := by omega
  rw [e1]
  have e2 : s.stack.length - 1 + 1 - 1 - (s.stack.length - 1) = 0 := by omega
  rw [e2]
  have e3 : min (s.stack.length - 1 + 1 - 1) (s.stack.length - 1) = s.stack.length - 1 := by omega
  rw [e3]; simp
theorem top_withM {s : Mach} {f : Zav} (h : 0 < s.stack.length) : topF (Zby s f) = f := by
  unfold topF; rw [with_len h]; exact with_top h
abbrev HGstep (m : Zag) (s s1 : Mach) : Prop := HG Tryz.prog [jB] 64 (mem m s) [.bp jB 0] (.tup []) (mem m s1)
theorem c_mStepI {m : Zag} {s : Mach} (hr : Zbd m = true) (h : OkM m s) (hp : 0 < s.stack.length) (hev : s.events.length < 1000000) (he : endB m (topF s) = false) : HGstep m s (insM m s (topF s) (Zbk m (topF s))) := by
  have hF := h.fr _ (top_mem hp)
  have hI := (okF_ins hr hF he).2
  have h64 := (okF_end hr hF).1
  have a0 := hF.a0
  have a1 := hF.a1
  have hR := hF.regs
  have hl := h.len
  have no8 : ∀ n, 8 < n → (Zbk m (topF s)).op = n → ¬ (Zbk m (topF s)).op ≤ 8 := fun n _ e => by omega
  have r8 : ∀ (h1 : 1 ≤ (Zbk m (topF s)).op) (h8 : (Zbk m (topF s)).op ≤ 8) (hd : 0 ≤ (Zbk m (topF s)).dst ∧ (Zbk m (topF s)).dst < (topF s).regs.length) (ha : 1 < (Zbk m (topF s)).op → 0 ≤ (Zbk m (topF s)).a ∧ (Zbk m (topF s)).a < (topF s).regs.length) (hb' : 2 < (Zbk m (topF s)).op → 0 ≤ (Zbk m (topF s)).b ∧ (Zbk m (topF s)).b < (topF s).regs.length), HGstep m s (insM m s (topF s) (Zbk m (topF s))) := fun h1 h8 hd ha hb' =>
    c_mStepF m s _ (topF s) rfl hp hl hF he (c_mIns8 m s (topF s) (Zbk m (topF s)) rfl hp hl a0 (by omega) h1 h8 hd ha hb')
  have run : ∀ s1 g, s1.stack.length = s.stack.length → HG Tryz.prog LW 113 (mem m s) [.bp jB 0, .rp jF 5 (s.stack.length - 1) 0, .agg (Zbh (Zbk m (topF s)))] (.bool true) (mem m s1) → topF s1 = g → g.at_ = (topF s).at_ → HGstep m s (Zby s1 (goOn g)) := fun s1 g e hc e2 e3 => by
    subst e2
    exact c_mStepT m s s1 (topF s) rfl hp hl hF he e (by omega) (by omega) hc
  rcases hI with h1 | h1 | h1 | h1 | h1 | h1 | h1
  · have hd := (Zad _ _).1 h1.2.1
    exact r8 (by omega) (by omega) (by rw [hR]; exact hd) (fun h => by omega) (fun h => by omega)
  · have hd := (Zad _ _).1 h1.2.1
    have ha := (Zad _ _).1 h1.2.2.1
    rcases h1.1 with ho | ho
    · exact r8 (by omega) (by omega) (by rw [hR]; exact hd) (fun h => by rw [hR]; exact ha) (fun h => by omega)
    · have hM : insM m s (topF s) (Zbk m (topF s)) = if 16 ≤ (topF s).regs.getD (Zbk m (topF s)).a.toNat 0 then endM s 4 0 else Zby s (goOn (frW (topF s) (Zbk m (topF s)).dst (s.cells.getD (cellN (topF s) (Zbk m (topF s))) 0))) := by
        unfold insM; rw [if_neg (by omega), if_neg (by omega), if_pos ho]
      rw [hM]
      split
      · rename_i h16
        exact c_mStepF m s _ (topF s) rfl hp hl hF he (c_mIns9n m s (Zbk m (topF s)) ho hp hl (by rw [hR]; exact ha) h16)
      · rename_i h16
        have := run _ _ (with_len hp) (c_mIns9y m s (Zbk m (topF s)) _ ho hp hl (by rw [hR]; exact ha) (by rw [hR]; exact hd) (by omega) rfl) (top_withM hp) rfl
        rw [withM_two hp] at this
        exact this
  · have hd := (Zad _ _).1 h1.2.1
    have ha := (Zad _ _).1 h1.2.2.1
    have hb := (Zad _ _).1 h1.2.2.2.1
    exact r8 (by omega) (by omega) (by rw [hR]; exact hd) (fun h => by rw [hR]; exact ha) (fun h => by rw [hR]; exact hb)
  · have ho := h1.1
    have ha := (Zad _ _).1 h1.2.2.1
    have hb := (Zad _ _).1 h1.2.2.2.1
    have hM : insM m s (topF s) (Zbk m (topF s)) = if 16 ≤ (topF s).regs.getD (Zbk m (topF s)).a.toNat 0 then endM s 4 0 else Zby (stM s (cellN (topF s) (Zbk m (topF s))) ((topF s).regs.getD (Zbk m (topF s)).b.toNat 0)) (goOn (topF s)) := by
      unfold insM; rw [if_neg (by omega), if_neg (by omega), if_neg (by omega), if_pos ho]; rfl
    rw [hM]
    split
    · rename_i h16
      exact c_mStepF m s _ (topF s) rfl hp hl hF he (c_mIns10n m s (Zbk m (topF s)) ho hp hl (by rw [hR]; exact ha) h16)
    · rename_i h16
      exact run _ _ rfl (c_mIns10y m s (Zbk m (topF s)) _ ho hp hl (by rw [hR]; exact ha) (by rw [hR]; exact hb) h.cells (by omega) rfl) rfl rfl
  · have hA := argsB_n h1.2.2.2.2.2
    have hM : insM m s (topF s) (Zbk m (topF s)) = Zb5 m s (Zbk m (topF s)).f (Zbk m (topF s)).args := by unfold insM; rw [if_pos h1.1]
    rw [hM]
    exact c_mStepC m s _ (topF s) rfl hp hl hF he (c_mIns11 m s (Zbk m (topF s)) _ h1.1 hl (c_mCall m s _ _ hr hp hl hA.1.1 hA.1.2 hA.2.1 (fun p hp' => by rw [hR]; exact hA.2.2 p hp')))
  · have ho := h1.1
    have ha := (Zad _ _).1 h1.2.2.1
    have hM : insM m s (topF s) (Zbk m (topF s)) = Zby (evM s ((topF s).regs.getD (Zbk m (topF s)).a.toNat 0)) (goOn (topF s)) := by
      unfold insM; rw [if_neg (by omega), if_neg (by omega), if_neg (by omega), if_neg (by omega), if_pos ho]; rfl
    rw [hM]
    exact run _ _ rfl (c_mIns12 m s (Zbk m (topF s)) ho hp (by rw [hR]; exact ha) hev) rfl rfl
  · have ho := h1.1
    have hd := (Zad _ _).1 h1.2.1
    have hM : insM m s (topF s) (Zbk m (topF s)) = if s.inputs.length = 0 then endM s 6 0 else Zby (inM s) (goOn (frW (topF s) (Zbk m (topF s)).dst (s.inputs.getD 0 0))) := by
      unfold insM; rw [if_neg (by omega), if_neg (by omega), if_neg (by omega), if_neg (by omega), if_neg (by omega), if_pos ho]; rfl
    rw [hM]
    split
    · rename_i hz
      exact c_mStepF m s _ (topF s) rfl hp hl hF he (c_mIns13a m s (Zbk m (topF s)) ho hl hz)
    · rename_i hz
      have := run _ _ (with_len (s := inM s) hp) (c_mIns13b m s (Zbk m (topF s)) ho hp hz h.inp.2 (by rw [hR]; exact hd) hev) (top_withM (s := inM s) hp) rfl
      rw [withM_two (s := inM s) hp] at this
      exact this
theorem c_mStepOk {m : Zag} {s : Mach} (hr : Zbd m = true) (h : OkM m s) (hev : s.events.length < 1000000) (hd : s.done = 0) : HGstep m s (Zb8 m s) := by
  have hp := h.pos hd
  have hF := h.fr _ (top_mem hp)
  have hE := (okF_end hr hF).2
  have hl := h.len
  have hR := hF.regs
  rw [show Zb8 m s = stepE m s (topF s) (Zar m (topF s)) from if_pos hd]
  unfold stepE
  cases he : endB m (topF s) with
  | false => rw [if_pos rfl]; exact c_mStepI hr h hp hev he
  | true =>
    rw [if_neg (by decide)]
    have hT : ∀ w, HG Tryz.prog LW 117 (mem m s) [.bp jB 0, .int .u16 w] (.tup []) (mem m (Zbq m s w)) := fun w => c_mThr m s w hr hp hl (fun i hi => h.fr _ (Zcb _ hi))
    have hA : ∀ w, HG Tryz.prog LW 114 (mem m s) [.bp jB 0, .int .u16 w] (.tup []) (mem m (Zbt m s w)) := fun w => by
      refine c_mAns m s w hp hl (fun h2 => (pop_top h h2).1) (fun h2 => ?_) (fun h2 he => ?_) (fun h2 he => ?_)
      · have hF := (pop_top h h2).1
        have := (okF_end hr hF).1
        have := hF.a1
        omega
      · exact ((callF_dst hr (pop_top h h2).1 (pop_top h h2).2).1 he).1
      · exact (callF_dst hr (pop_top h h2).1 (pop_top h h2).2).2 he
    have k1 := c_mStep1 m s (topF s) _ rfl rfl hp hl hF he
    have k2 := c_mStep2 m s (topF s) _ rfl rfl hp hl hF he
    have k3 := c_mStep3 m s (topF s) _ rfl rfl hp hl hF he
    have k4 := c_mStep4 m s (topF s) _ rfl rfl hp hl hF he
    have k5 := c_mStep5 m s (topF s) _ rfl rfl hp hl hF he
    have k6 := c_mStep6 m s (topF s) _ rfl rfl hp hl hF he
    rcases hE with e | e | e | e | e
    · rcases e.1 with e1 | e1
      · rw [if_pos e1]; exact k1 e1 (by rw [hR]; exact (Zad _ _).1 e.2.1) (hA _)
      · rw [if_neg (by omega), if_neg (by omega), if_pos e1]; exact k5 e1 (by rw [hR]; exact (Zad _ _).1 e.2.1) (hT _)
    · rw [if_neg (by omega), if_neg (by omega), if_neg (by omega), if_neg (by omega)]; exact k2 e.1
    · rw [if_neg (by omega), if_neg (by omega), if_neg (by omega), if_neg (by omega)]; exact k3 e.1 (by rw [hR]; exact (Zad _ _).1 e.2.1)
    · have hA := argsB_n e.2.2.2.1
      rw [if_neg (by omega), if_pos e.1]; exact k4 e.1 (c_mCall m s _ _ hr hp hl hA.1.1 hA.1.2 hA.2.1 (fun p hp' => by rw [hR]; exact hA.2.2 p hp'))
    · rw [if_neg (by omega), if_neg (by omega), if_neg (by omega), if_pos e.1]; exact k6 e.1 (hT _)
end Go.Proofs.YtoelbgjpmpoolaaGreat
namespace Go.Proofs.YtoelbgjpmpoolaaGreat
open Go Dv
set_option maxRecDepth 10000
set_option linter.unusedSimpArgs false
def newC (F : Dv.Id) (inputs : List Int) : List AV := [.rs F 5 0 1, .int .u16 0, .int .u16 0, .int .u16 0, .int .u16 0, .int .u16 0, .int .u16 0, .int .u16 0, .int .u16 0, .int .u16 0, .int .u16 0, .int .u16 0, .int .u16 0, .int .u16 0, .int .u16 0, .int .u16 0, .int .u16 0, u16s inputs, .nsl, iv 0, .int .u16 0]
def newL (m : Zag) (inputs : List Int) : List (Dv.Id × Zam) := [(jN, Zcz (newM m inputs).stack), (jT, regB (frN m 0 []).regs)]
set_option maxHeartbeats 4000000 in
theorem c_mNew (m : Zag) (inputs : List Int) (hr : Zbd m = true) : HF Tryz.prog 31 [.agg (Zba m), u16s inputs] (.tup [.agg (newC jN inputs), iv 0]) (orH (Zax (newL m inputs)) noH) := by
  refine Zf4 tok Tryz.func31 rfl (by decide +kernel) (Nat.le_of_ble_eq_true rfl) ?_
  have hmx : maxL = 4294967296 := rfl
  have h0 := right0 hr
  have hN := c_fNew m 0 [] hr (by omega) (by omega) (by simp only [List.length_nil]; exact h0.2.symm)
  refine Za0 1 (fun hl => ?_)
  have hl0 : inputs.length ≤ maxL := hl.1
  clear hl
  (repeat' first | refine Zac ?_ | (refine Zab tok (by rfl) ?_; conv => whnf))
  refine .inr ⟨_, _, _, uG (QH.lendF (rd := []) hN (.cons (.imm rfl) (.cons (.imm rfl) (.cons .nsl .nil))) (fun i hi => by rw [Zc2 hi]; rfl) rfl (fun j b e => by
    obtain ⟨rfl, rfl⟩ := lendOne j b e
    exact fun i hi => rfl)), ?_⟩
  conv => whnf
  (repeat' ((fail_if_success (show AWp _ _ _ (Code.region 3 _ _) _ _)); (fail_if_success (show AWp _ _ _ (Code.region 4 _ _) _ _)); first | refine Zac ?_ | (refine Zab tok (by rfl) ?_; conv => whnf) | (refine Zah ?_; conv => whnf) | refine Zaf rfl (fun hb => ?_) (fun hb => ?_)))
  · exfalso; cases hb
  clear hb
  refine Zdz tok mix (by rfl) [0, 2] 30 (by rfl) (by rfl) (by rfl) ?_
  conv => whnf
  (repeat' first
    | (refine @And.intro (Zaa _ _ _ _) _ ?_ ?_; rotate_left; (conv => whnf); rotate_right)
    | (guard_target = And _ _; refine @And.intro (gOp _ _ _ _ _ _ _ _ _) _ (by (conv => whnf); exact ⟨rfl, rfl⟩) ?_; conv => whnf)
    | (guard_target = And _ _; refine And.intro ?_ ?_ <;> (conv => whnf))
    | (refine .inl ⟨_, _, _, uG (QC.fo (rd := []) (Zf2 inputs) (Ress.imms rfl) (.inl rfl) rfl), ?_⟩; (conv => whnf)))
  all_goals (try ((guard_target = Zaa _ _ _ _); skip; all_goals omega))
  all_goals
    (repeat' (refine Zaj ?_; conv => whnf))
    refine ⟨_, srcL [(jN, some (18, 0, 0)), (jT, some r0)], rfl, ?_⟩
    rw [← and_assoc]
    refine ⟨leaveR [(jN, some (18, 0, 0)), (jT, some r0)] rfl (fun c hc => ?_) (.old rfl rfl (GB.row (Nat.le_refl _) (fun q hq => ?_) (fun e => by cases e)) (.old rfl rfl (Zbu _) .nil)) (fun j b e => by cases e), .tup (.cons (.agg (.cons (.rs rfl rfl rfl rfl) (.cons (.imm rfl) (.cons (.imm rfl) (.cons (.imm rfl) (.cons (.imm rfl) (.cons (.imm rfl) (.cons (.imm rfl) (.cons (.imm rfl) (.cons (.imm rfl) (.cons (.imm rfl) (.cons (.imm rfl) (.cons (.imm rfl) (.cons (.imm rfl) (.cons (.imm rfl) (.cons (.imm rfl) (.cons (.imm rfl) (.cons (.imm rfl) (.cons (GV.frz (fun j hj e => ?_) rfl (by omega) rfl (fun x hx => by rw [Nat.zero_add]; exact .cons (.imm rfl) .nil) (fun x hx => rfl)) (.cons (.imm rfl) (.cons (.imm rfl) (.cons (.imm rfl) .nil)))))))))))))))))))))) (.cons (.imm rfl) .nil))⟩
    · rcases List.mem_cons.1 (show c ∈ [(18, 0, 0), r0] from hc) with rfl | hc
      · exact .inl rfl
      · rw [List.mem_singleton.1 hc]; exact .inl rfl
    · have hq0 : q = 0 := by have : q < 1 := hq; omega
      subst hq0
      exact .cons (.imm rfl) (.cons (.imm rfl) (.cons (.imm rfl) (.cons (.cc rfl rfl (.rs rfl rfl rfl rfl)) (.cons (.imm rfl) .nil))))
    · cases e1 : idEq jN j with
      | true => rw [← Zay.1 e1] at e; cases e
      | false =>
        cases e2 : idEq jT j with
        | true => rw [← Zay.1 e2] at e; cases e
        | false =>
          have hj' : (orH (Zax (newL m inputs)) noH j).isSome = true := hj
          unfold orH newL at hj'
          simp only [Zax, e1, e2, cond_false, noH] at hj'
          cases hj'
end Go.Proofs.YtoelbgjpmpoolaaGreat
namespace Go.Proofs.YtoelbgjpmpoolaaGreat
open Go Dv
set_option maxRecDepth 10000
set_option linter.unusedSimpArgs false
theorem c_CloneFrames (l : List Zav) : FO Tryz.prog 78 [frs l] 5 l.length (fun i => Zb1 (l.getD i default)) := by
  refine Zdy tok Tryz.func78 rfl (by decide +kernel) (Nat.le_of_ble_eq_true rfl) ?_
  refine Za0 0 (fun hl => ?_)
  have hl0 : l.length ≤ maxL := hl.1
  ((repeat' first | refine Zac ?_ | (refine Zab tok (by rfl) ?_; conv => whnf) | (refine Zah ?_; conv => whnf) | (refine Zaj ?_; conv => whnf) | refine Zaf rfl (fun hb => ?_) (fun hb => ?_) | (refine @And.intro (Zaa _ _ _ _) _ ?_ ?_; rotate_left; (conv => whnf); rotate_right) | (refine fun (bn : Bool) (hbn : (0 < _ → bn = _)) => ?_; conv => whnf)); all_goals (try ((guard_target = Zaa _ _ _ _); refine Zae ?_; (first | refine And.intro srcObl_sl ?_ | skip); (all_goals (try simp only [Zaa, kzz, kz11, kz12, maxL, Zad] at *)); all_goals omega)))
  · refine ⟨_, rfl, RelO.nsl' ?_⟩
    rcases Nat.eq_zero_or_pos l.length with h | h
    · exact h
    · rw [hbn h] at hb; cases hb
  · refine ⟨_, rfl, RelO.rs rfl (Nat.le_refl _) (by simp) (fun i hi => ?_)⟩
    show appR 0 (rowOf 5 []) (fun i => Zb1 (l.getD i default)) i = _
    exact appR_zero
def famG (l : List Zav) (k : Nat) : Zan := famC 945 (fun z q => bif Nat.beq z 0 && Nat.blt q k then some (regB (l.getD q default).regs) else none)
theorem famG_some {l : List Zav} {k : Nat} {j : Dv.Id} {b : Zam} (h : famG l k j = some b) : ∃ q, j = (945, 0, q) ∧ q < k ∧ b = regB (l.getD q default).regs := by
  obtain ⟨z, q, rfl, h3⟩ := famC_some h
  cases e : (Nat.beq z 0 && Nat.blt q k) with
  | false => rw [e] at h3; cases h3
  | true =>
    rw [e] at h3
    rw [Bool.and_eq_true, Nat.blt_eq] at e
    have hz : z = 0 := Nat.eq_of_beq_eq_true e.1
    subst hz
    exact ⟨q, rfl, e.2, (Option.some.inj h3).symm⟩
theorem famG_at {l : List Zav} {k q : Nat} (h : q < k) : famG l k (945, 0, q) = some (regB (l.getD q default).regs) := by
  show (bif Nat.beq 0 0 && Nat.blt q k then some (regB (l.getD q default).regs) else none) = _
  rw [show (Nat.beq 0 0 && Nat.blt q k) = true from by rw [Bool.and_eq_true, Nat.blt_eq]; exact ⟨rfl, h⟩]; rfl
def cpR (l : List Zav) (i q : Nat) : AV := sel (Nat.blt q i) (.rs (945, 0, q) 1 0 (l.getD q default).regs.length) (u16s (l.getD q default).regs)
def cpF (l : List Zav) (i q : Nat) : List AV := [iv (l.getD q default).f, iv (l.getD q default).block, iv (l.getD q default).at_, cpR l i q, .int .u16 (l.getD q default).fly]
def rowCp (l : List Zav) (i : Nat) : Zam := .row false 5 l.length (cpF l i)
def cpB (F E : Dv.Id) (s : Mach) : List AV := [.rs F 5 0 s.stack.length, cw s.cells 0, cw s.cells 1, cw s.cells 2, cw s.cells 3, cw s.cells 4, cw s.cells 5, cw s.cells 6, cw s.cells 7, cw s.cells 8, cw s.cells 9, cw s.cells 10, cw s.cells 11, cw s.cells 12, cw s.cells 13, cw s.cells 14, cw s.cells 15, u16s s.inputs, .rs E 1 0 s.events.length, iv s.done, .int .u16 s.value]
def cpH (s : Mach) : Zan := orH (Zax [(jN, rowCp s.stack s.stack.length), (jE, evB s.events)]) (famG s.stack s.stack.length)
theorem GVs_cpB {src : Dv.Id → Option Dv.Id} {h h' : Zan} {F F' E E' : Dv.Id} {s : Mach} (h1 : GV src h h' (.rs F 5 0 s.stack.length) (.rs F' 5 0 s.stack.length)) (h2 : GV src h h' (.rs E 1 0 s.events.length) (.rs E' 1 0 s.events.length)) : GVs src h h' (cpB F E s) (cpB F' E' s) :=
  .cons h1 (.cons (.imm rfl) (.cons (.imm rfl) (.cons (.imm rfl) (.cons (.imm rfl) (.cons (.imm rfl) (.cons (.imm rfl) (.cons (.imm rfl) (.cons (.imm rfl) (.cons (.imm rfl) (.cons (.imm rfl) (.cons (.imm rfl) (.cons (.imm rfl) (.cons (.imm rfl) (.cons (.imm rfl) (.cons (.imm rfl) (.cons (.imm rfl) (.cons (.imm rfl) (.cons h2 (.cons (.imm rfl) (.cons (.imm rfl) .nil))))))))))))))))))))
theorem srcG_eq {k k' : Nat} {o : Option Dv.Id} : srcL [((945, k', k), o)] (945, k', k) = o := by
  show (bif idEq (945, k', k) (945, k', k) then _ else _) = _
  rw [Zay.2 rfl]; rfl
theorem srcG_ne {k q : Nat} {o : Option Dv.Id} (h : q ≠ k) : srcL [((945, 0, k), o)] (945, 0, q) = some (945, 0, q) := by
  show (bif idEq (945, 0, k) (945, 0, q) then _ else _) = _
  rw [Zbp.2 (fun e => h (congrArg (fun x => x.2.2) e).symm)]; rfl
set_option maxHeartbeats 4000000 in
theorem c_mCopyH (s : Mach) : HF Tryz.prog 43 [.agg (Zbw s)] (.agg (cpB jN jE s)) (cpH s) := by
  refine Zf4 tok Tryz.func43 rfl (by decide +kernel) (Nat.le_of_ble_eq_true rfl) ?_
  refine Za0 0 (fun hl => ?_)
  have hl0 : s.stack.length ≤ maxL := hl.1.1
  have hmx : maxL = 4294967296 := rfl
  clear hl
  (repeat' ((fail_if_success (show AWp _ _ _ (Code.region 1 _ _) _ _)); first | refine Zac ?_ | (refine Zab tok (by rfl) ?_; conv => whnf)))
  refine Zdz tok mix (by rfl) [0, 1, 3, 4, 6, 7, 9, 11, 13] 40 (by rfl) (by rfl) (by rfl) ?_
  conv => whnf
  (repeat' first
    | (refine @And.intro (Zaa _ _ _ _) _ ?_ ?_; rotate_left; (conv => whnf); rotate_right)
    | (guard_target = And _ _; refine @And.intro (gOp _ _ _ _ _ _ _ _ _) _ (by (conv => whnf); exact ⟨rfl, rfl⟩) ?_; conv => whnf)
    | (guard_target = And _ _; refine And.intro ?_ ?_ <;> (conv => whnf))
    | (refine .inl ⟨_, _, _, uG (QC.fo (rd := []) (c_CloneFrames s.stack) (Ress.imms rfl) (.inl rfl) rfl), ?_⟩; (conv => whnf))
    | (refine .inl ⟨_, _, _, uG (QC.fo (rd := []) (Zf2 s.inputs) (Ress.imms rfl) (.inl rfl) rfl), ?_⟩; (conv => whnf))
    | (refine .inl ⟨_, _, _, uG (QC.fo (rd := []) (c_CloneInts s.events) (Ress.imms rfl) (.inl rfl) rfl), ?_⟩; (conv => whnf)))
  all_goals (try ((guard_target = Zaa _ _ _ _); skip; all_goals omega))
  (repeat' ((fail_if_success (show AWp _ _ _ (Code.region 3 _ _) _ _)); first | refine Zac ?_ | (refine Zab tok (by rfl) ?_; conv => whnf) | refine Zak ?_))
  refine Za3 (fun k : Nat => mkF [(1, .bp (1, 0, 0) 0), (2, .bp (2, 0, 0) 0), (18, iv s.stack.length), (19, iv k)] [((1, 0, 0), .row false 21 1 (fun _ => cpB (6, 0, 0) (12, 0, 0) s)), ((2, 0, 0), Za8 zMach), ((6, 0, 0), rowCp s.stack k), ((12, 0, 0), evB s.events)] (famG s.stack k)) (fun k => k ≤ s.stack.length) (fun k => s.stack.length - k) 0 (Nat.zero_le _) ?_ ?_
  · refine Weak.fam [] rfl (fun i hi => by cases hi) ?_ ?_ (fun j b e => by obtain ⟨q, _, h, _⟩ := famG_some e; omega) (fun i hi => by cases hi)
    · (repeat' first | exact TLg.nil | refine TLg.cons (GV.imm rfl) ?_ | refine TLg.cons (GV.bp rfl rfl) ?_)
      all_goals rfl
    · refine .old rfl rfl (GB.one ?_ (fun e => by cases e)) (.old rfl rfl (GB.one (GVs.imm rfl) (fun _ => rfl)) (.old rfl rfl (GB.row (Nat.le_refl _) (fun q hq => ?_) (fun e => by cases e)) (.old rfl rfl (Zd6 _) .nil)))
      · refine .cons (.rs rfl rfl rfl rfl) (.cons (.imm rfl) (.cons (.imm rfl) (.cons (.imm rfl) (.cons (.imm rfl) (.cons (.imm rfl) (.cons (.imm rfl) (.cons (.imm rfl) (.cons (.imm rfl) (.cons (.imm rfl) (.cons (.imm rfl) (.cons (.imm rfl) (.cons (.imm rfl) (.cons (.imm rfl) (.cons (.imm rfl) (.cons (.imm rfl) (.cons (.imm rfl) (.cons (GV.frz (fun j hj e => ?_) rfl (by omega) rfl (fun x hx => by rw [Nat.zero_add x]; exact .cons (.imm rfl) .nil) (fun x hx => rfl)) (.cons (.rs rfl rfl rfl rfl) (.cons (.imm rfl) (.cons (.imm rfl) .nil))))))))))))))))))))
        have e' : j = (9, 0, 0) := Option.some.inj e
        subst e'
        cases hj
      · exact .cons (.imm rfl) (.cons (.imm rfl) (.cons (.imm rfl) (.cons (.cc rfl (Zdd (Nat.zero_le _)) (.imm rfl)) (.cons (.imm rfl) .nil))))
  intro k hk
  (repeat' ((fail_if_success (show AWp _ _ _ (Code.region 5 _ _) _ _)); (fail_if_success (show AWp _ _ _ (Code.region 7 _ _) _ _)); first | refine Zac ?_ | (refine Zab tok (by rfl) ?_; conv => whnf) | refine Zak ?_ | (refine Zah ?_; conv => whnf) | (refine Za5 ?_; conv => whnf) | refine Zaf rfl (fun hb => ?_) (fun hb => ?_)))
  · have hkl : k < s.stack.length := by simp only [decide_eq_true_eq] at hb; omega
    clear hb
    have hsel : cpR s.stack k (0 + k) = u16s (s.stack.getD k default).regs := by rw [Nat.zero_add]; exact Zdd (Nat.le_refl _)
    refine Zdz tok mix (by rfl) [0, 1, 2, 3, 4, 5, 6, 7, 10, 11] 30 (by rfl) (by rfl) (by rfl) ?_
    conv => whnf
    (repeat' first
      | (refine fAV (x := cpR s.stack k (0 + k)) (y := u16s (s.stack.getD k default).regs) hsel ?_; (conv => whnf))
      | (refine @And.intro (Zaa _ _ _ _) _ ?_ ?_; rotate_left; (conv => whnf); rotate_right)
      | (guard_target = And _ _; refine @And.intro (gOp _ _ _ _ _ _ _ _ _) _ (by (conv => whnf); first | exact ⟨rfl, rfl⟩ | (refine fAV (x := cpR s.stack k (0 + k)) (y := u16s (s.stack.getD k default).regs) hsel ?_; (conv => whnf); exact ⟨rfl, rfl⟩)) ?_; conv => whnf)
      | (guard_target = And _ _; refine And.intro ?_ ?_ <;> (conv => whnf))
      | (refine .inl ⟨_, _, _, uG (QC.fo (rd := []) (Zf2 (s.stack.getD k default).regs) (Ress.imms rfl) (.inl rfl) rfl), ?_⟩; (conv => whnf)))
    all_goals (try rfl)
    all_goals (try ((guard_target = Zaa _ _ _ _); refine Zae ?_; (all_goals (try simp only [Zaa, kzz, kz11, kz12, maxL, Zad] at *)); all_goals omega))
    (repeat' (refine Zab tok (by rfl) ?_; conv => whnf))
    refine ⟨k + 1, hkl, by omega, ?_⟩
    refine Weak.fam [((945, 0, k), some (31, 0, 0))] rfl (fun c hc => by simp only [tgts, List.mem_singleton] at hc; subst hc; exact .inl rfl) ?_ ?_ (fun j b e => ?_) (fun i hi => by cases hi)
    · (repeat' first | exact TLg.nil | refine TLg.cons (GV.imm rfl) ?_ | refine TLg.cons (GV.bp rfl rfl) ?_ | refine TLg.cons (GV.int ?_) ?_)
      all_goals first | rfl | (simp (disch := omega) only [Zal]; omega)
    · refine .old rfl rfl (GB.one (GVs_cpB (.rs rfl rfl rfl rfl) (.rs rfl rfl rfl rfl)) (fun e => by cases e)) (.old rfl rfl (GB.one (GVs.imm rfl) (fun _ => rfl)) (.old rfl rfl (GB.row (Nat.le_refl _) (fun q hq => ?_) (fun e => by cases e)) (.old rfl rfl (Zd6 _) .nil)))
      show GVs _ _ _ (updR (cpF s.stack k) (0 + k) [iv (s.stack.getD (0 + k) default).f, iv (s.stack.getD (0 + k) default).block, iv (s.stack.getD (0 + k) default).at_, .rs (31, 0, 0) 1 0 (s.stack.getD k default).regs.length, .int .u16 (s.stack.getD (0 + k) default).fly] q) (cpF s.stack (k + 1) q)
      rw [Nat.zero_add k]
      by_cases e : q = k
      · subst e
        rw [Zdi]
        exact .cons (.imm rfl) (.cons (.imm rfl) (.cons (.imm rfl) (.cons (.cc rfl (Zcd (Nat.lt_succ_self _)) (.rs (famG_at (Nat.lt_succ_self _)) srcG_eq rfl rfl)) (.cons (.imm rfl) .nil))))
      · rw [Zcv (Ne.symm e)]
        refine .cons (.imm rfl) (.cons (.imm rfl) (.cons (.imm rfl) (.cons ?_ (.cons (.imm rfl) .nil))))
        by_cases e2 : q < k
        · exact .cc (Zcd e2) (Zcd (Nat.lt_succ_of_lt e2)) (.rs (famG_at (Nat.lt_succ_of_lt e2)) (srcG_ne e) rfl rfl)
        · exact .cc (Zdd (by omega)) (Zdd (by omega)) (.imm rfl)
    · obtain ⟨q, rfl, hq, rfl⟩ := famG_some e
      by_cases e : q = k
      · subst e
        exact HOk.mk srcG_eq rfl (Zbu _)
      · exact HOk.mk (srcG_ne e) (show famG s.stack k (945, 0, q) = _ from famG_at (by omega)) (Zbu _)
  · have hkl : k = s.stack.length := by simp only [decide_eq_false_iff_not] at hb; omega
    clear hb
    subst hkl
    (repeat' first | (refine Zab tok (by rfl) ?_; conv => whnf) | (refine Zaj ?_; conv => whnf))
    refine ⟨_, srcL [(jN, some (6, 0, 0)), (jE, some (12, 0, 0))], rfl, ?_⟩
    rw [← and_assoc]
    refine ⟨leaveR [(jN, some (6, 0, 0)), (jE, some (12, 0, 0))] rfl (fun c hc => ?_) (.old rfl rfl (GB.row (Nat.le_refl _) (fun q hq => ?_) (fun e => by cases e)) (.old rfl rfl (Zd6 _) .nil)) (fun j b e => ?_), .agg (GVs_cpB (.rs rfl rfl rfl rfl) (.rs rfl rfl rfl rfl))⟩
    · rcases List.mem_cons.1 (show c ∈ [(6, 0, 0), (12, 0, 0)] from hc) with rfl | hc
      · exact .inl rfl
      · rw [List.mem_singleton.1 hc]; exact .inl rfl
    · exact .cons (.imm rfl) (.cons (.imm rfl) (.cons (.imm rfl) (.cons (.cc (Zcd hq) (Zcd hq) (.rs (famG_at hq) rfl rfl rfl)) (.cons (.imm rfl) .nil))))
    · obtain ⟨q, rfl, hq, rfl⟩ := famG_some e
      exact HOk.mk rfl (show famG s.stack s.stack.length (945, 0, q) = _ from famG_at hq) (Zbu _)
end Go.Proofs.YtoelbgjpmpoolaaGreat
namespace Go.Proofs.YtoelbgjpmpoolaaGreat
open Go Dv
set_option maxRecDepth 10000
set_option linter.unusedSimpArgs false
abbrev noH0 : Zan := fun _ => none
theorem GV.rel {src : Dv.Id → Option Dv.Id} {h : Zan} {x y : AV} (g : GV src h noH0 x y) : Rel h x y := fun X ι w v s hv => by
  have h1 := g X ι w v s hv
  have e : plc src noH0 ι = ι0 := funext fun j => rfl
  rw [e] at h1
  exact Zbn keep_out y v (Sub.refl _) h1
theorem frz_frs {src : Dv.Id → Option Dv.Id} {h h' : Zan} {F : Dv.Id} {l : List Zav} {imm : Bool} {f : Nat → List AV} {R : Nat → Dv.Id} (hd : ∀ j, (h' j).isSome = true → src j ≠ some F) (hr : ∀ q, q < l.length → ∀ j, (h' j).isSome = true → src j ≠ some (R q)) (hF : h F = some (.row imm 5 l.length f))
    (hf : ∀ q, q < l.length → ∃ y, f q = [iv (l.getD q default).f, iv (l.getD q default).block, iv (l.getD q default).at_, y, .int .u16 (l.getD q default).fly] ∧ y = .rs (R q) 1 0 (l.getD q default).regs.length ∧ h (R q) = some (regB (l.getD q default).regs)) : GV src h h' (.rs F 5 0 l.length) (frs l) := by
  refine GV.frz hd hF (by omega) rfl (fun x hx => ?_) (fun x hx => rfl)
  obtain ⟨y, e1, e2, e3⟩ := hf x hx
  rw [Nat.zero_add x, e1]
  refine .cons (.imm rfl) (.cons (.imm rfl) (.cons (.imm rfl) (.cons ?_ (.cons (.imm rfl) .nil))))
  rw [e2]
  exact GV.frz (hr x hx) e3 (by omega) rfl (fun z hz => by rw [Nat.zero_add z]; exact .cons (.imm rfl) .nil) (fun z hz => rfl)
theorem c_mCopy (s : Mach) : FC Tryz.prog 43 [.agg (Zbw s)] (.agg (Zbw s)) := by
  refine HF.fc (c_mCopyH s) (GV.rel (src := fun _ => none) (.agg ?_))
  refine .cons (frz_frs (R := fun q => (945, 0, q)) (fun _ h => by cases h) (fun _ _ _ h => by cases h) rfl (fun q hq => ⟨_, rfl, Zcd hq, famG_at hq⟩)) (.cons (.imm rfl) (.cons (.imm rfl) (.cons (.imm rfl) (.cons (.imm rfl) (.cons (.imm rfl) (.cons (.imm rfl) (.cons (.imm rfl) (.cons (.imm rfl) (.cons (.imm rfl) (.cons (.imm rfl) (.cons (.imm rfl) (.cons (.imm rfl) (.cons (.imm rfl) (.cons (.imm rfl) (.cons (.imm rfl) (.cons (.imm rfl) (.cons (.imm rfl) (.cons (GV.frz (fun _ h => by cases h) rfl (by omega) rfl (fun z hz => by rw [Nat.zero_add z]; exact .cons (.imm rfl) .nil) (fun z hz => rfl)) (.cons (.imm rfl) (.cons (.imm rfl) .nil))))))))))))))))))))
end Go.Proofs.YtoelbgjpmpoolaaGreat
namespace Go.Proofs.YtoelbgjpmpoolaaGreat
open Go Dv
set_option maxRecDepth 10000
set_option linter.unusedSimpArgs false
theorem c_mStepN {m : Zag} {s : Mach} (hr : Zbd m = true) (h : OkM m s) (hev : s.events.length < 1000000) (hd : s.done = 0) : HG Tryz.prog [jB] 64 (memN m s) [.bp jB 0] (.tup []) (mem m (Zb8 m s)) :=
  renN (c_mStepOk hr h hev hd) (.cons (.bp rfl rfl) .nil)
def regN' (l : List Zav) (q : Nat) : Dv.Id := bif Nat.blt q (l.length - 1) then (945, 0, q) else jT
theorem GVs_frzM {src : Dv.Id → Option Dv.Id} {h h' : Zan} {m : Zag} {s : Mach} {F : Dv.Id} (hd : ∀ j i, (h' j).isSome = true → src j = some i → i ≠ F ∧ i ≠ jE ∧ i ≠ jT ∧ ∀ q, i ≠ (945, 0, q)) (h1 : h F = some (Zcz s.stack)) (h2 : h jE = some (evB s.events)) (h3 : h jT = some (regB (topF s).regs)) (h4 : ∀ q, q < s.stack.length - 1 → h (945, 0, q) = some (regB (s.stack.getD q default).regs)) :
    GVs src h h' (macX F m s) (Zbw s ++ [Zef m.funcs]) := by
  refine .cons ?_ (.cons (.imm rfl) (.cons (.imm rfl) (.cons (.imm rfl) (.cons (.imm rfl) (.cons (.imm rfl) (.cons (.imm rfl) (.cons (.imm rfl) (.cons (.imm rfl) (.cons (.imm rfl) (.cons (.imm rfl) (.cons (.imm rfl) (.cons (.imm rfl) (.cons (.imm rfl) (.cons (.imm rfl) (.cons (.imm rfl) (.cons (.imm rfl) (.cons (.imm rfl) (.cons (GV.frz (fun j hj e => (hd j _ hj e).2.1 rfl) h2 (by omega) rfl (fun z hz => by rw [Nat.zero_add z]; exact .cons (.imm rfl) .nil) (fun z hz => rfl)) (.cons (.imm rfl) (.cons (.imm rfl) (.cons (.imm rfl) .nil)))))))))))))))))))))
  refine frz_frs (R := regN' s.stack) (fun j hj e => (hd j _ hj e).1 rfl) (fun q hq j hj e => ?_) h1 (fun q hq => ⟨_, rfl, ?_, ?_⟩)
  · have := hd j _ hj e
    unfold regN' at this
    cases e2 : Nat.blt q (s.stack.length - 1) with
    | true => rw [e2] at this; exact this.2.2.2 q rfl
    | false => rw [e2] at this; exact this.2.2.1 rfl
  · unfold Zbg regN'
    by_cases e : q < s.stack.length - 1
    · rw [Zcd e, show Nat.blt q (s.stack.length - 1) = true from by rw [Nat.blt_eq]; exact e]; rfl
    · rw [Zdd (by omega), show Nat.blt q (s.stack.length - 1) = false from by rw [Bool.eq_false_iff]; intro h; rw [Nat.blt_eq] at h; omega]; rfl
  · unfold regN'
    by_cases e : q < s.stack.length - 1
    · rw [show Nat.blt q (s.stack.length - 1) = true from by rw [Nat.blt_eq]; exact e]
      exact h4 q e
    · rw [show Nat.blt q (s.stack.length - 1) = false from by rw [Bool.eq_false_iff]; intro h; rw [Nat.blt_eq] at h; omega]
      show h jT = _
      rw [h3]; unfold topF; rw [show s.stack.length - 1 = q by omega]
end Go.Proofs.YtoelbgjpmpoolaaGreat
namespace Go.Proofs.YtoelbgjpmpoolaaGreat
open Go Dv
set_option maxRecDepth 10000
set_option linter.unusedSimpArgs false
end Go.Proofs.YtoelbgjpmpoolaaGreat
namespace Go.Proofs.YtoelbgjpmpoolaaGreat
open Go Dv
set_option maxRecDepth 10000
set_option linter.unusedSimpArgs false
theorem FC.arg {P : Program} {f : FuncId} {args args' : List AV} {r : AV} (h : FC P f args' r) (ha : ∀ (X : Nat → Prop) (w : World) (vals : List Value), Vs w X args ι0 vals → Vs w X args' ι0 vals) : FC P f args r :=
  ⟨h.1, fun X w vals hX hV => h.2 X w vals hX (ha X w vals hV)⟩
theorem V_nsl {w : World} {own : Nat → Prop} {ι : Zai} {sz : Nat} {f : Nat → List AV} {v : Value} (hv : V w own .nsl ι v) : V w own (.sl sz 0 f) ι v := by
  simp only [V] at hv ⊢
  exact ⟨none, 0, hv, Nat.le_refl _, Nat.zero_le _, .inl trivial⟩
inductive NS : List AV → List AV → Prop where
  | nil : NS [] []
  | e {x : AV} {xs ys : List AV} (h : NS xs ys) : NS (x :: xs) (x :: ys)
  | n {sz : Nat} {f : Nat → List AV} {xs ys : List AV} (h : NS xs ys) : NS (.nsl :: xs) (.sl sz 0 f :: ys)
theorem NS.Vs {w : World} {own : Nat → Prop} {ι : Zai} : ∀ {xs ys : List AV} {vs : List Value}, NS xs ys → Dv.Vs w own xs ι vs → Dv.Vs w own ys ι vs
  | _, _, _, .nil, h => h
  | _, _, _, .e hr, h => by
      simp only [Dv.Vs] at h ⊢
      obtain ⟨v, r, e, h1, h2⟩ := h
      exact ⟨v, r, e, h1, hr.Vs h2⟩
  | _, _, _, .n hr, h => by
      simp only [Dv.Vs] at h ⊢
      obtain ⟨v, r, e, h1, h2⟩ := h
      exact ⟨v, r, e, V_nsl h1, hr.Vs h2⟩
theorem c_fFunBad (m : Zag) (n : Int) (hr : Zbd m = false) : FC Tryz.prog 118 [.agg (Zba m), iv n] (.tup [.agg [iv 0, iv 0, .nsl], .bool false]) := by
  refine Zat tok Tryz.func118 rfl (by decide +kernel) (Nat.le_of_ble_eq_true rfl) ?_
  have hR := c_lRight c_lpad m
  rw [hr] at hR
  (repeat' first | refine Zac ?_ | (refine Zab tok (by rfl) ?_; conv => whnf))
  refine .inl ⟨_, _, _, uG (QC.fc hR rfl), ?_⟩
  conv => whnf
  (repeat' ((fail_if_success (show AWp _ _ _ (Code.region 2 _ _) _ _)); (fail_if_success (show AWp _ _ _ (Code.region 3 _ _) _ _)); first | refine Zac ?_ | (refine Zah ?_; conv => whnf) | refine Zaf rfl (fun hb => ?_) (fun hb => ?_)))
  · (repeat' first | (refine Zab tok (by rfl) ?_; conv => whnf) | (refine Zaj ?_; conv => whnf))
    exact ⟨_, rfl, Rel.tup (.cons (Rel.agg (Rels.imm rfl)) (.cons (Rel.imm rfl) .nil))⟩
  · exfalso; cases hb
theorem c_fNewBad (m : Zag) (n : Int) (args : List Int) (hr : Zbd m = false) : FC Tryz.prog 67 [.agg (Zba m), iv n, u16s args] (.tup [.agg [iv 0, iv 0, iv 0, .nsl, .int .u16 0], iv 1]) := by
  refine Zat tok Tryz.func67 rfl (by decide +kernel) (Nat.le_of_ble_eq_true rfl) ?_
  (repeat' first | refine Zac ?_ | (refine Zab tok (by rfl) ?_; conv => whnf))
  refine .inl ⟨_, _, _, uG (QC.fc (c_fFunBad m n hr) rfl), ?_⟩
  conv => whnf
  (repeat' ((fail_if_success (show AWp _ _ _ (Code.region 3 _ _) _ _)); (fail_if_success (show AWp _ _ _ (Code.region 4 _ _) _ _)); first | refine Zac ?_ | (refine Zab tok (by rfl) ?_; conv => whnf) | (refine Zah ?_; conv => whnf) | refine Zaf rfl (fun hb => ?_) (fun hb => ?_)))
  · (repeat' first | (refine Zab tok (by rfl) ?_; conv => whnf) | (refine Zaj ?_; conv => whnf))
    exact ⟨_, rfl, Rel.tup (.cons (Rel.agg (Rels.imm rfl)) (.cons (Rel.imm rfl) .nil))⟩
  · exfalso; cases hb
theorem c_mNewBad (m : Zag) (inputs : List Int) (hr : Zbd m = false) : FC Tryz.prog 31 [.agg (Zba m), u16s inputs] (.tup [.agg zMach, iv 1]) := by
  refine Zat tok Tryz.func31 rfl (by decide +kernel) (Nat.le_of_ble_eq_true rfl) ?_
  (repeat' first | refine Zac ?_ | (refine Zab tok (by rfl) ?_; conv => whnf))
  refine .inl ⟨_, _, _, uG (QC.sc (rd := []) (c_fNewBad m 0 [] hr) (.cons (.imm rfl) (.cons (.imm rfl) (.cons .nsl .nil))) rfl), ?_⟩
  conv => whnf
  (repeat' ((fail_if_success (show AWp _ _ _ (Code.region 3 _ _) _ _)); (fail_if_success (show AWp _ _ _ (Code.region 4 _ _) _ _)); first | refine Zac ?_ | (refine Zab tok (by rfl) ?_; conv => whnf) | (refine Zah ?_; conv => whnf) | refine Zaf rfl (fun hb => ?_) (fun hb => ?_)))
  · (repeat' first | (refine Zab tok (by rfl) ?_; conv => whnf) | (refine Zaj ?_; conv => whnf))
    exact ⟨_, rfl, Rel.tup (.cons (Rel.agg (Rels.imm rfl)) (.cons (Rel.imm rfl) .nil))⟩
  · exfalso; cases hb
end Go.Proofs.YtoelbgjpmpoolaaGreat
namespace Go.Proofs.YtoelbgjpmpoolaaGreat
open Go Dv
set_option maxRecDepth 10000
set_option linter.unusedSimpArgs false
def Zea (m : Zag) (f : Zav) : Int := if endB m f = true then (Zar m f).fin.f else (Zbk m f).f
def Ze1 (m : Zag) (l : List Zav) : Prop := ∀ i, i + 1 < l.length → Zea m (l.getD i default) = (l.getD (i + 1) default).f
theorem Zfa {m : Zag} {l : List Zav} (h : Ze1 m l) (k : Nat) : Ze1 m (l.take k) := fun i hi => by
  rw [List.length_take] at hi
  rw [Zb3 _ (by omega), Zb3 _ (by omega)]
  exact h i (by omega)
theorem link_app {m : Zag} {l : List Zav} (h : Ze1 m l) {f : Zav} (hl : 0 < l.length → Zea m (l.getD (l.length - 1) default) = f.f) : Ze1 m (l ++ [f]) := fun i hi => by
  rw [List.length_append, List.length_singleton] at hi
  rw [Zel, Zel, if_pos (by omega)]
  by_cases h1 : i + 1 < l.length
  · rw [if_pos h1]; exact h i h1
  · rw [if_neg h1, if_pos (by omega)]
    have := hl (by omega)
    rwa [show l.length - 1 = i by omega] at this
theorem Zdl {m : Zag} {s : Mach} (h : Ze1 m s.stack) {f : Zav} (hp : 0 < s.stack.length) (hf : f.f = (topF s).f) : Ze1 m (Zby s f).stack := by
  refine link_app (Zfa h _) (fun hl => ?_)
  rw [List.length_take] at hl ⊢
  rw [show min (s.stack.length - 1) s.stack.length = s.stack.length - 1 by omega] at hl ⊢
  rw [Zb3 _ (by omega), hf]
  have := h (s.stack.length - 1 - 1) (by omega)
  rw [show s.stack.length - 1 - 1 + 1 = s.stack.length - 1 by omega] at this
  exact this
theorem link_called {m : Zag} {s : Mach} (h : Ze1 m s.stack) {n : Int} {l : List Int} (hc : Zea m (topF s) = n) : Ze1 m (Zb5 m s n l).stack := by
  unfold Zb5
  split
  · exact h
  · exact link_app h (fun _ => hc)
theorem link_answered {m : Zag} {s : Mach} (h : Ze1 m s.stack) {w : Int} (hp : 0 < s.stack.length) : Ze1 m (Zbt m s w).stack := by
  unfold Zbt
  split
  · exact Zfa h _
  · rename_i h1
    refine Zdl (s := popM s) (Zfa h _) (by rw [Zc0]; omega) ?_
    unfold answF; split <;> rfl
theorem link_thrown {m : Zag} {s : Mach} (h : Ze1 m s.stack) {w : Int} (hp : 0 < s.stack.length) : Ze1 m (Zbq m s w).stack := by
  unfold Zbq
  dsimp only
  split
  · rename_i hany
    rw [List.any_eq_true] at hany
    obtain ⟨i, hi, hic⟩ := hany
    rw [List.mem_range] at hi
    obtain ⟨_, hK2⟩ := Zfh (p := Zbz m (popM s).stack w true) (n := (popM s).stack.length - 1) ⟨i, by omega, catch_more hic⟩
    generalize Zey (Zbz m (popM s).stack w true) ((popM s).stack.length - 1) = K at hK2
    have hl : (Zdj (popM s) (K + 1)).stack.length = K + 1 := by simp [Zdj]; omega
    refine Zdl (s := Zdj (popM s) (K + 1)) (Zfa (Zfa h _) _) (by omega) ?_
    unfold topF
    rw [hl]
    show ((popM s).stack.getD K default).f = ((Zdj (popM s) (K + 1)).stack.getD (K + 1 - 1) default).f
    rw [show (Zdj (popM s) (K + 1)).stack = (popM s).stack.take (K + 1) from rfl, Zb3 _ (by omega)]; rfl
  · exact Zfa h _
theorem link_ins {m : Zag} {s : Mach} (h : Ze1 m s.stack) (hp : 0 < s.stack.length) (he : endB m (topF s) = false) : Ze1 m (insM m s (topF s) (Zbk m (topF s))).stack := by
  unfold insM
  split
  · exact link_called h (by unfold Zea; rw [if_neg (by rw [he]; simp)])
  split
  · split
    · refine Zdl h hp ?_
      unfold Zdg; split <;> rfl
    · exact h
  split
  · split
    · exact h
    · exact Zdl h hp rfl
  split
  · split
    · exact h
    · exact Zdl (s := { s with cells := _ }) h hp rfl
  split
  · exact Zdl (s := { s with events := _ }) h hp rfl
  split
  · split
    · exact h
    · exact Zdl (s := { s with inputs := _, events := _ }) h hp rfl
  · exact Zdl h hp rfl
theorem link_step {m : Zag} {s : Mach} (h : Ze1 m s.stack) (hp : s.done = 0 → 0 < s.stack.length) : Ze1 m (Zb8 m s).stack := by
  unfold Zb8
  split
  · rename_i hd
    unfold stepE
    split
    · rename_i he; exact link_ins h (hp hd) he
    rename_i he
    split
    · exact link_answered h (hp hd)
    split
    · exact link_called h (by unfold Zea; rw [if_pos (by simpa using he)])
    split
    · exact link_thrown h (hp hd)
    split
    · exact link_thrown h (hp hd)
    · exact Zdl h (hp hd) rfl
  · exact h
theorem link_run {m : Zag} {inputs : List Int} (hr : Zbd m = true) (hi : (∀ x ∈ inputs, 0 ≤ x ∧ x ≤ 65535) ∧ inputs.length < 1000000) : ∀ k, Ze1 m (runM m inputs k).stack
  | 0 => fun i h => by have : i + 1 < 1 := h; omega
  | k + 1 => link_step (link_run hr hi k) (okM_run hr hi k).pos
end Go.Proofs.YtoelbgjpmpoolaaGreat
namespace Go.Proofs.YtoelbgjpmpoolaaGreat
open Go Dv
set_option maxRecDepth 10000
set_option linter.unusedSimpArgs false
theorem c_mCalls (m : Zag) (f : Zav) (hr : Zbd m = true) (h : OkF m f) (hC : CallF m f) : FC Tryz.prog 123 [.agg (Zba m), .agg (Zb1 f)] (iv (Zea m f)) := by
  refine Zat tok Tryz.func123 rfl (by decide +kernel) (Nat.le_of_ble_eq_true rfl) ?_
  have hmx : maxL = 4294967296 := rfl
  have f0 := h.f0
  have f1 := h.f1
  have b0 := h.b0
  have b1 : f.block < (m.funcs.getD f.f.toNat default).blocks.length := h.b1
  have a0 := h.a0
  have a1 := h.a1
  have h64 := (okF_end hr h).1
  cases he : endB m f with
  | true =>
    have hk := hC.fin he
    have e1 : f.at_ = (Zar m f).ins.length := by unfold endB at he; simpa using he
    rw [show Zea m f = (Zar m f).fin.f from by unfold Zea; rw [he]; rfl]
    have hgen : ∃ b, Zar m f = b := ⟨_, rfl⟩
    obtain ⟨b, hb0⟩ := hgen
    have hb0' : (m.funcs.getD f.f.toNat default).blocks.getD f.block.toNat default = b := hb0
    rw [hb0] at hk e1 h64
    rw [hb0]
    have hx : ¬ f.at_ < ((m.funcs.getD f.f.toNat default).blocks.getD f.block.toNat default).ins.length := by rw [hb0']; omega
    ((repeat' ((fail_if_success (show AWp _ _ _ (Code.region 3 _ _) _ _)); (fail_if_success (show AWp _ _ _ (Code.region 4 _ _) _ _)); first | refine Zac ?_ | (refine Zab tok (by rfl) ?_; conv => whnf) | (refine Zaq tok mix (by rfl) ?_; conv => whnf) | refine Zak ?_ | refine Zaf rfl (fun hb => ?_) (fun hb => ?_) | (refine @And.intro (Zaa _ _ _ _) _ ?_ ?_; rotate_left; (conv => whnf); rotate_right))); all_goals (try ((guard_target = Zaa _ _ _ _); (first | refine Zae ?_ | (refine Za4 ?_; intro hgd; (conv at hgd => whnf))); (all_goals (try simp only [Zaa, kzz, kz11, kz12, maxL, Zad] at *)); all_goals omega)))
    · exfalso; rw [decide_eq_false hx] at hb; cases hb
    clear hb
    (repeat' ((fail_if_success (show AWp _ _ _ (Code.region 5 _ _) _ _)); (fail_if_success (show AWp _ _ _ (Code.region 6 _ _) _ _)); first | refine Zac ?_ | (refine Zab tok (by rfl) ?_; conv => whnf) | (refine Zah ?_; conv => whnf) | refine Zaf rfl (fun hb => ?_) (fun hb => ?_)))
    · (repeat' first | (refine Zab tok (by rfl) ?_; conv => whnf) | (refine Zaj ?_; conv => whnf))
      exact ⟨_, rfl, Rel.int (by rw [hb0'])⟩
    · exfalso
      rw [hb0', decide_eq_true e1, hk] at hb; cases hb
  | false =>
    have ho := hC.ins he
    have hI := (okF_ins hr h he).1
    rw [show Zea m f = (Zbk m f).f from by unfold Zea; rw [he]; rfl]
    have hlt : f.at_ < ((m.funcs.getD f.f.toNat default).blocks.getD f.block.toNat default).ins.length := by
      have : f.at_.toNat < ((m.funcs.getD f.f.toNat default).blocks.getD f.block.toNat default).ins.length := hI
      omega
    ((repeat' ((fail_if_success (show AWp _ _ _ (Code.region 3 _ _) _ _)); (fail_if_success (show AWp _ _ _ (Code.region 4 _ _) _ _)); first | refine Zac ?_ | (refine Zab tok (by rfl) ?_; conv => whnf) | (refine Zaq tok mix (by rfl) ?_; conv => whnf) | refine Zak ?_ | refine Zaf rfl (fun hb => ?_) (fun hb => ?_) | (refine @And.intro (Zaa _ _ _ _) _ ?_ ?_; rotate_left; (conv => whnf); rotate_right))); all_goals (try ((guard_target = Zaa _ _ _ _); (first | refine Zae ?_ | (refine Za4 ?_; intro hgd; (conv at hgd => whnf))); (all_goals (try simp only [Zaa, kzz, kz11, kz12, maxL, Zad] at *)); all_goals omega)))
    · ((repeat' first | (refine Zab tok (by rfl) ?_; conv => whnf) | (refine Zaj ?_; conv => whnf) | (refine @And.intro (Zaa _ _ _ _) _ ?_ ?_; rotate_left; (conv => whnf); rotate_right)); all_goals (try ((guard_target = Zaa _ _ _ _); refine Zae ?_; (all_goals (try simp only [Zaa, kzz, kz11, kz12, maxL, Zad] at *)); all_goals omega)))
      exact ⟨_, rfl, Rel.int rfl⟩
    · exfalso
      have ho' : (((m.funcs.getD f.f.toNat default).blocks.getD f.block.toNat default).ins.getD f.at_.toNat default).op = 11 := ho
      rw [decide_eq_true hlt, ho'] at hb; cases hb
end Go.Proofs.YtoelbgjpmpoolaaGreat
namespace Go.Proofs.YtoelbgjpmpoolaaGreat
open Go Dv
set_option maxRecDepth 10000
set_option linter.unusedSimpArgs false
structure OkS (m : Zag) (s : Mach) : Prop where
  ok : OkM m s
  link : Ze1 m s.stack
  done : 0 ≤ s.done ∧ s.done ≤ 6
set_option maxHeartbeats 4000000 in
theorem c_mRight (m : Zag) (s : Mach) (hr : Zbd m = true) (h : OkS m s) : FC Tryz.prog 70 [.agg (Zba m), .agg (Zbw s)] (.bool true) := by
  refine Zat tok Tryz.func70 rfl (by decide +kernel) (Nat.le_of_ble_eq_true rfl) ?_
  have hmx : maxL = 4294967296 := rfl
  have hR := c_lRight c_lpad m
  rw [hr] at hR
  have h32 := h.ok.len
  have hd := h.done
  have hpos := h.ok.pos
  (repeat' first | refine Zac ?_ | (refine Zab tok (by rfl) ?_; conv => whnf))
  refine .inl ⟨_, _, _, uG (QC.fc hR rfl), ?_⟩
  conv => whnf
  (repeat' ((fail_if_success (show AWp _ _ _ (Code.region 3 _ _) _ _)); (fail_if_success (show AWp _ _ _ (Code.region 4 _ _) _ _)); first | refine Zac ?_ | (refine Zah ?_; conv => whnf) | refine Zaf rfl (fun hb => ?_) (fun hb => ?_)))
  · exfalso
    rw [decide_eq_false (show ¬ s.done < 0 by omega), decide_eq_false (show ¬ 6 < s.done by omega), decide_eq_false (show ¬ (32 : Int) < s.stack.length by omega)] at hb
    by_cases e : s.done = 0
    · have := hpos e
      rw [decide_eq_false (show ¬ ((s.stack.length : Int) = 0) by omega)] at hb; cases hb
    · rw [decide_eq_false e] at hb
      cases hb2 : decide ((s.stack.length : Int) = 0) <;> rw [hb2] at hb <;> cases hb
  clear hb
  (repeat' ((fail_if_success (show AWp _ _ _ (Code.region 5 _ _) _ _)); first | (refine Zab tok (by rfl) ?_; conv => whnf) | refine Zak ?_))
  refine Za3 (fun i : Nat => mkS [(2, .bp (2, 0, 0) 0), (3, .bp (3, 0, 0) 0), (5, iv s.stack.length), (38, frs s.stack), (39, iv s.stack.length), (40, iv i)] [((2, 0, 0), Za8 (Zba m)), ((3, 0, 0), Za8 (Zbw s))]) (fun i => i ≤ s.stack.length) (fun i => s.stack.length - i) 0 (Nat.zero_le _) ?_ ?_
  · refine Weak.list [((2, 0, 0), .old (2, 0, 0), Za8 (Zba m)), ((3, 0, 0), .old (3, 0, 0), Za8 (Zbw s))] rfl (by rfl) ?_ (.old rfl (BLe.refl _) (.old rfl (BLe.refl _) .nil))
    ((repeat' first | exact TLes.nil | refine TLes.cons (TLe.eq rfl) ?_); skip)
  intro i hi
  ((repeat' ((fail_if_success (show AWp _ _ _ (Code.region 7 _ _) _ _)); (fail_if_success (show AWp _ _ _ (Code.region 10 _ _) _ _)); first | refine Zac ?_ | (refine Zab tok (by rfl) ?_; conv => whnf) | refine Zak ?_ | (refine Zah ?_; conv => whnf) | (refine Za5 ?_; conv => whnf) | refine Zaf rfl (fun hb => ?_) (fun hb => ?_) | (refine @And.intro (Zaa _ _ _ _) _ ?_ ?_; rotate_left; (conv => whnf); rotate_right))); all_goals (try ((guard_target = Zaa _ _ _ _); refine Zae ?_; (all_goals (try simp only [Zaa, kzz, kz11, kz12, maxL, Zad] at *)); all_goals omega)))
  · have hil : i < s.stack.length := by simp only [decide_eq_true_eq] at hb; omega
    clear hb
    have hF : OkF m (s.stack.getD i default) := h.ok.fr _ (Zcb _ hil)
    have hfR := c_fRight m (s.stack.getD i default) hr hF
    have hcall : i + 1 < s.stack.length → FC Tryz.prog 123 [.agg (Zba m), .agg (Zb1 (s.stack.getD i default))] (iv (s.stack.getD (i + 1) default).f) := fun hn => by
      have := c_mCalls m (s.stack.getD i default) hr hF (h.ok.ca _ (top_take hn))
      rw [h.link i hn] at this; exact this
    (repeat' (refine Zaq tok mix (by rfl) ?_; conv => whnf))
    refine .inl ⟨_, _, _, uG (QC.fc hfR rfl), ?_⟩
    conv => whnf
    skip
    refine .inl ⟨_, _, _, Za4 (fun hgd => QC.fc (hcall ?_) rfl), ?_⟩
    · conv at hgd => whnf
      have h1 := hgd.1
      rw [Zal (by omega) (by omega)] at h1
      simp only [decide_eq_true_eq] at h1
      omega
    conv => whnf
    ((repeat' first | refine Zac ?_ | (refine Zab tok (by rfl) ?_; conv => whnf) | (refine Zah ?_; conv => whnf) | (refine Zaj ?_; conv => whnf) | refine Zaf rfl (fun hb => ?_) (fun hb => ?_) | (refine @And.intro (Zaa _ _ _ _) _ ?_ ?_; rotate_left; (conv => whnf); rotate_right)); all_goals (try ((guard_target = Zaa _ _ _ _); ((refine Za4 ?_; intro hgd; (conv at hgd => whnf); (try simp (disch := omega) only [Zal] at hgd))); (all_goals (try simp only [Zaa, kzz, kz11, kz12, maxL, Zad] at *)); (all_goals (try (simp (disch := omega) only [Zal]))); all_goals omega)))
    · exfalso
      rw [Zal (by omega) (by omega)] at hb
      rw [show (((i : Int) + 1).toNat) = i + 1 by omega] at hb
      simp at hb
    clear hb
    refine ⟨i + 1, hil, by omega, ?_⟩
    refine Weak.list [((2, 0, 0), .old (2, 0, 0), Za8 (Zba m)), ((3, 0, 0), .old (3, 0, 0), Za8 (Zbw s))] rfl (by rfl) ?_ (.old rfl (BLe.refl _) (.old rfl (BLe.refl _) .nil))
    ((repeat' first | exact TLes.nil | refine TLes.cons (TLe.eq rfl) ?_ | refine TLes.cons (TLe.int ?_) ?_); (all_goals first | ((try (simp only [Zaa, kzz, kz11, kz12, maxL, Zad] at *)); exact Zal (by omega) (by omega)) | skip))
  · (repeat' first | (refine Zab tok (by rfl) ?_; conv => whnf) | (refine Zaj ?_; conv => whnf))
    exact ⟨_, rfl, Rel.bool rfl⟩
end Go.Proofs.YtoelbgjpmpoolaaGreat
namespace Go.Proofs.YtoelbgjpmpoolaaGreat
open Go Dv
set_option maxRecDepth 10000
set_option linter.unusedSimpArgs false
set_option linter.unusedVariables false
abbrev Dn (s : Mach) : Prop := 0 ≤ s.done ∧ s.done ≤ 6
theorem dn_end {s : Mach} {how w : Int} (h : 0 ≤ how ∧ how ≤ 6) : Dn (endM s how w) := h
theorem dn_called {m : Zag} {s : Mach} {n : Int} {l : List Int} (h : Dn s) : Dn (Zb5 m s n l) := by unfold Zb5; split; exact dn_end (by omega); exact h
theorem dn_answered {m : Zag} {s : Mach} {w : Int} (h : Dn s) : Dn (Zbt m s w) := by unfold Zbt; split; exact dn_end (by omega); exact h
theorem dn_thrown {m : Zag} {s : Mach} {w : Int} (h : Dn s) : Dn (Zbq m s w) := by unfold Zbq; dsimp only; split; exact h; exact dn_end (by omega)
theorem dn_ins {m : Zag} {s : Mach} {f : Zav} {x : Ins} (h : Dn s) : Dn (insM m s f x) := by
  unfold insM
  split
  · exact dn_called h
  split
  · split
    · exact h
    · exact dn_end (by omega)
  split
  · split
    · exact dn_end (by omega)
    · exact h
  split
  · split
    · exact dn_end (by omega)
    · exact h
  split
  · exact h
  split
  · split
    · exact dn_end (by omega)
    · exact h
  · exact h
theorem dn_step {m : Zag} {s : Mach} (h : Dn s) : Dn (Zb8 m s) := by
  unfold Zb8
  split
  · unfold stepE
    split
    · exact dn_ins h
    split
    · exact dn_answered h
    split
    · exact dn_called h
    split
    · exact dn_thrown h
    split
    · exact dn_thrown h
    · exact h
  · exact h
theorem okS_step {m : Zag} {s : Mach} (hr : Zbd m = true) (h : OkS m s) : OkS m (Zb8 m s) := ⟨okM_step hr h.ok, link_step h.link h.ok.pos, dn_step h.done⟩
theorem okS_run {m : Zag} {inputs : List Int} (hr : Zbd m = true) (hi : (∀ x ∈ inputs, 0 ≤ x ∧ x ≤ 65535) ∧ inputs.length < 1000000) : ∀ k, OkS m (runM m inputs k)
  | 0 => ⟨okM_run hr hi 0, link_run hr hi 0, ⟨Int.le_refl 0, (by decide : (0 : Int) ≤ 6)⟩⟩
  | k + 1 => okS_step hr (okS_run hr hi k)
theorem cp_same {src : Dv.Id → Option Dv.Id} {h h' : Zan} {l : List Zav} (hs : ∀ q, q < l.length - 1 → src (945, 0, q) = some (945, 0, q)) (ht : src jT = some (945, 0, l.length - 1)) (hf : ∀ q, q < l.length - 1 → (h' (945, 0, q)).isSome = true) (hT : (h' jT).isSome = true) :
    GB src h h' (rowCp l l.length) (Zcz l) :=
  GB.row (Nat.le_refl _) (fun q hq => .cons (.imm rfl) (.cons (.imm rfl) (.cons (.imm rfl) (.cons (by
    unfold Zbg
    by_cases e : q < l.length - 1
    · cases e1 : h' (945, 0, q) with
      | none => have := hf q e; rw [e1] at this; cases this
      | some b => exact .cc (Zcd hq) (Zcd e) (.rs e1 (hs q e) rfl rfl)
    · have e2 : q = l.length - 1 := by have : q < l.length := hq; omega
      subst e2
      cases e1 : h' jT with
      | none => rw [e1] at hT; cases hT
      | some b => exact .cc (Zcd hq) (Zdd (Nat.le_refl _)) (.rs e1 ht rfl rfl)) (.cons (.imm rfl) .nil))))) (fun e => by cases e)
theorem cpH_names {s : Mach} {i : Dv.Id} (h : (cpH s i).isSome = true) : i = jN ∨ i = jE ∨ ∃ q, i = (945, 0, q) := by
  cases e1 : idEq jN i with
  | true => exact .inl (Zay.1 e1).symm
  | false =>
    cases e2 : idEq jE i with
    | true => exact .inr (.inl (Zay.1 e2).symm)
    | false =>
      refine .inr (.inr ?_)
      unfold cpH orH at h
      simp only [Zax, e1, e2, cond_false] at h
      cases e : famG s.stack s.stack.length i with
      | none => rw [e] at h; cases h
      | some b => obtain ⟨q, rfl, _, _⟩ := famG_some e; exact ⟨q, rfl⟩
theorem bigH_some {d : List Dv.Id} {u h : Zan} {j : Dv.Id} {b : Zam} (e : u j = some b) : bigH d u h j = some b := by unfold bigH; rw [e]
theorem cpH_fam {s : Mach} {q : Nat} (hq : q < s.stack.length) : cpH s (945, 0, q) = some (regB (s.stack.getD q default).regs) := famG_at hq
theorem GVs_frzC {src : Dv.Id → Option Dv.Id} {h h' : Zan} {m : Zag} {s : Mach} (h1 : ∀ j, (h' j).isSome = true → src j ≠ some jN) (h2 : ∀ q, q < s.stack.length → ∀ j, (h' j).isSome = true → src j ≠ some (945, 0, q)) (h3 : h jN = some (rowCp s.stack s.stack.length)) (h4 : ∀ q, q < s.stack.length → h (945, 0, q) = some (regB (s.stack.getD q default).regs))
    (h5 : ∀ j, (h' j).isSome = true → src j ≠ some jE) (h6 : h jE = some (evB s.events)) : GVs src h h' (cpB jN jE s ++ [Zef m.funcs]) (Zbw s ++ [Zef m.funcs]) :=
  .cons (frz_frs (R := fun q => (945, 0, q)) h1 h2 h3 (fun q hq => ⟨_, rfl, Zcd hq, h4 q hq⟩)) (.cons (.imm rfl) (.cons (.imm rfl) (.cons (.imm rfl) (.cons (.imm rfl) (.cons (.imm rfl) (.cons (.imm rfl) (.cons (.imm rfl) (.cons (.imm rfl) (.cons (.imm rfl) (.cons (.imm rfl) (.cons (.imm rfl) (.cons (.imm rfl) (.cons (.imm rfl) (.cons (.imm rfl) (.cons (.imm rfl) (.cons (.imm rfl) (.cons (.imm rfl) (.cons (GV.frz h5 h6 (by omega) rfl (fun z hz => by rw [Nat.zero_add z]; exact .cons (.imm rfl) .nil) (fun z hz => rfl)) (.cons (.imm rfl) (.cons (.imm rfl) (.cons (.imm rfl) .nil)))))))))))))))))))))
set_option maxHeartbeats 4000000 in
theorem c_mStepM (m : Zag) (s : Mach) (hr : Zbd m = true) (h : OkS m s) (hev : s.events.length < 1000000) : FC Tryz.prog 34 [.agg (Zba m), .agg (Zbw s)] (.tup [.agg (Zbw (Zb8 m s)), iv 0]) := by
  refine Zat tok Tryz.func34 rfl (by decide +kernel) (Nat.le_of_ble_eq_true rfl) ?_
  have hmx : maxL = 4294967296 := rfl
  (repeat' first | refine Zac ?_ | (refine Zab tok (by rfl) ?_; conv => whnf))
  refine .inl ⟨_, _, _, uG (QC.fc (c_mRight m s hr h) rfl), ?_⟩
  conv => whnf
  (repeat' ((fail_if_success (show AWp _ _ _ (Code.region 2 _ _) _ _)); (fail_if_success (show AWp _ _ _ (Code.region 3 _ _) _ _)); first | refine Zac ?_ | (refine Zah ?_; conv => whnf) | refine Zaf rfl (fun hb => ?_) (fun hb => ?_)))
  · exfalso; cases hb
  clear hb
  refine Zdz tok mix (by rfl) [0, 2] 30 (by rfl) (by rfl) (by rfl) ?_
  conv => whnf
  (repeat' first
    | (refine @And.intro (Zaa _ _ _ _) _ ?_ ?_; rotate_left; (conv => whnf); rotate_right)
    | (guard_target = And _ _; refine @And.intro (gOp _ _ _ _ _ _ _ _ _) _ (by (conv => whnf); exact ⟨rfl, rfl⟩) ?_; conv => whnf)
    | (guard_target = And _ _; refine And.intro ?_ ?_ <;> (conv => whnf)))
  refine .inr ⟨_, _, _, uG (QH.ofF (c_mCopyH s) rfl (fun i hi => ?_)), ?_⟩
  · rcases cpH_names hi with rfl | rfl | ⟨q, rfl⟩ <;> rfl
  conv => whnf
  (repeat' first
    | (refine @And.intro (Zaa _ _ _ _) _ ?_ ?_; rotate_left; (conv => whnf); rotate_right)
    | (guard_target = And _ _; refine @And.intro (gOp _ _ _ _ _ _ _ _ _) _ (by (conv => whnf); exact ⟨rfl, rfl⟩) ?_; conv => whnf)
    | (guard_target = And _ _; refine And.intro ?_ ?_ <;> (conv => whnf)))
  all_goals (try ((guard_target = Zaa _ _ _ _); skip; all_goals omega))
  (repeat' ((fail_if_success (show AWp _ _ _ (Code.region 5 _ _) _ _)); (fail_if_success (show AWp _ _ _ (Code.region 6 _ _) _ _)); first | refine Zac ?_ | (refine Zab tok (by rfl) ?_; conv => whnf) | (refine Zah ?_; conv => whnf) | refine Zaf rfl (fun hb => ?_) (fun hb => ?_)))
  · have hd : s.done = 0 := by simpa using hb
    clear hb
    have hp := h.ok.pos hd
    refine Zaw (Weak.fam (L := []) (tl := [(4, .bp (4, 0, 0) 0), (6, .bp jB 0)]) (hl := [((4, 0, 0), Za8 zMach)] ++ memNL m s) (F := famW s.stack) [(jB, some (17, 0, 0)), (jT, some (945, 0, s.stack.length - 1))] rfl (fun c hc => ?_) ?_ ?_ ?_ (fun i hi => by cases hi)) ?_
    · rcases List.mem_cons.1 (show c ∈ [(17, 0, 0), (945, 0, s.stack.length - 1)] from hc) with rfl | hc
      · exact .inl rfl
      · rw [List.mem_singleton.1 hc]; exact .inl (Zao (Nat.le_refl _))
    · exact .cons (.bp rfl rfl) (.cons (.bp rfl rfl) .nil)
    · refine .old rfl rfl (GB.one (GVs.imm rfl) (fun _ => rfl)) (.old rfl rfl (GB.one ?_ (fun e => by cases e)) (.old rfl rfl (cp_same (fun _ _ => rfl) rfl (fun q hq => Zco hq) rfl) (.old rfl rfl (Zd6 _) (.old rfl (bigH_some (cpH_fam (by omega))) (Zbu _) .nil))))
      exact .cons (.rs rfl rfl rfl rfl) (.cons (.imm rfl) (.cons (.imm rfl) (.cons (.imm rfl) (.cons (.imm rfl) (.cons (.imm rfl) (.cons (.imm rfl) (.cons (.imm rfl) (.cons (.imm rfl) (.cons (.imm rfl) (.cons (.imm rfl) (.cons (.imm rfl) (.cons (.imm rfl) (.cons (.imm rfl) (.cons (.imm rfl) (.cons (.imm rfl) (.cons (.imm rfl) (.cons (.imm rfl) (.cons (.rs rfl rfl rfl rfl) (.cons (.imm rfl) (.cons (.imm rfl) (.cons (.imm rfl) .nil)))))))))))))))))))))
    · refine Zfy (fun _ _ => rfl) (fun q hq => ?_)
      exact bigH_some (cpH_fam (by omega))
    (repeat' (refine Zab tok (by rfl) ?_; conv => whnf))
    refine .inr ⟨_, _, _, uG (QH.ddM (by simp) (c_mStepN hr h.ok hev hd) h.ok.len (memN_sub rfl rfl rfl rfl (fun _ => rfl)) rfl rfl (fun q hq => Zao hq)), ?_⟩
    conv => whnf
    (repeat' ((fail_if_success (show AWp _ _ _ (Code.region 6 _ _) _ _)); refine Zac ?_))
    generalize Zb8 m s = s1
    refine Zaw (Weak.fam (L := []) (tl := [(4, .bp (4, 0, 0) 0), (6, .bp jB 0)]) (hl := [((4, 0, 0), Za8 zMach)] ++ [(jB, .row false 22 1 (fun _ => Zbw s1 ++ [Zef m.funcs]))]) (F := noH) [] rfl (fun c hc => by cases hc) ?_ ?_ noF (fun i hi => by cases hi)) ?_
    · exact .cons (.bp rfl rfl) (.cons (.bp rfl rfl) .nil)
    · refine .old rfl rfl (GB.one (GVs.imm rfl) (fun _ => rfl)) (.old rfl rfl (GB.one (GVs_frzM (F := jF) (fun j i hj e => ?_) rfl rfl rfl (fun q hq => ?_)) (fun e => by cases e)) .nil)
      · have e' : j = i := Option.some.inj e
        subst e'
        exact ⟨(fun e2 => by subst e2; cases hj), (fun e2 => by subst e2; cases hj), (fun e2 => by subst e2; cases hj), (fun q e2 => by subst e2; cases hj)⟩
      · exact Zbc hq
    (repeat' (refine Zab tok (by rfl) ?_; conv => whnf))
    refine .inl ⟨_, _, _, uG (QC.fc (c_mCopy s1) rfl), ?_⟩
    conv => whnf
    (repeat' (refine Zaj ?_; conv => whnf))
    exact ⟨_, rfl, Rel.tup (.cons (Rel.agg (Rels.imm rfl)) (.cons (Rel.int rfl) .nil))⟩
  · have hd : ¬ s.done = 0 := by simpa using hb
    clear hb
    rw [show Zb8 m s = s from if_neg hd]
    refine Zaw (Weak.fam (L := []) (tl := [(4, .bp (4, 0, 0) 0), (6, .bp jB 0)]) (hl := [((4, 0, 0), Za8 zMach)] ++ [(jB, .row false 22 1 (fun _ => Zbw s ++ [Zef m.funcs]))]) (F := noH) [(jB, some (17, 0, 0))] rfl (fun c hc => ?_) ?_ ?_ noF (fun i hi => by cases hi)) ?_
    · rw [List.mem_singleton.1 (show c ∈ [(17, 0, 0)] from hc)]; exact .inl rfl
    · exact .cons (.bp rfl rfl) (.cons (.bp rfl rfl) .nil)
    · have key : ∀ j, ((orH (Zax ([((4, 0, 0), Za8 zMach)] ++ [(jB, .row false 22 1 (fun _ => Zbw s ++ [Zef m.funcs]))])) noH) j).isSome = true → j = (4, 0, 0) ∨ j = jB := fun j hj => by
        cases e1 : idEq (4, 0, 0) j with
        | true => exact .inl (Zay.1 e1).symm
        | false =>
          cases e2 : idEq jB j with
          | true => exact .inr (Zay.1 e2).symm
          | false =>
            exfalso
            unfold orH at hj
            simp only [List.cons_append, List.nil_append, Zax, e1, e2, cond_false, noH] at hj
            cases hj
      refine .old rfl rfl (GB.one (GVs.imm rfl) (fun _ => rfl)) (.old rfl rfl (GB.one (GVs_frzC (fun j hj e => ?_) (fun q hq j hj e => ?_) rfl (fun q hq => bigH_some (cpH_fam hq)) (fun j hj e => ?_) rfl) (fun e => by cases e)) .nil)
      all_goals (rcases key j hj with rfl | rfl <;> cases e)
    (repeat' (refine Zab tok (by rfl) ?_; conv => whnf))
    refine .inl ⟨_, _, _, uG (QC.fc (c_mCopy s) rfl), ?_⟩
    conv => whnf
    (repeat' (refine Zaj ?_; conv => whnf))
    exact ⟨_, rfl, Rel.tup (.cons (Rel.agg (Rels.imm rfl)) (.cons (Rel.int rfl) .nil))⟩
end Go.Proofs.YtoelbgjpmpoolaaGreat
namespace Go.Proofs.YtoelbgjpmpoolaaGreat
open Go Dv
set_option maxRecDepth 10000
set_option linter.unusedSimpArgs false
end Go.Proofs.YtoelbgjpmpoolaaGreat
namespace Go.Proofs.YtoelbgjpmpoolaaGreat
open Go Dv
set_option maxRecDepth 10000
set_option linter.unusedSimpArgs false
section
variable (B : Zb2 → Zb2)
def mapB (l : List Zb2) (k : Nat) : List Zb2 := (List.range l.length).map fun q => if q < k then B (l.getD q default) else l.getD q default
end
end Go.Proofs.YtoelbgjpmpoolaaGreat
namespace Go.Proofs.YtoelbgjpmpoolaaGreat
open Go Dv
set_option maxRecDepth 10000
set_option linter.unusedSimpArgs false
section
variable {B : Zb2 → Zb2}
end
end Go.Proofs.YtoelbgjpmpoolaaGreat
namespace Go.Proofs.YtoelbgjpmpoolaaGreat
open Go Dv
set_option maxRecDepth 10000
set_option linter.unusedSimpArgs false
end Go.Proofs.YtoelbgjpmpoolaaGreat
namespace Go.Proofs.YtoelbgjpmpoolaaGreat
open Go Dv
set_option maxRecDepth 10000
set_option linter.unusedSimpArgs false
end Go.Proofs.YtoelbgjpmpoolaaGreat
namespace Go.Proofs.YtoelbgjpmpoolaaGreat
open Go Dv
set_option maxRecDepth 10000
set_option linter.unusedSimpArgs false
end Go.Proofs.YtoelbgjpmpoolaaGreat
namespace Go.Proofs.YtoelbgjpmpoolaaGreat
open Go Dv
set_option maxRecDepth 10000
set_option linter.unusedSimpArgs false
theorem nxt_len' {len : Nat} {D : Nat → List Bool → Bool} : ∀ (k : Nat) (a : List Bool), a.length = len → (iterN len D k a).length = len
  | 0, a, h => h
  | k + 1, a, h => nxt_len' k _ (nxt_len a)
theorem outL_len {m : Zag} (hr : Zbd m = true) : (outL m).length = m.funcs.length := by
  unfold outL Zd8; rw [if_pos hr]; unfold lfp; exact nxt_len' _ _ (by simp)
end Go.Proofs.YtoelbgjpmpoolaaGreat
namespace Go.Proofs.YtoelbgjpmpoolaaGreat
open Go Dv
set_option maxRecDepth 10000
set_option linter.unusedSimpArgs false
theorem rule_mono (m : Zag) : MonoD (Zd2 outB m) := fun n a b h k => by
  unfold Zd2 at k ⊢
  rw [List.any_eq_true] at k ⊢
  obtain ⟨x, hx, hk⟩ := k
  exact ⟨x, hx, outB_mono _ _ _ _ h hk⟩
theorem out_lfp {m : Zag} (hr : Zbd m = true) : outL m = lfp m.funcs.length (Zd2 outB m) := by unfold outL Zd8; rw [if_pos hr]
theorem out_closed {m : Zag} (hr : Zbd m = true) : Closed m.funcs.length (Zd2 outB m) (outL m) := by rw [out_lfp hr]; exact (lfp_ok (rule_mono m)).1
end Go.Proofs.YtoelbgjpmpoolaaGreat
namespace Go.Proofs.YtoelbgjpmpoolaaGreat
open Go Dv
set_option maxRecDepth 10000
set_option linter.unusedSimpArgs false
structure Iv2 (len : Nat) (D : Nat → List Bool → Bool) (is : List Bool) (n : Nat) (js : List Bool) : Prop where
  sz : js.length = len
  be : Zec len D js
  le : leL is js
  don : ∀ j, j < n → D j is = true → js.getD j false = true
theorem Iv2.set {len : Nat} {D : Nat → List Bool → Bool} {is js : List Bool} {n m : Nat} (h : Iv2 len D is n js) (hD : MonoD D) (hm : m < len) (hd : D m js = true) : Iv2 len D is n (js.set m true) := by
  have hs := h.sz
  refine ⟨by simp [hs], fun c hc i e => ?_, h.le.trans (leL_set _ _), fun j hj hd => leL_set _ _ j (h.don j hj hd)⟩
  rw [set_get (by omega), Bool.or_eq_true] at e
  rcases e with e | e
  · have : m = i := by simpa using e
    subst this
    exact hc.cl m hm (hD m js c (h.be c hc) hd)
  · exact h.be c hc i e
structure Iv0 (len : Nat) (D : Nat → List Bool → Bool) (r : Nat) (is : List Bool) : Prop where
  sz : is.length = len
  be : Zec len D is
  pr : Closed len D is ∨ r ≤ cnt is
theorem Iv0.next {len : Nat} {D : Nat → List Bool → Bool} {is js : List Bool} {r : Nat} (h0 : Iv0 len D r is) (h : Iv2 len D is len js) : Iv0 len D (r + 1) js := by
  refine ⟨h.sz, h.be, ?_⟩
  obtain ⟨h1, h2⟩ := cnt_mono (by rw [h0.sz, h.sz]) h.le
  by_cases hc : cnt js ≤ cnt is
  · have e := h2 hc
    left
    refine ⟨h.sz, fun n hn hd => ?_⟩
    exact h.don n hn (by rw [e]; exact hd)
  · rcases h0.pr with hcl | hcl
    · exfalso
      have e1 := h.be is hcl
      have := (cnt_mono (by rw [h0.sz, h.sz]) e1).1
      omega
    · right; omega
theorem Iv0.done {len : Nat} {D : Nat → List Bool → Bool} (hD : MonoD D) {is : List Bool} (h0 : Iv0 len D (len + 1) is) : is = lfp len D := by
  refine lfp_uniq hD ?_ h0.be
  rcases h0.pr with h | h
  · exact h
  · have := cnt_le (a := is); rw [h0.sz] at this; omega
theorem ruleOf_mono {does : Func → Zb2 → List Bool → Bool} {m : Zag} (hmono : ∀ f b, ∀ is js, leL is js → does f b is = true → does f b js = true) : MonoD (Zd2 does m) := fun n a b h k => by
  unfold Zd2 at k ⊢
  rw [List.any_eq_true] at k ⊢
  obtain ⟨x, hx, hk⟩ := k
  exact ⟨x, hx, hmono _ _ _ _ h hk⟩
end Go.Proofs.YtoelbgjpmpoolaaGreat
namespace Go.Proofs.YtoelbgjpmpoolaaGreat
open Go Dv
set_option maxRecDepth 10000
set_option linter.unusedSimpArgs false
end Go.Proofs.YtoelbgjpmpoolaaGreat
namespace Go.Proofs.YtoelbgjpmpoolaaGreat
open Go Dv Go.ChangeShapes Go.WideShapes Go.ChangeAt Go.RowKit
open Go.Proofs.YtoelbgjpmpoolaaGreat
set_option maxRecDepth 10000
set_option linter.unusedVariables false
section
variable {H : Type} {enc : TypeId × Value → H} {w : World}
abbrev Sm (H : Type) : DataW H → Prop := fun d => Rows.uptoBulk d ≤ 1048576
theorem bulk_all {ds : List (DataW H)} {n : Nat} (h : Rows.uptoBulkAll ds ≤ n) : ∀ d ∈ ds, Rows.uptoBulk d ≤ n := by
  induction ds with
  | nil => intro d hd; cases hd
  | cons x r ih =>
    simp only [Rows.uptoBulkAll] at h
    intro d hd
    simp only [List.mem_cons] at hd
    rcases hd with rfl | hd
    · omega
    · exact ih (by omega) d hd
theorem bulk_pos (d : DataW H) : 1 ≤ Rows.uptoBulk d := by
  cases d with
  | lit l => cases l <;> simp only [Rows.uptoBulk] <;> omega
  | _ => simp only [Rows.uptoBulk]; omega
theorem bulk_len {ds : List (DataW H)} {n : Nat} (h : Rows.uptoBulkAll ds ≤ n) : ds.length ≤ n := by
  induction ds generalizing n with
  | nil => simp
  | cons x r ih =>
    simp only [Rows.uptoBulkAll] at h
    have := bulk_pos x
    have := ih (n := n - Rows.uptoBulk x) (by omega)
    simp only [List.length_cons]; omega
theorem sm_agg (ds : List (DataW H)) (h : Sm H (.agg ds)) : ∀ d ∈ ds, Sm H d := by
  simp only [Sm, Rows.uptoBulk] at h; exact bulk_all (by omega)
theorem sm_slice (es sp : List (DataW H)) (h : Sm H (.slice es sp)) : es.length ≤ maxL ∧ ∀ x ∈ es, Sm H x := by
  simp only [Sm, Rows.uptoBulk] at h
  have h1 : Rows.uptoBulkAll es ≤ 1048576 := by omega
  exact ⟨Nat.le_trans (bulk_len h1) (by decide), bulk_all h1⟩
theorem Zed : Rd enc Tryz.prog w (Sm H) 3 Int (fun n => [iv n]) := Rd.int Tryz.underlying3
theorem rd_u16 : Rd enc Tryz.prog w (Sm H) 50 Int (fun n => [.int .u16 n]) := Rd.int Tryz.underlying50
theorem rd_bool : Rd enc Tryz.prog w (Sm H) 4 Bool (fun b => [.bool b]) := Rd.bool Tryz.underlying4
theorem rd_ints : Rd enc Tryz.prog w (Sm H) 42 (List Int) (fun l => [ints l]) := Rd.slice Tryz.underlying42 (by decide +kernel) (Nat.le_refl _) (fun _ => ⟨rfl, rfl⟩) Zed sm_slice
theorem rd_u16s : Rd enc Tryz.prog w (Sm H) 25 (List Int) (fun l => [u16s l]) := Rd.slice Tryz.underlying25 (by decide +kernel) (Nat.le_refl _) (fun _ => ⟨rfl, rfl⟩) rd_u16 sm_slice
theorem rd_Ins : Rd enc Tryz.prog w (Sm H) 70 Ins Zbh :=
  Rd.map (fun x => ⟨x.1, x.2.1, x.2.2.1, x.2.2.2.1, x.2.2.2.2.1, x.2.2.2.2.2.1, x.2.2.2.2.2.2.1⟩)
    (Rd.struct (fl := [(3, 1), (3, 1), (3, 1), (3, 1), (50, 1), (3, 1), (42, 1)]) Tryz.underlying70 (.cons Zed (.cons Zed (.cons Zed (.cons Zed (.cons rd_u16 (.cons Zed (.cons rd_ints .nil)))))))
      rfl (by decide +kernel) (by decide +kernel) sm_agg) (fun _ => rfl)
theorem rd_inss : Rd enc Tryz.prog w (Sm H) 41 (List Ins) (fun l => [inss l]) := Rd.slice Tryz.underlying41 (by decide +kernel) (by decide) (fun _ => ⟨rfl, rfl⟩) rd_Ins sm_slice
theorem rd_End : Rd enc Tryz.prog w (Sm H) 44 End Zeg :=
  Rd.map (fun x => ⟨x.1, x.2.1, x.2.2.1, x.2.2.2.1, x.2.2.2.2.1, x.2.2.2.2.2.1, x.2.2.2.2.2.2.1, x.2.2.2.2.2.2.2.1⟩)
    (Rd.struct (fl := [(3, 1), (3, 1), (3, 1), (3, 1), (42, 1), (3, 1), (3, 1), (3, 1)]) Tryz.underlying44 (.cons Zed (.cons Zed (.cons Zed (.cons Zed (.cons rd_ints (.cons Zed (.cons Zed (.cons Zed .nil))))))))
      rfl (by decide +kernel) (by decide +kernel) sm_agg) (fun _ => rfl)
theorem rd_Pad : Rd enc Tryz.prog w (Sm H) 40 Pad encPad :=
  Rd.map (fun x => ⟨x.1, x.2.1, x.2.2.1, x.2.2.2.1⟩)
    (Rd.struct (fl := [(3, 1), (25, 1), (4, 1), (4, 1)]) Tryz.underlying40 (.cons Zed (.cons rd_u16s (.cons rd_bool (.cons rd_bool .nil))))
      rfl (by decide +kernel) (by decide +kernel) sm_agg) (fun _ => rfl)
theorem rd_Block : Rd enc Tryz.prog w (Sm H) 46 Zb2 Zbe :=
  Rd.map (fun x => ⟨x.1, x.2.1, x.2.2.1, x.2.2.2.1⟩)
    (Rd.struct (fl := [(4, 1), (40, 4), (41, 1), (44, 8)]) Tryz.underlying46 (.cons rd_bool (.cons rd_Pad (.cons rd_inss (.cons rd_End .nil))))
      rfl (by decide +kernel) (by decide +kernel) sm_agg) (fun _ => rfl)
theorem rd_blocks : Rd enc Tryz.prog w (Sm H) 36 (List Zb2) (fun l => [blockss l]) := Rd.slice Tryz.underlying36 (by decide +kernel) (by decide) (fun _ => ⟨rfl, rfl⟩) rd_Block sm_slice
theorem rd_Func : Rd enc Tryz.prog w (Sm H) 38 Func Zcx :=
  Rd.map (fun x => ⟨x.1, x.2.1, x.2.2.1⟩)
    (Rd.struct (fl := [(3, 1), (3, 1), (36, 1)]) Tryz.underlying38 (.cons Zed (.cons Zed (.cons rd_blocks .nil)))
      rfl (by decide +kernel) (by decide +kernel) sm_agg) (fun _ => rfl)
theorem rd_funcs : Rd enc Tryz.prog w (Sm H) 22 (List Func) (fun l => [Zef l]) := Rd.slice Tryz.underlying22 (by decide +kernel) (by decide) (fun _ => ⟨rfl, rfl⟩) rd_Func sm_slice
theorem rd_Module : Rd enc Tryz.prog w (Sm H) 24 Zag Zba :=
  Rd.map (fun x => ⟨x.1⟩)
    (Rd.struct (fl := [(22, 1)]) Tryz.underlying24 (.cons rd_funcs .nil)
      rfl (by decide +kernel) (by decide +kernel) sm_agg) (fun _ => rfl)
end
theorem small_of {H : Type} {ds gs : List (DataW H)} (hk : Rows.uptoSmall H (ds ++ gs) = true) : ∀ d ∈ ds, Sm H d := by
  have h := of_decide_eq_true hk
  exact fun d hd => bulk_all h d (List.mem_append_left _ hd)
end Go.Proofs.YtoelbgjpmpoolaaGreat
namespace Go.Proofs.YtoelbgjpmpoolaaGreat
open Go Dv
set_option maxRecDepth 10000
set_option linter.unusedSimpArgs false
def nilPad : Pad := ⟨0, [], false, false⟩
def awT : Zag := ⟨[⟨0, 1, [⟨false, nilPad, [], ⟨4, 0, 0, 1, [], 0, 0, 1⟩⟩, ⟨true, ⟨0, [], true, false⟩, [], ⟨1, 0, 0, 0, [], 0, 0, 0⟩⟩]⟩, ⟨0, 1, [⟨false, nilPad, [⟨12, 0, 0, 0, 0, 0, []⟩], ⟨5, 0, 0, 0, [], 0, 0, 0⟩⟩]⟩]⟩
theorem c_awake12 : FC Tryz.prog 30 [] (.bool true) := by
  refine Zat tok Tryz.func30 rfl (by decide +kernel) (Nat.le_of_ble_eq_true rfl) ?_
  (repeat' ((fail_if_success (show AWp _ _ _ (Code.region 2 _ _) _ _)); first | refine Zac ?_ | (refine Zab tok (by rfl) ?_; conv => whnf)))
  refine Zaw (Weak.fam (tl := [(1, .bp (1, 0, 0) 0)]) (hl := [((1, 0, 0), .row true 1 1 (fun _ => Zba awT))]) (F := noH) [] rfl (fun i hi => by cases hi) (.cons (.bp rfl rfl) .nil) (.old rfl rfl (GB.one ?_ (fun _ => rfl)) .nil) noF (fun i hi => by cases hi)) ?_
  · (repeat' first | exact GVs.nil | exact lt0 | refine ltS ?_ ?_ | ((conv => arg 4; whnf); (conv => arg 5; whnf); first | refine GVs.cons (GV.imm rfl) ?_ | refine GVs.cons (GV.wk rfl (.nsl rfl)) ?_ | refine GVs.cons (GV.frz (hd_no rfl) rfl (Nat.le_of_ble_eq_true rfl) rfl ?_ ?_) ?_) | exact (show Zbs _ = true from rfl))
  have h1 : FOb 19 [.agg (Zba awT)] [false, true] := (by decide +kernel : outL awT = [false, true]) ▸ c_tOut awT
  have h2 : FOb 32 [.agg (Zba awT)] [true, true] := (by decide +kernel : doL [12, 13] awT = [true, true]) ▸ c_Tells awT
  have h3 : FOb 33 [.agg (Zba awT)] [false, false] := (by decide +kernel : doL [10] awT = [false, false]) ▸ c_Writes awT
  (repeat' (refine Zaq tok mix (by rfl) ?_; conv => whnf))
  refine .inl ⟨_, _, _, uG (QC.fo (rd := []) h1 (Ress.imms rfl) (.inl rfl) rfl), ?_⟩
  conv => whnf
  skip
  refine .inl ⟨_, _, _, uG (QC.fo (rd := []) h2 (Ress.imms rfl) (.inl rfl) rfl), ?_⟩
  conv => whnf
  skip
  refine .inl ⟨_, _, _, uG (QC.fo (rd := []) h3 (Ress.imms rfl) (.inl rfl) rfl), ?_⟩
  conv => whnf
  ((repeat' first | refine Zac ?_ | (refine Zab tok (by rfl) ?_; conv => whnf) | (refine Zaj ?_; conv => whnf) | (refine @And.intro (Zaa _ _ _ _) _ ?_ ?_; rotate_left; (conv => whnf); rotate_right)); all_goals (try ((guard_target = Zaa _ _ _ _); ((refine Za4 ?_; intro hgd; (conv at hgd => whnf))); (all_goals (try simp only [Zaa, kzz, kz11, kz12, maxL, Zad] at *)); all_goals omega)))
  exact ⟨_, rfl, Rel.bool rfl⟩
end Go.Proofs.YtoelbgjpmpoolaaGreat
namespace Go.Proofs.YtoelbgjpmpoolaaGreat
open Go Dv
set_option maxRecDepth 10000
set_option linter.unusedSimpArgs false
theorem spread_ok {does : Func → Zb2 → List Bool → Bool} {m : Zag} (hr : Zbd m = true) (hmono : ∀ f b, ∀ is js, leL is js → does f b is = true → does f b js = true) :
    Closed m.funcs.length (Zd2 does m) (Zd8 does m) ∧ Zec m.funcs.length (Zd2 does m) (Zd8 does m) := by
  unfold Zd8; rw [if_pos hr]; exact lfp_ok (ruleOf_mono hmono)
end Go.Proofs.YtoelbgjpmpoolaaGreat
namespace Go.Proofs.YtoelbgjpmpoolaaGreat
open Go Dv
set_option maxRecDepth 10000
set_option linter.unusedSimpArgs false
set_option linter.unusedVariables false
section
variable {m : Zag} {does : Func → Zb2 → List Bool → Bool} {L : List Bool}
theorem closed_at (hc : Closed m.funcs.length (Zd2 does m) L) {f : Zav} (hF : OkF m f) (h : does (Zc5 m f) (Zar m f) L = true) : isAt L f.f = true := by
  have h0 := hF.f0
  have h1 := hF.f1
  have h2 := hF.b0
  have h3 := hF.b1
  refine hc.cl f.f.toNat (by omega) ?_
  unfold Zd2
  rw [List.any_eq_true]
  exact ⟨Zar m f, Zcb _ (show f.block.toNat < (Zc5 m f).blocks.length by omega), h⟩
theorem calls_at {f : Zav} (hr : Zbd m = true) (hF : OkF m f) (he : endB m f = false) (ho : (Zbk m f).op = 11) (hi : isAt L (Zbk m f).f = true) : callsB (Zar m f) L = true := by
  unfold callsB
  rw [List.any_eq_true]
  exact ⟨Zbk m f, Zcb _ (okF_ins hr hF he).1, by rw [decide_eq_true ho]; exact hi⟩
end
section
variable {m : Zag} {s : Mach}
theorem ok_at (h : OkM m s) {k : Nat} (hk : k < s.stack.length) : OkF m (s.stack.getD k default) := h.fr _ (Zcb _ hk)
theorem call_at (h : OkM m s) {k : Nat} (hk : k + 1 < s.stack.length) : CallF m (s.stack.getD k default) := h.ca _ (top_take hk)
theorem do_all (ops : List Int) (hr : Zbd m = true) (h : OkM m s) (hl : Ze1 m s.stack) (ht : isAt (doL ops m) (topF s).f = true) : ∀ d k, k + 1 + d = s.stack.length → isAt (doL ops m) (s.stack.getD k default).f = true
  | 0, k, e => by
      have : topF s = s.stack.getD k default := by unfold topF; rw [show s.stack.length - 1 = k by omega]
      rw [← this]; exact ht
  | d + 1, k, e => by
      have ih := do_all ops hr h hl ht d (k + 1) (by omega)
      have hF := ok_at h (k := k) (by omega)
      have hC := call_at h (k := k) (by omega)
      have hL := hl k (by omega)
      rw [← hL] at ih
      refine closed_at (spread_ok hr (doB_mono ops)).1 hF ?_
      unfold Zea at ih
      show ((bif decide ((Zar m (s.stack.getD k default)).fin.kind = 4) then isAt (doL ops m) (Zar m (s.stack.getD k default)).fin.f else false) || (callsB (Zar m (s.stack.getD k default)) (doL ops m) || (Zar m (s.stack.getD k default)).ins.any fun x => hasB ops x.op)) = true
      cases he : endB m (s.stack.getD k default) with
      | true =>
        rw [he, if_pos rfl] at ih
        rw [decide_eq_true (hC.fin he), cond_true]
        rw [ih]; rfl
      | false =>
        rw [he, if_neg (by decide)] at ih
        rw [calls_at hr hF he (hC.ins he) ih]; simp
theorem do_top (ops : List Int) (hr : Zbd m = true) (h : OkM m s) (hp : 0 < s.stack.length) (he : endB m (topF s) = false) (ho : (Zbk m (topF s)).op ∈ ops) : isAt (doL ops m) (topF s).f = true := by
  have hF := h.fr _ (top_mem hp)
  refine closed_at (spread_ok hr (doB_mono ops)).1 hF ?_
  show (_ || (_ || (Zar m (topF s)).ins.any fun x => hasB ops x.op)) = true
  have : ((Zar m (topF s)).ins.any fun x => hasB ops x.op) = true := by
    rw [List.any_eq_true]
    refine ⟨Zbk m (topF s), Zcb _ (okF_ins hr hF he).1, ?_⟩
    unfold hasB
    rw [List.any_eq_true]
    exact ⟨_, ho, by simp⟩
  rw [this]; simp
theorem cells_called {n : Int} {l : List Int} : (Zb5 m s n l).cells = s.cells := by unfold Zb5; split <;> rfl
theorem cells_answered {w : Int} : (Zbt m s w).cells = s.cells := by unfold Zbt; split <;> rfl
theorem cells_thrown {w : Int} : (Zbq m s w).cells = s.cells := by unfold Zbq; dsimp only; split <;> rfl
theorem step_cases (hd : s.done = 0) : (Zb8 m s).events = s.events ∧ (Zb8 m s).cells = s.cells ∨ endB m (topF s) = false ∧ ((Zbk m (topF s)).op = 10 ∨ (Zbk m (topF s)).op = 12 ∨ (Zbk m (topF s)).op = 13) ∧ Zb8 m s = insM m s (topF s) (Zbk m (topF s)) := by
  rw [show Zb8 m s = stepE m s (topF s) (Zar m (topF s)) from if_pos hd]
  unfold stepE
  cases he : endB m (topF s) with
  | true =>
    rw [if_neg (by decide)]
    refine .inl ?_
    split
    · exact ⟨ev_answered, cells_answered⟩
    split
    · exact ⟨ev_called, cells_called⟩
    split
    · exact ⟨ev_thrown, cells_thrown⟩
    split
    · exact ⟨ev_thrown, cells_thrown⟩
    · exact ⟨rfl, rfl⟩
  | false =>
    rw [if_pos rfl]
    by_cases ho : (Zbk m (topF s)).op = 10 ∨ (Zbk m (topF s)).op = 12 ∨ (Zbk m (topF s)).op = 13
    · exact .inr ⟨rfl, ho, rfl⟩
    · refine .inl ?_
      show (insM m s (topF s) (Zbk m (topF s))).events = _ ∧ (insM m s (topF s) (Zbk m (topF s))).cells = _
      unfold insM
      split
      · exact ⟨ev_called, cells_called⟩
      split
      · split <;> exact ⟨rfl, rfl⟩
      split
      · split <;> exact ⟨rfl, rfl⟩
      rw [if_neg (by omega), if_neg (by omega), if_neg (by omega)]
      exact ⟨rfl, rfl⟩
theorem tells_sound (hr : Zbd m = true) (h : OkM m s) (hl : Ze1 m s.stack) (hd : s.done = 0) (hne : (Zb8 m s).events.length ≠ s.events.length) {k : Nat} (hk : k < s.stack.length) : isAt (doL [12, 13] m) (s.stack.getD k default).f = true := by
  rcases step_cases (m := m) hd with e | ⟨he, ho, hs⟩
  · rw [e.1] at hne; exact absurd rfl hne
  · refine do_all _ hr h hl (do_top _ hr h (by omega) he ?_) (s.stack.length - (k + 1)) k (by omega)
    rcases ho with ho | ho | ho
    · rw [hs] at hne
      unfold insM at hne
      rw [if_neg (by omega), if_neg (by omega), if_neg (by omega), if_pos ho] at hne
      split at hne <;> exact absurd rfl hne
    · rw [ho]; simp
    · rw [ho]; simp
theorem writes_sound (hr : Zbd m = true) (h : OkM m s) (hl : Ze1 m s.stack) (hd : s.done = 0) (hne : (Zb8 m s).cells ≠ s.cells) {k : Nat} (hk : k < s.stack.length) : isAt (doL [10] m) (s.stack.getD k default).f = true := by
  rcases step_cases (m := m) hd with e | ⟨he, ho, hs⟩
  · rw [e.2] at hne; exact absurd rfl hne
  · refine do_all _ hr h hl (do_top _ hr h (by omega) he ?_) (s.stack.length - (k + 1)) k (by omega)
    rcases ho with ho | ho | ho
    · rw [ho]; simp
    · rw [hs] at hne
      unfold insM at hne
      rw [if_neg (by omega), if_neg (by omega), if_neg (by omega), if_neg (by omega), if_pos ho] at hne
      exact absurd rfl hne
    · rw [hs] at hne
      unfold insM at hne
      rw [if_neg (by omega), if_neg (by omega), if_neg (by omega), if_neg (by omega), if_neg (by omega), if_pos ho] at hne
      split at hne <;> exact absurd rfl hne
theorem downK_above {p : Nat → Bool} : ∀ {n j : Nat}, Zey p n < j → j ≤ n → p j = false
  | 0, j, h, hj => by unfold Zey at h; omega
  | n + 1, j, h, hj => by
      unfold Zey at h
      split at h
      · omega
      · rename_i hp
        by_cases e : j = n + 1
        · rw [e]; simpa using hp
        · exact downK_above h (by omega)
theorem out_up (hr : Zbd m = true) (h : OkM m s) (hl : Ze1 m s.stack) {w : Int} {k : Nat} (hk : k + 1 < s.stack.length) (hn : isAt (outL m) (s.stack.getD (k + 1) default).f = true) (hc : Zez m (s.stack.getD k default) w true = false) : isAt (outL m) (s.stack.getD k default).f = true := by
  have hF := ok_at h (k := k) (by omega)
  have hC := call_at h hk
  rw [← hl k hk] at hn
  refine closed_at (out_closed hr) hF ?_
  unfold Zea at hn
  unfold outB
  cases he : endB m (s.stack.getD k default) with
  | true =>
    rw [he, if_pos rfl] at hn
    unfold Zez at hc
    rw [he, decide_eq_true (hC.fin he), Bool.true_and, Bool.true_and, Bool.true_and, Bool.or_eq_false_iff] at hc
    have ha : ((Zc5 m (s.stack.getD k default)).blocks.getD (Zar m (s.stack.getD k default)).fin.pad.toNat default).pad.all = false := by
      have := hc.1
      unfold catchF padF at this
      rw [Bool.or_eq_false_iff] at this
      exact this.2
    rw [decide_eq_true (hC.fin he), hn, ha]; simp
  | false =>
    rw [he, if_neg (by decide)] at hn
    rw [calls_at hr hF he (hC.ins he) hn]; simp
theorem out_sound (hr : Zbd m = true) (h : OkM m s) (hl : Ze1 m s.stack) (hd : s.done = 0) (he : endB m (topF s) = true) (hk56 : (Zar m (topF s)).fin.kind = 5 ∨ (Zar m (topF s)).fin.kind = 6) {k : Nat} (hk : k < s.stack.length) (hge : (Zb8 m s).stack.length ≤ k) : isAt (outL m) (s.stack.getD k default).f = true := by
  have hp := h.pos hd
  have hT : isAt (outL m) (s.stack.getD (s.stack.length - 1) default).f = true := by
    refine closed_at (out_closed hr) (ok_at h (by omega)) ?_
    show outB (Zc5 m (topF s)) (Zar m (topF s)) _ = true
    unfold outB
    rcases hk56 with e | e <;> rw [e] <;> simp
  have hS : ∃ w, Zb8 m s = Zbq m s w := by
    rw [show Zb8 m s = stepE m s (topF s) (Zar m (topF s)) from if_pos hd]
    unfold stepE
    rw [he, if_neg (by decide), if_neg (by omega), if_neg (by omega)]
    rcases hk56 with e | e
    · rw [if_pos e]; exact ⟨_, rfl⟩
    · rw [if_neg (by omega), if_pos e]; exact ⟨_, rfl⟩
  obtain ⟨w, hS⟩ := hS
  rw [hS] at hge
  have hpl := Zc0 (s := s)
  unfold Zbq at hge
  dsimp only at hge
  split at hge
  · rename_i hany
    rw [List.any_eq_true] at hany
    obtain ⟨i, hi, hic⟩ := hany
    rw [List.mem_range] at hi
    obtain ⟨hK1, hK2⟩ := Zfh (p := Zbz m (popM s).stack w true) (n := (popM s).stack.length - 1) ⟨i, by omega, catch_more hic⟩
    have hA := fun j => downK_above (p := Zbz m (popM s).stack w true) (n := (popM s).stack.length - 1) (j := j)
    generalize Zey (Zbz m (popM s).stack w true) ((popM s).stack.length - 1) = K at hK1 hK2 hA hge
    have hlK : K < k := by
      have : (Zby (Zdj (popM s) (K + 1)) (landF m ((popM s).stack.getD K default) (Zar m ((popM s).stack.getD K default)).fin.pad w)).stack.length = K + 1 := by
        show (List.take _ _ ++ [_]).length = _; simp [Zdj]; omega
      omega
    have up : ∀ d j, K < j → j + 1 + d = s.stack.length → isAt (outL m) (s.stack.getD j default).f = true := by
      intro d
      induction d with
      | zero => intro j _ e; rw [show j = s.stack.length - 1 by omega]; exact hT
      | succ d ih =>
        intro j hj e
        refine out_up hr h hl (w := w) (by omega) (ih (j + 1) (by omega) (by omega)) ?_
        have := hA j hj (by omega)
        unfold Zbz at this
        rwa [show (popM s).stack.getD j default = s.stack.getD j default from Zb3 _ (by omega)] at this
    exact up (s.stack.length - (k + 1)) k hlK (by omega)
  · have : (endM (popM s) 2 w).stack.length = s.stack.length - 1 := hpl
    rw [show k = s.stack.length - 1 by omega]; exact hT
end
end Go.Proofs.YtoelbgjpmpoolaaGreat
namespace Go.Proofs.YtoelbgjpmpoolaaGreat
open Go Dv
set_option maxRecDepth 10000
set_option linter.unusedSimpArgs false
set_option linter.unusedVariables false
theorem GV.nsl0 {src : Dv.Id → Option Dv.Id} {h h' : Zan} {sz : Nat} {f : Nat → List AV} : GV src h h' .nsl (.sl sz 0 f) := fun X ι w v s hv => by
  have h1 : V w (Own X (plc src h' ι)) .nsl (plc src h' ι) v := by
    simp only [V] at hv ⊢
    exact hv
  exact V_nsl h1
theorem c_mNewF (m : Zag) (inputs : List Int) (hr : Zbd m = true) : FC Tryz.prog 31 [.agg (Zba m), u16s inputs] (.tup [.agg (Zbw (newM m inputs)), iv 0]) := by
  refine HF.fc (c_mNew m inputs hr) (GV.rel (src := fun _ => none) (.tup (.cons (.agg ?_) (.cons (.imm rfl) .nil))))
  have hq0 : ∀ q, q < (newM m inputs).stack.length → q = 0 := fun q hq => by have : q < 1 := hq; omega
  have hy : ∀ q, q < (newM m inputs).stack.length → Zbg (newM m inputs).stack q = .rs jT 1 0 ((newM m inputs).stack.getD q default).regs.length := fun q hq => by rw [hq0 q hq]; rfl
  have hz : ∀ q, q < (newM m inputs).stack.length → (orH (Zax (newL m inputs)) noH) jT = some (regB ((newM m inputs).stack.getD q default).regs) := fun q hq => by rw [hq0 q hq]; rfl
  exact .cons (frz_frs (R := fun _ => jT) (fun _ h => by cases h) (fun _ _ _ h => by cases h) rfl (fun q hq => ⟨_, rfl, hy q hq, hz q hq⟩)) (.cons (.imm rfl) (.cons (.imm rfl) (.cons (.imm rfl) (.cons (.imm rfl) (.cons (.imm rfl) (.cons (.imm rfl) (.cons (.imm rfl) (.cons (.imm rfl) (.cons (.imm rfl) (.cons (.imm rfl) (.cons (.imm rfl) (.cons (.imm rfl) (.cons (.imm rfl) (.cons (.imm rfl) (.cons (.imm rfl) (.cons (.imm rfl) (.cons (.imm rfl) (.cons (GV.nsl0) (.cons (.imm rfl) (.cons (.imm rfl) .nil))))))))))))))))))))
def thrB (m : Zag) (f : Zav) : Bool := bif decide (f.at_ = (Zar m f).ins.length) then (bif decide ((Zar m f).fin.kind = 5) then true else decide ((Zar m f).fin.kind = 6)) else false
theorem thrB_iff {m : Zag} {f : Zav} (h : thrB m f = true) : endB m f = true ∧ ((Zar m f).fin.kind = 5 ∨ (Zar m f).fin.kind = 6) := by
  unfold thrB at h
  unfold endB
  by_cases e1 : f.at_ = (Zar m f).ins.length
  · by_cases e5 : (Zar m f).fin.kind = 5
    · exact ⟨decide_eq_true e1, .inl e5⟩
    · by_cases e6 : (Zar m f).fin.kind = 6
      · exact ⟨decide_eq_true e1, .inr e6⟩
      · simp [e1, e5, e6] at h
  · simp [e1] at h
abbrev cellsL (s : Mach) : List Int := [s.cells.getD 0 0, s.cells.getD 1 0, s.cells.getD 2 0, s.cells.getD 3 0, s.cells.getD 4 0, s.cells.getD 5 0, s.cells.getD 6 0, s.cells.getD 7 0, s.cells.getD 8 0, s.cells.getD 9 0, s.cells.getD 10 0, s.cells.getD 11 0, s.cells.getD 12 0, s.cells.getD 13 0, s.cells.getD 14 0, s.cells.getD 15 0]
def Zeh (L : List Bool) : Zam := .row true 1 L.length (fun i => [.bool (L.getD i false)])
set_option maxHeartbeats 4000000 in
theorem c_ThrowsSound (m : Zag) (inputs : List Int) : FC Tryz.prog 6 [.agg (Zba m), u16s inputs] (.bool true) := by
  refine Zat tok Tryz.func6 rfl (by decide +kernel) (Nat.le_of_ble_eq_true rfl) ?_
  refine Za0 1 (fun hl => ?_)
  have hwords : ∀ x ∈ inputs, 0 ≤ x ∧ x ≤ 65535 := fun x hx => by
    obtain ⟨i, hi, rfl⟩ := List.getElem_of_mem hx
    have := (hl.2 i hi).1
    rw [Zcj 0 hi] at this; exact this
  clear hl
  have hmx : maxL = 4294967296 := rfl
  (repeat' first | refine Zac ?_ | (refine Zab tok (by rfl) ?_; conv => whnf))
  refine .inl ⟨_, _, _, uG (QC.fc c_awake12 rfl), ?_⟩
  conv => whnf
  (repeat' first | refine Zac ?_ | (refine Zab tok (by rfl) ?_; conv => whnf) | (refine Zah ?_; conv => whnf) | (refine Zaj ?_; conv => whnf) | refine Zaf rfl (fun hb => ?_) (fun hb => ?_))
  · cases hb
  clear hb
  refine .inl ⟨_, _, _, uG (QC.fc (c_r6Small m inputs) rfl), ?_⟩
  conv => whnf
  (repeat' first | refine Zac ?_ | (refine Zab tok (by rfl) ?_; conv => whnf) | (refine Zah ?_; conv => whnf) | (refine Zaj ?_; conv => whnf) | refine Zaf rfl (fun hb => ?_) (fun hb => ?_))
  · exact ⟨_, rfl, Rel.bool rfl⟩
  have hsm : smallB m inputs = true := by simpa using hb
  clear hb
  unfold smallB at hsm
  rw [Bool.and_eq_true, decide_eq_true_eq] at hsm
  have hi : (∀ x ∈ inputs, 0 ≤ x ∧ x ≤ 65535) ∧ inputs.length < 1000000 := ⟨hwords, by omega⟩
  cases hr : Zbd m with
  | false =>
    refine .inl ⟨_, _, _, uG (QC.fc (c_mNewBad m inputs hr) rfl), ?_⟩
    conv => whnf
    (repeat' ((fail_if_success (show AWp _ _ _ (Code.region 7 _ _) _ _)); (fail_if_success (show AWp _ _ _ (Code.region 8 _ _) _ _)); first | refine Zac ?_ | (refine Zab tok (by rfl) ?_; conv => whnf) | (refine Zah ?_; conv => whnf) | refine Zaf rfl (fun hb => ?_) (fun hb => ?_)))
    · (repeat' first | (refine Zab tok (by rfl) ?_; conv => whnf) | (refine Zaj ?_; conv => whnf))
      exact ⟨_, rfl, Rel.bool rfl⟩
    · exfalso; cases hb
  | true =>
    refine .inl ⟨_, _, _, uG (QC.fc (c_mNewF m inputs hr) rfl), ?_⟩
    conv => whnf
    (repeat' ((fail_if_success (show AWp _ _ _ (Code.region 7 _ _) _ _)); (fail_if_success (show AWp _ _ _ (Code.region 8 _ _) _ _)); first | refine Zac ?_ | (refine Zab tok (by rfl) ?_; conv => whnf) | (refine Zah ?_; conv => whnf) | refine Zaf rfl (fun hb => ?_) (fun hb => ?_)))
    · exfalso; cases hb
    clear hb
    have hO := c_tOut m
    have hT := c_Tells m
    have hW := c_Writes m
    have lO : (outL m).length = m.funcs.length := outL_len hr
    have lT : (doL [12, 13] m).length = m.funcs.length := (spread_ok hr (doB_mono [12, 13])).1.sz
    have lW : (doL [10] m).length = m.funcs.length := (spread_ok hr (doB_mono [10])).1.sz
    have sO := fun k => out_sound (m := m) (s := runM m inputs k) hr
    have sT := fun k => tells_sound (m := m) (s := runM m inputs k) hr
    have sW := fun k => writes_sound (m := m) (s := runM m inputs k) hr
    generalize outL m = LO at hO lO sO
    generalize doL [12, 13] m = LT at hT lT sT
    generalize doL [10] m = LW at hW lW sW
    (repeat' (refine Zaq tok mix (by rfl) ?_; conv => whnf))
    refine .inl ⟨_, _, _, uG (QC.fo (rd := []) hO (Ress.imms rfl) (.inl rfl) rfl), ?_⟩
    conv => whnf
    skip
    refine .inl ⟨_, _, _, uG (QC.fo (rd := []) hT (Ress.imms rfl) (.inl rfl) rfl), ?_⟩
    conv => whnf
    skip
    refine .inl ⟨_, _, _, uG (QC.fo (rd := []) hW (Ress.imms rfl) (.inl rfl) rfl), ?_⟩
    conv => whnf
    (repeat' ((fail_if_success (show AWp _ _ _ (Code.region 10 _ _) _ _)); (fail_if_success (show AWp _ _ _ (Code.region 11 _ _) _ _)); first | refine Zac ?_ | (refine Zab tok (by rfl) ?_; conv => whnf) | (refine Zah ?_; conv => whnf) | refine Zaf rfl (fun hb => ?_) (fun hb => ?_)))
    · exfalso
      rw [lO, lT, lW] at hb
      simp at hb
    clear hb
    (repeat' ((fail_if_success (show AWp _ _ _ (Code.region 12 _ _) _ _)); first | (refine Zab tok (by rfl) ?_; conv => whnf) | refine Zak ?_))
    refine Za3 (fun i : Nat => mkS [(2, .bp (2, 0, 0) 0), (5, .bp (5, 0, 0) 0), (7, .rs (33, 0, 0) 1 0 LO.length), (8, .rs (35, 0, 0) 1 0 LT.length), (9, .rs (37, 0, 0) 1 0 LW.length), (10, iv i)] [((2, 0, 0), Za8 (Zba m)), ((5, 0, 0), .row true 21 1 (fun _ => Zbw (runM m inputs i))), ((33, 0, 0), Zeh LO), ((35, 0, 0), Zeh LT), ((37, 0, 0), Zeh LW)]) (fun i => i ≤ 150) (fun i => 150 - i) 0 (by omega) ?_ ?_
    · refine Weak.list [((2, 0, 0), .old (2, 0, 0), Za8 (Zba m)), ((5, 0, 0), .old (5, 0, 0), .row true 21 1 (fun _ => Zbw (runM m inputs 0))), ((33, 0, 0), .old (33, 0, 0), Zeh LO), ((35, 0, 0), .old (35, 0, 0), Zeh LT), ((37, 0, 0), .old (37, 0, 0), Zeh LW)] rfl (by rfl) ?_ (.old rfl (BLe.refl _) (.old rfl (BLe.rowW (Nat.le_refl _) (ltS (Wks.of rfl) lt0)) (.old rfl (BLe.refl _) (.old rfl (BLe.refl _) (.old rfl (BLe.refl _) .nil)))))
      ((repeat' first | exact TLes.nil | refine TLes.cons (TLe.eq rfl) ?_); skip)
    intro i hi2
    have hs := okS_run hr hi i
    have hev := ev_run (m := m) (inputs := inputs) i
    have kO := sO i hs.ok hs.link
    have kT := sT i hs.ok hs.link
    have kW := sW i hs.ok hs.link
    have hs1 : runM m inputs (i + 1) = Zb8 m (runM m inputs i) := rfl
    generalize hse : runM m inputs i = s at hs hev kO kT kW hs1
    (repeat' ((fail_if_success (show AWp _ _ _ (Code.region 14 _ _) _ _)); (fail_if_success (show AWp _ _ _ (Code.region 27 _ _) _ _)); first | refine Zac ?_ | (refine Zab tok (by rfl) ?_; conv => whnf) | refine Zak ?_ | (refine Zah ?_; conv => whnf) | (refine Za5 ?_; conv => whnf) | refine Zaf rfl (fun hb => ?_) (fun hb => ?_)))
    · have hlt : i < 150 ∧ s.done = 0 := by
        by_cases e1 : (i : Int) < 150 <;> by_cases e2 : s.done = 0 <;> simp [e1, e2] at hb
        exact ⟨by omega, e2⟩
      clear hb
      obtain ⟨hlt, hd⟩ := hlt
      have hp := hs.ok.pos hd
      have h32 := hs.ok.len
      have hF := hs.ok.fr _ (top_mem hp)
      have f0 := hF.f0
      have f1 := hF.f1
      have b0 := hF.b0
      have b1 : (topF s).block < (m.funcs.getD (topF s).f.toNat default).blocks.length := hF.b1
      have htop : s.stack.getD (s.stack.length - 1) default = topF s := rfl
      have hidx : IntKind.i64.wrap ((s.stack.length : Int) - 1) = ((s.stack.length - 1 : Nat) : Int) := by rw [Zal (by omega) (by omega)]; omega
      ((repeat' ((fail_if_success (show AWp _ _ _ (Code.region 15 _ _) _ _)); first | refine Zac ?_ | (refine Zab tok (by rfl) ?_; conv => whnf) | (refine @And.intro (Zaa _ _ _ _) _ ?_ ?_; rotate_left; (conv => whnf); rotate_right))); all_goals (try ((guard_target = Zaa _ _ _ _); refine Zae ?_; (all_goals (try simp only [Zaa, kzz, kz11, kz12, maxL, Zad] at *)); (all_goals (try (simp (disch := omega) only [Zal]))); all_goals omega)))
      refine Zaw (τ := mkS [(2, .bp (2, 0, 0) 0), (5, .bp (5, 0, 0) 0), (7, .rs (33, 0, 0) 1 0 LO.length), (8, .rs (35, 0, 0) 1 0 LT.length), (9, .rs (37, 0, 0) 1 0 LW.length), (10, iv i), (11, .bp (11, 0, 0) 0)] [((2, 0, 0), Za8 (Zba m)), ((5, 0, 0), .row true 21 1 (fun _ => Zbw s)), ((33, 0, 0), Zeh LO), ((35, 0, 0), Zeh LT), ((37, 0, 0), Zeh LW), ((11, 0, 0), Za8 (Zb1 (topF s)))]) ?_ ?_
      · refine Weak.list [((2, 0, 0), .old (2, 0, 0), Za8 (Zba m)), ((5, 0, 0), .old (5, 0, 0), .row true 21 1 (fun _ => Zbw s)), ((33, 0, 0), .old (33, 0, 0), Zeh LO), ((35, 0, 0), .old (35, 0, 0), Zeh LT), ((37, 0, 0), .old (37, 0, 0), Zeh LW), ((11, 0, 0), .old (11, 0, 0), Za8 (Zb1 (topF s)))] rfl (by rfl) ?_ (.old rfl (BLe.refl _) (.old rfl (BLe.refl _) (.old rfl (BLe.refl _) (.old rfl (BLe.refl _) (.old rfl (BLe.refl _) (.old rfl (BLe.rowW (Nat.le_refl _) (ltS (Wks.of ?_) lt0)) .nil))))))
        · ((repeat' first | exact TLes.nil | refine TLes.cons (TLe.eq rfl) ?_); skip)
        · rw [hidx]
          rfl
      have hst := c_mStepM m s hr hs (by omega)
      ((repeat' first | refine Zac ?_ | (refine Zab tok (by rfl) ?_; conv => whnf) | (refine Zaq tok mix (by rfl) ?_; conv => whnf) | (refine @And.intro (Zaa _ _ _ _) _ ?_ ?_; rotate_left; (conv => whnf); rotate_right)); all_goals (try ((guard_target = Zaa _ _ _ _); refine Zae ?_; (all_goals (try simp only [Zaa, kzz, kz11, kz12, maxL, Zad] at *)); all_goals omega)))
      refine .inl ⟨_, _, _, uG (QC.fc hst rfl), ?_⟩
      conv => whnf
      (repeat' ((fail_if_success (show AWp _ _ _ (Code.region 19 _ _) _ _)); (fail_if_success (show AWp _ _ _ (Code.region 20 _ _) _ _)); first | refine Zac ?_ | (refine Zab tok (by rfl) ?_; conv => whnf) | (refine Zah ?_; conv => whnf) | refine Zaf rfl (fun hb => ?_) (fun hb => ?_)))
      · exfalso; cases hb
      clear hb
      have hth := fun h => thrB_iff (m := m) (f := topF s) h
      (repeat' ((fail_if_success (show AWp _ _ _ (Code.region 21 _ _) _ _)); first | (refine Zab tok (by rfl) ?_; conv => whnf) | refine Zak ?_))
      refine Za3 (fun k : Nat => mkS [(2, .bp (2, 0, 0) 0), (5, .bp (5, 0, 0) 0), (7, .rs (33, 0, 0) 1 0 LO.length), (8, .rs (35, 0, 0) 1 0 LT.length), (9, .rs (37, 0, 0) 1 0 LW.length), (10, iv i), (13, .bool (thrB m (topF s))), (14, .bp (14, 0, 0) 0), (16, iv k)] [((2, 0, 0), Za8 (Zba m)), ((5, 0, 0), .row true 21 1 (fun _ => Zbw s)), ((33, 0, 0), Zeh LO), ((35, 0, 0), Zeh LT), ((37, 0, 0), Zeh LW), ((14, 0, 0), .row true 21 1 (fun _ => Zbw (Zb8 m s)))]) (fun k => k ≤ s.stack.length) (fun k => s.stack.length - k) 0 (Nat.zero_le _) ?_ ?_
      · refine Weak.list [((2, 0, 0), .old (2, 0, 0), Za8 (Zba m)), ((5, 0, 0), .old (5, 0, 0), .row true 21 1 (fun _ => Zbw s)), ((33, 0, 0), .old (33, 0, 0), Zeh LO), ((35, 0, 0), .old (35, 0, 0), Zeh LT), ((37, 0, 0), .old (37, 0, 0), Zeh LW), ((14, 0, 0), .old (14, 0, 0), .row true 21 1 (fun _ => Zbw (Zb8 m s)))] rfl (by rfl) ?_ (.old rfl (BLe.refl _) (.old rfl (BLe.refl _) (.old rfl (BLe.refl _) (.old rfl (BLe.refl _) (.old rfl (BLe.refl _) (.old rfl (BLe.rowW (Nat.le_refl _) (ltS (Wks.of rfl) lt0)) .nil))))))
        ((repeat' first | exact TLes.nil | refine TLes.cons (TLe.eq rfl) ?_); skip)
      intro k hk
      (repeat' ((fail_if_success (show AWp _ _ _ (Code.region 23 _ _) _ _)); (fail_if_success (show AWp _ _ _ (Code.region 26 _ _) _ _)); first | refine Zac ?_ | (refine Zab tok (by rfl) ?_; conv => whnf) | refine Zak ?_ | (refine Zah ?_; conv => whnf) | (refine Za5 ?_; conv => whnf) | refine Zaf rfl (fun hb => ?_) (fun hb => ?_)))
      · have hkl : k < s.stack.length := by simp only [decide_eq_true_eq] at hb; omega
        clear hb
        have hFk : OkF m (s.stack.getD k default) := hs.ok.fr _ (Zcb _ hkl)
        have g0 := hFk.f0
        have g1 := hFk.f1
        have hO' : thrB m (topF s) = true → (Zb8 m s).stack.length ≤ k → LO.getD (0 + (s.stack.getD (k : Int).toNat default).f.toNat) false = true := fun h1 h2 => by
          rw [Nat.zero_add]; exact kO hd (hth h1).1 (hth h1).2 hkl h2
        have hT' : LT.getD (0 + (s.stack.getD (k : Int).toNat default).f.toNat) false = false → (Zb8 m s).events.length = s.events.length := fun h => Classical.byContradiction fun hc => by
          have := kT hd hc hkl
          rw [Nat.zero_add] at h
          exact absurd (h.symm.trans this) (by simp)
        have hW' : LW.getD (0 + (s.stack.getD (k : Int).toNat default).f.toNat) false = false → (Zb8 m s).cells = s.cells := fun h => Classical.byContradiction fun hc => by
          have := kW hd hc hkl
          rw [Nat.zero_add] at h
          exact absurd (h.symm.trans this) (by simp)
        ((repeat' ((fail_if_success (show AWp _ _ _ (Code.region 25 _ _) _ _)); first | refine Zac ?_ | (refine Zab tok (by rfl) ?_; conv => whnf) | (refine Zah ?_; conv => whnf) | refine Zaf rfl (fun hb => ?_) (fun hb => ?_) | (refine @And.intro (Zaa _ _ _ _) _ ?_ ?_; rotate_left; (conv => whnf); rotate_right))); all_goals (try ((guard_target = Zaa _ _ _ _); (first | refine Zae ?_ | (refine Za4 ?_; intro hgd; (conv at hgd => whnf))); (all_goals (try simp only [Zaa, kzz, kz11, kz12, maxL, Zad] at *)); all_goals omega)))
        · exfalso
          have cA : (bif bif thrB m (topF s) then decide (((Zb8 m s).stack.length : Int) ≤ (k : Int)) else false then !LO.getD (0 + (s.stack.getD (k : Int).toNat default).f.toNat) false else false) = false := by
            cases e1 : thrB m (topF s) with
            | false => rfl
            | true =>
              by_cases h2 : (Zb8 m s).stack.length ≤ k
              · rw [hO' e1 h2]; simp
              · rw [decide_eq_false (by omega)]; rfl
          have cB : (bif !LT.getD (0 + (s.stack.getD (k : Int).toNat default).f.toNat) false then !decide (((Zb8 m s).events.length : Int) = (s.events.length : Int)) else false) = false := by
            cases e : LT.getD (0 + (s.stack.getD (k : Int).toNat default).f.toNat) false with
            | true => rfl
            | false => rw [decide_eq_true (by rw [hT' e])]; rfl
          have cC : (bif !LW.getD (0 + (s.stack.getD (k : Int).toNat default).f.toNat) false then (bif true then !decide (cellsL (Zb8 m s) = cellsL s) else decide (cellsL (Zb8 m s) = cellsL s)) else false) = false := by
            cases e : LW.getD (0 + (s.stack.getD (k : Int).toNat default).f.toNat) false with
            | true => rfl
            | false => rw [decide_eq_true (show cellsL (Zb8 m s) = cellsL s by unfold cellsL; rw [hW' e])]; rfl
          have h2 : (bif (bif (bif bif thrB m (topF s) then decide (((Zb8 m s).stack.length : Int) ≤ (k : Int)) else false then !LO.getD (0 + (s.stack.getD (k : Int).toNat default).f.toNat) false else false) then true else (bif !LT.getD (0 + (s.stack.getD (k : Int).toNat default).f.toNat) false then !decide (((Zb8 m s).events.length : Int) = (s.events.length : Int)) else false)) then true
            else (bif !LW.getD (0 + (s.stack.getD (k : Int).toNat default).f.toNat) false then (bif true then !decide (cellsL (Zb8 m s) = cellsL s) else decide (cellsL (Zb8 m s) = cellsL s)) else false)) = true := hb
          rw [cA, cB, cC] at h2
          cases h2
        · clear hb
          refine ⟨k + 1, hkl, by omega, ?_⟩
          refine Weak.list [((2, 0, 0), .old (2, 0, 0), Za8 (Zba m)), ((5, 0, 0), .old (5, 0, 0), .row true 21 1 (fun _ => Zbw s)), ((33, 0, 0), .old (33, 0, 0), Zeh LO), ((35, 0, 0), .old (35, 0, 0), Zeh LT), ((37, 0, 0), .old (37, 0, 0), Zeh LW), ((14, 0, 0), .old (14, 0, 0), .row true 21 1 (fun _ => Zbw (Zb8 m s)))] rfl (by rfl) ?_ (.old rfl (BLe.refl _) (.old rfl (BLe.refl _) (.old rfl (BLe.refl _) (.old rfl (BLe.refl _) (.old rfl (BLe.refl _) (.old rfl (BLe.refl _) .nil))))))
          ((repeat' first | exact TLes.nil | refine TLes.cons (TLe.eq rfl) ?_ | refine TLes.cons (TLe.int ?_) ?_); (all_goals first | ((try (simp only [Zaa, kzz, kz11, kz12, maxL, Zad] at *)); exact Zal (by omega) (by omega)) | skip))
      · clear hb
        (repeat' (refine Zab tok (by rfl) ?_; conv => whnf))
        refine ⟨i + 1, hlt, by omega, ?_⟩
        refine Weak.list [((2, 0, 0), .old (2, 0, 0), Za8 (Zba m)), ((5, 0, 0), .old (5, 0, 0), .row true 21 1 (fun _ => Zbw (runM m inputs (i + 1)))), ((33, 0, 0), .old (33, 0, 0), Zeh LO), ((35, 0, 0), .old (35, 0, 0), Zeh LT), ((37, 0, 0), .old (37, 0, 0), Zeh LW)] rfl (by rfl) ?_ (.old rfl (BLe.refl _) (.old rfl (BLe.rowW (Nat.le_refl _) (ltS (Wks.of (by rw [hs1]; rfl)) lt0)) (.old rfl (BLe.refl _) (.old rfl (BLe.refl _) (.old rfl (BLe.refl _) .nil)))))
        ((repeat' first | exact TLes.nil | refine TLes.cons (TLe.eq rfl) ?_ | refine TLes.cons (TLe.int ?_) ?_); (all_goals first | ((try (simp only [Zaa, kzz, kz11, kz12, maxL, Zad] at *)); exact Zal (by omega) (by omega)) | skip))
    · (repeat' first | (refine Zab tok (by rfl) ?_; conv => whnf) | (refine Zaj ?_; conv => whnf))
      exact ⟨_, rfl, Rel.bool rfl⟩
end Go.Proofs.YtoelbgjpmpoolaaGreat
namespace Go.Proofs.YtoelbgjpmpoolaaGreat
open Go Dv Go.ChangeShapes Go.WideShapes Go.ChangeAt Go.RowKit
open Go.Proofs.YtoelbgjpmpoolaaGreat
set_option maxRecDepth 100000
set_option linter.unusedVariables false
namespace throwsSound
theorem own : ownKnob Tryz.prog.godebug = none := by kernel_rfl
theorem contract (H : Type) (enc : TypeId × Value → H) (W : World) (base : Nat) (args : Array Value) (ds gs : List (DataW H)) (before : List MemPlace) (hk : Rows.uptoSmall H (ds ++ gs) = true)
    (hval : ∀ (j : Nat) t v, Tryz.f6.params[j]? = some t → args[j]? = some v → Value.okWide Tryz.prog W .any base t v)
    (hW : DataW.Whole enc Tryz.prog Tryz.f6.params.toList Rows.throwsSoundSpec.vars false W args.toList ds gs before) :
    Calls Tryz.prog 6 args W fun e W' => ∃ v, e = .returned v ∧ Rows.throwsSoundSpec.post enc Tryz.prog Tryz.f6 false true false false W args v W' := by
  have hsm := small_of hk
  have hW' := hW
  obtain ⟨p, q, hA0, hV, rfl, hfz, hnd⟩ := hW
  have hA : DataW.TrodAll enc Tryz.prog W 0 (fun _ => true) true Tryz.f6.params.toList args.toList ds p := hA0
  rw [Tryz.params6] at hA hval
  obtain ⟨v0, vs0, d0, ds0, p0, q0, hargs, rfl, rfl, h0, r0⟩ := trodAll_cons hA
  obtain ⟨v1, vs1, d1, ds1, p1, q1, rfl, rfl, rfl, h1, r1⟩ := trodAll_cons r0
  obtain ⟨rfl, rfl, rfl⟩ := trodAll_nil r1
  obtain rfl : args = #[v0, v1] := by cases args; simp_all
  obtain ⟨x0, hx0⟩ := arg_struct Tryz.underlying24 (hval 0 _ v0 rfl rfl) h0 rd_Module (hsm d0 (by simp))
  obtain ⟨x1, hx1⟩ := arg_slice Tryz.underlying25 (hval 1 _ v1 rfl rfl) h1 rd_u16s (hsm d1 (by simp))
  obtain ⟨rfl, rfl⟩ := trodVars_none hV
  refine law_contract (tb := 4) (by decide +kernel) (by rw [Tryz.params6]; decide +kernel) rfl (by kernel_rfl) Tryz.underlying4 hW' ⟨rfl, rfl, rfl⟩ (FC.calls (c_ThrowsSound x0 x1) ?_)
  simp only [Vs]
  exact ⟨_, _, rfl, hx0, _, _, rfl, hx1, rfl⟩
theorem lifted (os : Os) (started : os.Started) (H : Type) (enc : TypeId × Value → H) (F : Stop.Interp) :
    ReturnsInHanded {} Tryz.checked os 6 .any ((Rows.OpenSpec.upto Rows.throwsSoundSpec).pre6 enc Tryz.prog Tryz.f6 Rows.throwsSoundUptoRow.domain false) (((Rows.OpenSpec.upto Rows.throwsSoundSpec).at F).post enc Tryz.prog Tryz.f6 false true false false) := by
  refine returnsInHanded_of_cond (C := Tryz.checked) (s := Rows.OpenSpec.upto Rows.throwsSoundSpec) (k := Rows.uptoSmall) rfl own started (by kernel_rfl) Tryz.func6
    (OpenSpec.witness (enc := enc) (C := Tryz.checked) (s := Rows.OpenSpec.upto Rows.throwsSoundSpec) (k := Rows.uptoSmall) rfl false ⟨#[], #[.agg #[.slice none 0 0], .slice none 0 0], []⟩ 64 (by kernel_rfl) (by kernel_rfl) (by kernel_rfl)
      (x := ([.agg [.nil], .nil], [], [])) (by kernel_rfl) rfl (by kernel_rfl)) ?_
  intro W base args ds gs before hval hW _ hk _
  exact contract H enc W base args ds gs before hk hval hW
theorem over : Rows.throwsSoundUptoRow.holds Tryz.pinned (Rows.OpenSpec.upto Rows.throwsSoundSpec) :=
  OpenClaim.holds_of_cond 6 Tryz.f6 rfl rfl rfl rfl rfl rfl rfl ⟨rfl, rfl, rfl, rfl, rfl⟩ rfl rfl rfl rfl rfl (by kernel_rfl) Tryz.func6 (by kernel_rfl)
    (of_decide_eq_true (by kernel_rfl)) (by unfold Func.isWrapper; first | (rw [if_pos (by decide +kernel)]; kernel_rfl) | (rw [if_neg (by decide +kernel)]; exact ⟨rfl, rfl⟩))
    (fun os started H enc _ F => lifted os started H enc F)
end throwsSound
theorem throwsSound_holds : Rows.ThrowsSoundUptoSaid := throwsSound.over
end Go.Proofs.YtoelbgjpmpoolaaGreat
