/- Whatever a module, the words told to it, and the steps: what ends Thrown by mach.Step, or lands, was thrown by the frame on top, and no frame below where it lands is changed. -/
import Derived.Test.YtoelbgjpmpoolaaDvc3
import Derived.Test.YtoelbgjpmpoolaaLawmachThrown2
import Derived.Test.YtoelbgjpmpoolaaRows
import Derived.WalkKit
import Derived.ProofKit
import Derived.OpenShut
import Derived.JoinedCond
import Derived.KernelRfl
set_option linter.unusedVariables false
set_option linter.unusedSimpArgs false
set_option linter.unnecessarySimpa false
namespace Go.Proofs.Ytoelbgjpmpoolaa
open Go Dv
set_option maxRecDepth 10000
set_option linter.unusedSimpArgs false
set_option maxHeartbeats 4000000 in
theorem c_mStep1 (m : Zai) (s : Mach) (f : Zaw) (b : Ze1) (hf : topF s = f) (hbe : Zas m f = b) (h : 0 < s.stack.length) (h32 : s.stack.length ≤ 32) (hF : OkF m f) (he : endB m f = true) (hk : b.fin.kind = 1) (ha : 0 ≤ b.fin.a ∧ b.fin.a < f.regs.length) (hc : HG Try.prog LW 29 (mem m s) [.bp jB 0, .int .u16 (regA f b.fin.a)] (.tup []) (mem m (Zbq m s (regA f b.fin.a)))) :
    HG Try.prog [jB] 17 (mem m s) [.bp jB 0] (.tup []) (mem m (Zbq m s (regA f b.fin.a))) := by
  refine Za4 tok Try.func17 rfl (by decide +kernel) (Nat.le_of_ble_eq_true rfl) ?_
  have hmx : maxL = 4294967296 := rfl
  have hft : s.stack.getD (s.stack.length - 1) default = f := hf
  have hT := Zfe m s h (by omega)
  have hB := Zc7 m s (s.stack.length - 1) (by omega) (by rw [hft]; exact hF)
  rw [hft] at hB
  have hE : f.at_ = (Zas m f).ins.length := of_decide_eq_true he
  have a0 := hF.a0
  have a1 := hF.a1
  rw [hbe] at hB hE a1
  (repeat' ((fail_if_success (show AWp _ _ _ (Code.region 0 _ _) _ _)); refine Zac ?_))
  (repeat' (refine Zab tok (by rfl) ?_; conv => whnf))
  refine .inr ⟨_, _, _, uG (QH.tnM (by simp) (by simp) hT h32 (Zaz rfl rfl rfl rfl (fun _ => rfl)) rfl (fun q hq => Zan hq)), ?_⟩
  conv => whnf
  (repeat' ((fail_if_success (show AWp _ _ _ (Code.region 1 _ _) _ _)); refine Zac ?_))
  (repeat' (refine Zab tok (by rfl) ?_; conv => whnf))
  refine .inr ⟨_, _, _, uG (QH.tnM (by simp) (by simp) hB h32 (Zaz rfl rfl rfl rfl (fun _ => Zbn (fun hq => Zan (by omega)))) rfl (fun q hq => (Zbn (fun hq => Zan (by omega))).trans (Zan hq))), ?_⟩
  conv => whnf
  ((repeat' ((fail_if_success (show AWp _ _ _ (Code.region 3 _ _) _ _)); (fail_if_success (show AWp _ _ _ (Code.region 5 _ _) _ _)); first | refine Zac ?_ | (refine Zap tok mix (by rfl) ?_; conv => whnf) | (refine Zag ?_; conv => whnf) | refine Zaf rfl (fun hb => ?_) (fun hb => ?_) | (refine @And.intro (Zaa _ _ _ _) _ ?_ ?_; rotate_left; (conv => whnf); rotate_right))); all_goals (try ((guard_target = Zaa _ _ _ _); refine Zae ?_; (all_goals (try simp only [Zaa, kzz, kz11, kz12, maxL, Zad] at *)); all_goals omega)))
  · exfalso
    rw [hft] at hb
    simp only [decide_eq_true_eq] at hb
    omega
  clear hb
  refine Zau (weakW (m := m) (s := s) (L := [jB]) (tl := [(0, .bp jB 0), (2, .rp jF 5 (s.stack.length - 1) 0), (3, .bp (3, 0, 0) 0)]) (el := [((3, 0, 0), Za6 (Zbl b))]) ?_ ?_ (fun q hq => Za9 hq) (fun i hi _ => by rw [List.mem_singleton.1 hi]; exact ⟨rfl, rfl⟩)) ?_
  · exact .cons (.bp rfl rfl) (.cons (.rp rfl rfl rfl) (.cons (.bp rfl rfl) .nil))
  · exact .old rfl rfl (GB.one (GVs.imm rfl) (fun _ => rfl)) (Zck rfl rfl rfl rfl (fun _ => rfl) rfl rfl rfl rfl rfl rfl rfl (fun q hq => Zcg hq))
  have hle : s.stack.length - 1 < s.stack.length := by omega
  (repeat' ((fail_if_success (show AWp _ _ _ (Code.region 8 _ _) _ _)); (fail_if_success (show AWp _ _ _ (Code.region 9 _ _) _ _)); first | refine Zac ?_ | (refine Zab tok (by rfl) ?_; conv => whnf) | refine Zak ?_ | refine Zaf rfl (fun hb => ?_) (fun hb => ?_)))
  rotate_left
  · exfalso; simp only [decide_eq_false_iff_not] at hb; omega
  clear hb
  have haa : b.fin.a.toNat < (topF s).regs.length := by rw [hf]; omega
  have hc' : HG Try.prog LW 29 (mem m s) [.bp jB 0, .int .u16 ((topF s).regs.getD (0 + b.fin.a.toNat) 0)] (.tup []) (mem m (Zbq m s (regA f b.fin.a))) := by rw [Nat.zero_add, hf]; exact hc
  ((repeat' first | (refine Zap tok mix (by rfl) ?_; conv => whnf) | (refine @And.intro (Zaa _ _ _ _) _ ?_ ?_; rotate_left; (conv => whnf); rotate_right)); all_goals (try ((guard_target = Zaa _ _ _ _); refine Zae ?_; (all_goals (try simp only [Zaa, kzz, kz11, kz12, maxL, Zad] at *)); all_goals omega)))
  refine fAV (x := Zbg s.stack (s.stack.length - 1)) (y := .rs jT 1 0 (topF s).regs.length) (Zbe h rfl) ?_
  conv => whnf
  ((repeat' (refine @And.intro (Zaa _ _ _ _) _ ?_ ?_; rotate_left; (conv => whnf); rotate_right)); all_goals (try ((guard_target = Zaa _ _ _ _); refine Zae ?_; (all_goals (try simp only [Zaa, kzz, kz11, kz12, maxL, Zad] at *)); all_goals omega)))
  refine .inr ⟨_, _, _, uG (QH.tnM (by simp) (by simp) hc' h32 (Zaz rfl rfl rfl rfl (fun _ => rfl)) rfl (fun q hq => Zan hq)), ?_⟩
  conv => whnf
  skip
  refine ⟨_, srcL [], rfl, ?_⟩
  rw [← and_assoc]
  exact ⟨Zdd (s := Zbq m s (regA f b.fin.a)) rfl rfl rfl (Zce rfl rfl rfl) rfl rfl rfl (fun q hq => Za9 hq), .tup .nil, fun i hi hp => Zcq i (by rw [List.mem_singleton.1 hi]; exact .head _) hp⟩
set_option maxHeartbeats 4000000 in
theorem c_mStep5 (m : Zai) (s : Mach) (f : Zaw) (b : Ze1) (hf : topF s = f) (hbe : Zas m f = b) (h : 0 < s.stack.length) (h32 : s.stack.length ≤ 32) (hF : OkF m f) (he : endB m f = true) (hk : b.fin.kind = 5) (ha : 0 ≤ b.fin.a ∧ b.fin.a < f.regs.length) (hc : HG Try.prog LW 32 (mem m s) [.bp jB 0, .int .u16 (regA f b.fin.a)] (.tup []) (mem m (Zbc m s (regA f b.fin.a)))) :
    HG Try.prog [jB] 17 (mem m s) [.bp jB 0] (.tup []) (mem m (Zbc m s (regA f b.fin.a))) := by
  refine Za4 tok Try.func17 rfl (by decide +kernel) (Nat.le_of_ble_eq_true rfl) ?_
  have hmx : maxL = 4294967296 := rfl
  have hft : s.stack.getD (s.stack.length - 1) default = f := hf
  have hT := Zfe m s h (by omega)
  have hB := Zc7 m s (s.stack.length - 1) (by omega) (by rw [hft]; exact hF)
  rw [hft] at hB
  have hE : f.at_ = (Zas m f).ins.length := of_decide_eq_true he
  have a0 := hF.a0
  have a1 := hF.a1
  rw [hbe] at hB hE a1
  (repeat' ((fail_if_success (show AWp _ _ _ (Code.region 0 _ _) _ _)); refine Zac ?_))
  (repeat' (refine Zab tok (by rfl) ?_; conv => whnf))
  refine .inr ⟨_, _, _, uG (QH.tnM (by simp) (by simp) hT h32 (Zaz rfl rfl rfl rfl (fun _ => rfl)) rfl (fun q hq => Zan hq)), ?_⟩
  conv => whnf
  (repeat' ((fail_if_success (show AWp _ _ _ (Code.region 1 _ _) _ _)); refine Zac ?_))
  (repeat' (refine Zab tok (by rfl) ?_; conv => whnf))
  refine .inr ⟨_, _, _, uG (QH.tnM (by simp) (by simp) hB h32 (Zaz rfl rfl rfl rfl (fun _ => Zbn (fun hq => Zan (by omega)))) rfl (fun q hq => (Zbn (fun hq => Zan (by omega))).trans (Zan hq))), ?_⟩
  conv => whnf
  ((repeat' ((fail_if_success (show AWp _ _ _ (Code.region 3 _ _) _ _)); (fail_if_success (show AWp _ _ _ (Code.region 5 _ _) _ _)); first | refine Zac ?_ | (refine Zap tok mix (by rfl) ?_; conv => whnf) | (refine Zag ?_; conv => whnf) | refine Zaf rfl (fun hb => ?_) (fun hb => ?_) | (refine @And.intro (Zaa _ _ _ _) _ ?_ ?_; rotate_left; (conv => whnf); rotate_right))); all_goals (try ((guard_target = Zaa _ _ _ _); refine Zae ?_; (all_goals (try simp only [Zaa, kzz, kz11, kz12, maxL, Zad] at *)); all_goals omega)))
  · exfalso
    rw [hft] at hb
    simp only [decide_eq_true_eq] at hb
    omega
  clear hb
  refine Zau (weakW (m := m) (s := s) (L := [jB]) (tl := [(0, .bp jB 0), (2, .rp jF 5 (s.stack.length - 1) 0), (3, .bp (3, 0, 0) 0)]) (el := [((3, 0, 0), Za6 (Zbl b))]) ?_ ?_ (fun q hq => Za9 hq) (fun i hi _ => by rw [List.mem_singleton.1 hi]; exact ⟨rfl, rfl⟩)) ?_
  · exact .cons (.bp rfl rfl) (.cons (.rp rfl rfl rfl) (.cons (.bp rfl rfl) .nil))
  · exact .old rfl rfl (GB.one (GVs.imm rfl) (fun _ => rfl)) (Zck rfl rfl rfl rfl (fun _ => rfl) rfl rfl rfl rfl rfl rfl rfl (fun q hq => Zcg hq))
  have hle : s.stack.length - 1 < s.stack.length := by omega
  (repeat' ((fail_if_success (show AWp _ _ _ (Code.region 8 _ _) _ _)); (fail_if_success (show AWp _ _ _ (Code.region 9 _ _) _ _)); first | refine Zac ?_ | (refine Zab tok (by rfl) ?_; conv => whnf) | refine Zak ?_ | refine Zaf rfl (fun hb => ?_) (fun hb => ?_)))
  · exfalso; simp only [decide_eq_true_eq] at hb; omega
  clear hb
  (repeat' ((fail_if_success (show AWp _ _ _ (Code.region 10 _ _) _ _)); (fail_if_success (show AWp _ _ _ (Code.region 11 _ _) _ _)); first | refine Zac ?_ | (refine Zab tok (by rfl) ?_; conv => whnf) | refine Zaf rfl (fun hb => ?_) (fun hb => ?_)))
  · exfalso; simp only [decide_eq_true_eq] at hb; omega
  clear hb
  (repeat' ((fail_if_success (show AWp _ _ _ (Code.region 12 _ _) _ _)); (fail_if_success (show AWp _ _ _ (Code.region 16 _ _) _ _)); first | refine Zac ?_ | (refine Zab tok (by rfl) ?_; conv => whnf) | refine Zaf rfl (fun hb => ?_) (fun hb => ?_)))
  · exfalso; simp only [decide_eq_true_eq] at hb; omega
  clear hb
  (repeat' ((fail_if_success (show AWp _ _ _ (Code.region 17 _ _) _ _)); (fail_if_success (show AWp _ _ _ (Code.region 18 _ _) _ _)); first | refine Zac ?_ | (refine Zab tok (by rfl) ?_; conv => whnf) | refine Zaf rfl (fun hb => ?_) (fun hb => ?_)))
  · exfalso; simp only [decide_eq_true_eq] at hb; omega
  clear hb
  (repeat' ((fail_if_success (show AWp _ _ _ (Code.region 19 _ _) _ _)); (fail_if_success (show AWp _ _ _ (Code.region 20 _ _) _ _)); first | refine Zac ?_ | (refine Zab tok (by rfl) ?_; conv => whnf) | refine Zaf rfl (fun hb => ?_) (fun hb => ?_)))
  rotate_left
  · exfalso; simp only [decide_eq_false_iff_not] at hb; omega
  clear hb
  have haa : b.fin.a.toNat < (topF s).regs.length := by rw [hf]; omega
  have hc' : HG Try.prog LW 32 (mem m s) [.bp jB 0, .int .u16 ((topF s).regs.getD (0 + b.fin.a.toNat) 0)] (.tup []) (mem m (Zbc m s (regA f b.fin.a))) := by rw [Nat.zero_add, hf]; exact hc
  ((repeat' first | (refine Zap tok mix (by rfl) ?_; conv => whnf) | (refine @And.intro (Zaa _ _ _ _) _ ?_ ?_; rotate_left; (conv => whnf); rotate_right)); all_goals (try ((guard_target = Zaa _ _ _ _); refine Zae ?_; (all_goals (try simp only [Zaa, kzz, kz11, kz12, maxL, Zad] at *)); all_goals omega)))
  refine fAV (x := Zbg s.stack (s.stack.length - 1)) (y := .rs jT 1 0 (topF s).regs.length) (Zbe h rfl) ?_
  conv => whnf
  ((repeat' (refine @And.intro (Zaa _ _ _ _) _ ?_ ?_; rotate_left; (conv => whnf); rotate_right)); all_goals (try ((guard_target = Zaa _ _ _ _); refine Zae ?_; (all_goals (try simp only [Zaa, kzz, kz11, kz12, maxL, Zad] at *)); all_goals omega)))
  refine .inr ⟨_, _, _, uG (QH.tnM (by simp) (by simp) hc' h32 (Zaz rfl rfl rfl rfl (fun _ => rfl)) rfl (fun q hq => Zan hq)), ?_⟩
  conv => whnf
  skip
  refine ⟨_, srcL [], rfl, ?_⟩
  rw [← and_assoc]
  exact ⟨Zdd (s := Zbc m s (regA f b.fin.a)) rfl rfl rfl (Zce rfl rfl rfl) rfl rfl rfl (fun q hq => Za9 hq), .tup .nil, fun i hi hp => Zcq i (by rw [List.mem_singleton.1 hi]; exact .head _) hp⟩
set_option maxHeartbeats 4000000 in
theorem c_mStep6 (m : Zai) (s : Mach) (f : Zaw) (b : Ze1) (hf : topF s = f) (hbe : Zas m f = b) (h : 0 < s.stack.length) (h32 : s.stack.length ≤ 32) (hF : OkF m f) (he : endB m f = true) (hk : b.fin.kind = 6) (hc : HG Try.prog LW 32 (mem m s) [.bp jB 0, .int .u16 f.fly] (.tup []) (mem m (Zbc m s f.fly))) :
    HG Try.prog [jB] 17 (mem m s) [.bp jB 0] (.tup []) (mem m (Zbc m s f.fly)) := by
  refine Za4 tok Try.func17 rfl (by decide +kernel) (Nat.le_of_ble_eq_true rfl) ?_
  have hmx : maxL = 4294967296 := rfl
  have hft : s.stack.getD (s.stack.length - 1) default = f := hf
  have hT := Zfe m s h (by omega)
  have hB := Zc7 m s (s.stack.length - 1) (by omega) (by rw [hft]; exact hF)
  rw [hft] at hB
  have hE : f.at_ = (Zas m f).ins.length := of_decide_eq_true he
  have a0 := hF.a0
  have a1 := hF.a1
  rw [hbe] at hB hE a1
  (repeat' ((fail_if_success (show AWp _ _ _ (Code.region 0 _ _) _ _)); refine Zac ?_))
  (repeat' (refine Zab tok (by rfl) ?_; conv => whnf))
  refine .inr ⟨_, _, _, uG (QH.tnM (by simp) (by simp) hT h32 (Zaz rfl rfl rfl rfl (fun _ => rfl)) rfl (fun q hq => Zan hq)), ?_⟩
  conv => whnf
  (repeat' ((fail_if_success (show AWp _ _ _ (Code.region 1 _ _) _ _)); refine Zac ?_))
  (repeat' (refine Zab tok (by rfl) ?_; conv => whnf))
  refine .inr ⟨_, _, _, uG (QH.tnM (by simp) (by simp) hB h32 (Zaz rfl rfl rfl rfl (fun _ => Zbn (fun hq => Zan (by omega)))) rfl (fun q hq => (Zbn (fun hq => Zan (by omega))).trans (Zan hq))), ?_⟩
  conv => whnf
  ((repeat' ((fail_if_success (show AWp _ _ _ (Code.region 3 _ _) _ _)); (fail_if_success (show AWp _ _ _ (Code.region 5 _ _) _ _)); first | refine Zac ?_ | (refine Zap tok mix (by rfl) ?_; conv => whnf) | (refine Zag ?_; conv => whnf) | refine Zaf rfl (fun hb => ?_) (fun hb => ?_) | (refine @And.intro (Zaa _ _ _ _) _ ?_ ?_; rotate_left; (conv => whnf); rotate_right))); all_goals (try ((guard_target = Zaa _ _ _ _); refine Zae ?_; (all_goals (try simp only [Zaa, kzz, kz11, kz12, maxL, Zad] at *)); all_goals omega)))
  · exfalso
    rw [hft] at hb
    simp only [decide_eq_true_eq] at hb
    omega
  clear hb
  refine Zau (weakW (m := m) (s := s) (L := [jB]) (tl := [(0, .bp jB 0), (2, .rp jF 5 (s.stack.length - 1) 0), (3, .bp (3, 0, 0) 0)]) (el := [((3, 0, 0), Za6 (Zbl b))]) ?_ ?_ (fun q hq => Za9 hq) (fun i hi _ => by rw [List.mem_singleton.1 hi]; exact ⟨rfl, rfl⟩)) ?_
  · exact .cons (.bp rfl rfl) (.cons (.rp rfl rfl rfl) (.cons (.bp rfl rfl) .nil))
  · exact .old rfl rfl (GB.one (GVs.imm rfl) (fun _ => rfl)) (Zck rfl rfl rfl rfl (fun _ => rfl) rfl rfl rfl rfl rfl rfl rfl (fun q hq => Zcg hq))
  have hle : s.stack.length - 1 < s.stack.length := by omega
  (repeat' ((fail_if_success (show AWp _ _ _ (Code.region 8 _ _) _ _)); (fail_if_success (show AWp _ _ _ (Code.region 9 _ _) _ _)); first | refine Zac ?_ | (refine Zab tok (by rfl) ?_; conv => whnf) | refine Zak ?_ | refine Zaf rfl (fun hb => ?_) (fun hb => ?_)))
  · exfalso; simp only [decide_eq_true_eq] at hb; omega
  clear hb
  (repeat' ((fail_if_success (show AWp _ _ _ (Code.region 10 _ _) _ _)); (fail_if_success (show AWp _ _ _ (Code.region 11 _ _) _ _)); first | refine Zac ?_ | (refine Zab tok (by rfl) ?_; conv => whnf) | refine Zaf rfl (fun hb => ?_) (fun hb => ?_)))
  · exfalso; simp only [decide_eq_true_eq] at hb; omega
  clear hb
  (repeat' ((fail_if_success (show AWp _ _ _ (Code.region 12 _ _) _ _)); (fail_if_success (show AWp _ _ _ (Code.region 16 _ _) _ _)); first | refine Zac ?_ | (refine Zab tok (by rfl) ?_; conv => whnf) | refine Zaf rfl (fun hb => ?_) (fun hb => ?_)))
  · exfalso; simp only [decide_eq_true_eq] at hb; omega
  clear hb
  (repeat' ((fail_if_success (show AWp _ _ _ (Code.region 17 _ _) _ _)); (fail_if_success (show AWp _ _ _ (Code.region 18 _ _) _ _)); first | refine Zac ?_ | (refine Zab tok (by rfl) ?_; conv => whnf) | refine Zaf rfl (fun hb => ?_) (fun hb => ?_)))
  · exfalso; simp only [decide_eq_true_eq] at hb; omega
  clear hb
  (repeat' ((fail_if_success (show AWp _ _ _ (Code.region 19 _ _) _ _)); (fail_if_success (show AWp _ _ _ (Code.region 20 _ _) _ _)); first | refine Zac ?_ | (refine Zab tok (by rfl) ?_; conv => whnf) | refine Zaf rfl (fun hb => ?_) (fun hb => ?_)))
  · exfalso; simp only [decide_eq_true_eq] at hb; omega
  clear hb
  (repeat' ((fail_if_success (show AWp _ _ _ (Code.region 21 _ _) _ _)); first | (refine Zab tok (by rfl) ?_; conv => whnf) | (refine Zag ?_; conv => whnf) | refine Zaf rfl (fun hb => ?_) (fun hb => ?_)))
  rotate_left
  · exfalso; simp only [decide_eq_false_iff_not] at hb; omega
  clear hb
  have hc' : HG Try.prog LW 32 (mem m s) [.bp jB 0, .int .u16 (s.stack.getD (s.stack.length - 1) default).fly] (.tup []) (mem m (Zbc m s f.fly)) := by rw [hft]; exact hc
  ((repeat' first | (refine Zab tok (by rfl) ?_; conv => whnf) | (refine @And.intro (Zaa _ _ _ _) _ ?_ ?_; rotate_left; (conv => whnf); rotate_right)); all_goals (try ((guard_target = Zaa _ _ _ _); refine Zae ?_; (all_goals (try simp only [Zaa, kzz, kz11, kz12, maxL, Zad] at *)); all_goals omega)))
  refine .inr ⟨_, _, _, uG (QH.tnM (by simp) (by simp) hc' h32 (Zaz rfl rfl rfl rfl (fun _ => rfl)) rfl (fun q hq => Zan hq)), ?_⟩
  conv => whnf
  skip
  refine ⟨_, srcL [], rfl, ?_⟩
  rw [← and_assoc]
  exact ⟨Zdd (s := Zbc m s f.fly) rfl rfl rfl (Zce rfl rfl rfl) rfl rfl rfl (fun q hq => Za9 hq), .tup .nil, fun i hi hp => Zcq i (by rw [List.mem_singleton.1 hi]; exact .head _) hp⟩
set_option maxHeartbeats 4000000 in
theorem c_mStep4 (m : Zai) (s : Mach) (f : Zaw) (b : Ze1) (hf : topF s = f) (hbe : Zas m f = b) (h : 0 < s.stack.length) (h32 : s.stack.length ≤ 32) (hF : OkF m f) (he : endB m f = true) (hk : b.fin.kind = 4) (hc : HG Try.prog [jB] 31 (mem m s) [.bp jB 0, iv b.fin.f, ints b.fin.args] (.tup []) (mem m (Zb0 m s b.fin.f b.fin.args))) :
    HG Try.prog [jB] 17 (mem m s) [.bp jB 0] (.tup []) (mem m (Zb0 m s b.fin.f b.fin.args)) := by
  refine Za4 tok Try.func17 rfl (by decide +kernel) (Nat.le_of_ble_eq_true rfl) ?_
  have hmx : maxL = 4294967296 := rfl
  have hft : s.stack.getD (s.stack.length - 1) default = f := hf
  have hT := Zfe m s h (by omega)
  have hB := Zc7 m s (s.stack.length - 1) (by omega) (by rw [hft]; exact hF)
  rw [hft] at hB
  have hE : f.at_ = (Zas m f).ins.length := of_decide_eq_true he
  have a0 := hF.a0
  have a1 := hF.a1
  rw [hbe] at hB hE a1
  (repeat' ((fail_if_success (show AWp _ _ _ (Code.region 0 _ _) _ _)); refine Zac ?_))
  (repeat' (refine Zab tok (by rfl) ?_; conv => whnf))
  refine .inr ⟨_, _, _, uG (QH.tnM (by simp) (by simp) hT h32 (Zaz rfl rfl rfl rfl (fun _ => rfl)) rfl (fun q hq => Zan hq)), ?_⟩
  conv => whnf
  (repeat' ((fail_if_success (show AWp _ _ _ (Code.region 1 _ _) _ _)); refine Zac ?_))
  (repeat' (refine Zab tok (by rfl) ?_; conv => whnf))
  refine .inr ⟨_, _, _, uG (QH.tnM (by simp) (by simp) hB h32 (Zaz rfl rfl rfl rfl (fun _ => Zbn (fun hq => Zan (by omega)))) rfl (fun q hq => (Zbn (fun hq => Zan (by omega))).trans (Zan hq))), ?_⟩
  conv => whnf
  ((repeat' ((fail_if_success (show AWp _ _ _ (Code.region 3 _ _) _ _)); (fail_if_success (show AWp _ _ _ (Code.region 5 _ _) _ _)); first | refine Zac ?_ | (refine Zap tok mix (by rfl) ?_; conv => whnf) | (refine Zag ?_; conv => whnf) | refine Zaf rfl (fun hb => ?_) (fun hb => ?_) | (refine @And.intro (Zaa _ _ _ _) _ ?_ ?_; rotate_left; (conv => whnf); rotate_right))); all_goals (try ((guard_target = Zaa _ _ _ _); refine Zae ?_; (all_goals (try simp only [Zaa, kzz, kz11, kz12, maxL, Zad] at *)); all_goals omega)))
  · exfalso
    rw [hft] at hb
    simp only [decide_eq_true_eq] at hb
    omega
  clear hb
  refine Zau (Weak.fam (L := [jB]) (tl := [(0, .bp jB 0), (2, .rp jN 5 (s.stack.length - 1) 0), (3, .bp (3, 0, 0) 0)]) (hl := [((3, 0, 0), Za6 (Zbl b))] ++ memNL m s) (F := famW s.stack) [(jN, some jF)] rfl (fun c hc => ?_) ?_ ?_ ?_ (fun i hi _ => by rw [List.mem_singleton.1 hi]; exact ⟨rfl, rfl⟩)) ?_
  · rw [List.mem_singleton.1 (show c ∈ [jF] from hc)]; exact .inl rfl
  · exact .cons (.bp rfl rfl) (.cons (.rp rfl rfl rfl) (.cons (.bp rfl rfl) .nil))
  · refine .old rfl rfl (GB.one (GVs.imm rfl) (fun _ => rfl)) ?_
    exact HLs_memN rfl rfl rfl rfl (fun _ => rfl) rfl rfl rfl rfl rfl rfl rfl rfl (fun q hq => Zcg hq)
  · exact Ze9 (fun _ _ => rfl) (fun q hq => Za9 hq)
  have hle : s.stack.length - 1 < s.stack.length := by omega
  (repeat' ((fail_if_success (show AWp _ _ _ (Code.region 8 _ _) _ _)); (fail_if_success (show AWp _ _ _ (Code.region 9 _ _) _ _)); first | refine Zac ?_ | (refine Zab tok (by rfl) ?_; conv => whnf) | refine Zak ?_ | refine Zaf rfl (fun hb => ?_) (fun hb => ?_)))
  · exfalso; simp only [decide_eq_true_eq] at hb; omega
  clear hb
  (repeat' ((fail_if_success (show AWp _ _ _ (Code.region 10 _ _) _ _)); (fail_if_success (show AWp _ _ _ (Code.region 11 _ _) _ _)); first | refine Zac ?_ | (refine Zab tok (by rfl) ?_; conv => whnf) | refine Zaf rfl (fun hb => ?_) (fun hb => ?_)))
  · exfalso; simp only [decide_eq_true_eq] at hb; omega
  clear hb
  (repeat' ((fail_if_success (show AWp _ _ _ (Code.region 12 _ _) _ _)); (fail_if_success (show AWp _ _ _ (Code.region 16 _ _) _ _)); first | refine Zac ?_ | (refine Zab tok (by rfl) ?_; conv => whnf) | refine Zaf rfl (fun hb => ?_) (fun hb => ?_)))
  · exfalso; simp only [decide_eq_true_eq] at hb; omega
  clear hb
  (repeat' ((fail_if_success (show AWp _ _ _ (Code.region 17 _ _) _ _)); (fail_if_success (show AWp _ _ _ (Code.region 18 _ _) _ _)); first | refine Zac ?_ | (refine Zab tok (by rfl) ?_; conv => whnf) | refine Zaf rfl (fun hb => ?_) (fun hb => ?_)))
  rotate_left
  · exfalso; simp only [decide_eq_false_iff_not] at hb; omega
  clear hb
  have hc' := renN' hc (.cons (.bp rfl rfl) (.cons (.imm rfl) (.cons (.imm rfl) .nil)))
  (repeat' (refine Zab tok (by rfl) ?_; conv => whnf))
  refine .inr ⟨_, _, _, uG (QH.ddM (by simp) hc' h32 (memN_sub rfl rfl rfl rfl (fun _ => rfl)) rfl rfl (fun q hq => Zan hq)), ?_⟩
  conv => whnf
  skip
  refine ⟨_, srcL [], rfl, ?_⟩
  rw [← and_assoc]
  exact ⟨Zdd (s := Zb0 m s b.fin.f b.fin.args) rfl rfl rfl (Zce rfl rfl rfl) rfl rfl rfl (fun q hq => Za9 hq), .tup .nil, fun i hi hp => Zcq i (by rw [List.mem_singleton.1 hi]; exact .head _) hp⟩
end Go.Proofs.Ytoelbgjpmpoolaa
namespace Go.Proofs.Ytoelbgjpmpoolaa
open Go Dv
set_option maxRecDepth 10000
set_option linter.unusedSimpArgs false
set_option maxHeartbeats 4000000 in
theorem c_mStep2 (m : Zai) (s : Mach) (f : Zaw) (b : Ze1) (hf : topF s = f) (hbe : Zas m f = b) (h : 0 < s.stack.length) (h32 : s.stack.length ≤ 32) (hF : OkF m f) (he : endB m f = true) (hk : b.fin.kind = 2) :
    HG Try.prog [jB] 17 (mem m s) [.bp jB 0] (.tup []) (mem m (Zbu s (goF b f))) := by
  refine Za4 tok Try.func17 rfl (by decide +kernel) (Nat.le_of_ble_eq_true rfl) ?_
  have hmx : maxL = 4294967296 := rfl
  have hft : s.stack.getD (s.stack.length - 1) default = f := hf
  have hT := Zfe m s h (by omega)
  have hB := Zc7 m s (s.stack.length - 1) (by omega) (by rw [hft]; exact hF)
  rw [hft] at hB
  have hE : f.at_ = (Zas m f).ins.length := of_decide_eq_true he
  have a0 := hF.a0
  have a1 := hF.a1
  rw [hbe] at hB hE a1
  (repeat' ((fail_if_success (show AWp _ _ _ (Code.region 0 _ _) _ _)); refine Zac ?_))
  (repeat' (refine Zab tok (by rfl) ?_; conv => whnf))
  refine .inr ⟨_, _, _, uG (QH.tnM (by simp) (by simp) hT h32 (Zaz rfl rfl rfl rfl (fun _ => rfl)) rfl (fun q hq => Zan hq)), ?_⟩
  conv => whnf
  (repeat' ((fail_if_success (show AWp _ _ _ (Code.region 1 _ _) _ _)); refine Zac ?_))
  (repeat' (refine Zab tok (by rfl) ?_; conv => whnf))
  refine .inr ⟨_, _, _, uG (QH.tnM (by simp) (by simp) hB h32 (Zaz rfl rfl rfl rfl (fun _ => Zbn (fun hq => Zan (by omega)))) rfl (fun q hq => (Zbn (fun hq => Zan (by omega))).trans (Zan hq))), ?_⟩
  conv => whnf
  ((repeat' ((fail_if_success (show AWp _ _ _ (Code.region 3 _ _) _ _)); (fail_if_success (show AWp _ _ _ (Code.region 5 _ _) _ _)); first | refine Zac ?_ | (refine Zap tok mix (by rfl) ?_; conv => whnf) | (refine Zag ?_; conv => whnf) | refine Zaf rfl (fun hb => ?_) (fun hb => ?_) | (refine @And.intro (Zaa _ _ _ _) _ ?_ ?_; rotate_left; (conv => whnf); rotate_right))); all_goals (try ((guard_target = Zaa _ _ _ _); refine Zae ?_; (all_goals (try simp only [Zaa, kzz, kz11, kz12, maxL, Zad] at *)); all_goals omega)))
  · exfalso
    rw [hft] at hb
    simp only [decide_eq_true_eq] at hb
    omega
  clear hb
  refine Zau (weakW (m := m) (s := s) (L := [jB]) (tl := [(0, .bp jB 0), (2, .rp jF 5 (s.stack.length - 1) 0), (3, .bp (3, 0, 0) 0)]) (el := [((3, 0, 0), Za6 (Zbl b))]) ?_ ?_ (fun q hq => Za9 hq) (fun i hi _ => by rw [List.mem_singleton.1 hi]; exact ⟨rfl, rfl⟩)) ?_
  · exact .cons (.bp rfl rfl) (.cons (.rp rfl rfl rfl) (.cons (.bp rfl rfl) .nil))
  · exact .old rfl rfl (GB.one (GVs.imm rfl) (fun _ => rfl)) (Zck rfl rfl rfl rfl (fun _ => rfl) rfl rfl rfl rfl rfl rfl rfl (fun q hq => Zcg hq))
  have hle : s.stack.length - 1 < s.stack.length := by omega
  (repeat' ((fail_if_success (show AWp _ _ _ (Code.region 8 _ _) _ _)); (fail_if_success (show AWp _ _ _ (Code.region 9 _ _) _ _)); first | refine Zac ?_ | (refine Zab tok (by rfl) ?_; conv => whnf) | refine Zak ?_ | refine Zaf rfl (fun hb => ?_) (fun hb => ?_)))
  · exfalso; simp only [decide_eq_true_eq] at hb; omega
  clear hb
  (repeat' ((fail_if_success (show AWp _ _ _ (Code.region 10 _ _) _ _)); (fail_if_success (show AWp _ _ _ (Code.region 11 _ _) _ _)); first | refine Zac ?_ | (refine Zab tok (by rfl) ?_; conv => whnf) | refine Zaf rfl (fun hb => ?_) (fun hb => ?_)))
  rotate_left
  · exfalso; simp only [decide_eq_false_iff_not] at hb; omega
  clear hb
  have hG := c_Go (topF s) b.fin.to
  have hGo : goF b f = { topF s with block := b.fin.to, at_ := 0 } := by unfold goF; rw [if_neg (fun e => by omega), hf]
  refine Zdx tok mix (by rfl) [0, 1, 2, 3, 4, 5, 7] 30 (by rfl) (by rfl) (by rfl) ?_
  conv => whnf
  (repeat' first
    | (refine fAV (x := Zbg s.stack (s.stack.length - 1)) (y := .rs jT 1 0 (topF s).regs.length) (Zbe h rfl) ?_; (conv => whnf))
    | (refine @And.intro (Zaa _ _ _ _) _ ?_ ?_; rotate_left; (conv => whnf); rotate_right)
    | (guard_target = And _ _; refine @And.intro (gOp _ _ _ _ _ _ _ _ _) _ (by (conv => whnf); first | exact ⟨rfl, rfl⟩ | (refine fAV (x := Zbg s.stack (s.stack.length - 1)) (y := .rs jT 1 0 (topF s).regs.length) (Zbe h rfl) ?_; (conv => whnf); exact ⟨rfl, rfl⟩)) ?_; conv => whnf)
    | (guard_target = And _ _; refine And.intro ?_ ?_ <;> (conv => whnf)))
  all_goals (try ((guard_target = Zaa _ _ _ _); refine Zae ?_; (all_goals (try simp only [Zaa, kzz, kz11, kz12, maxL, Zad] at *)); all_goals omega))
  all_goals (try (show AV.agg [_, _, _, Zbg s.stack (s.stack.length - 1), _] = AV.agg [_, _, _, .rs jT 1 0 (topF s).regs.length, _]; rw [Zbe h rfl]; done))
  refine .inr ⟨_, _, _, uG (QH.lendF (rd := [jT]) hG (.cons (.agg (.cons (.imm rfl) (.cons (.imm rfl) (.cons (.imm rfl) (.cons (.row rfl (.head _) rfl rfl (fun q hq => rfl)) (.cons (.imm rfl) .nil)))))) (.cons (.imm rfl) .nil)) (fun i hi => by rw [Zcz hi]; rfl) rfl (fun j b e => by
    obtain ⟨rfl, rfl⟩ := lendOne j b e
    exact fun i hi => rfl)), ?_⟩
  conv => whnf
  (repeat' first
    | (refine fAV (x := Zbg s.stack (s.stack.length - 1)) (y := .rs jT 1 0 (topF s).regs.length) (Zbe h rfl) ?_; (conv => whnf))
    | (refine @And.intro (Zaa _ _ _ _) _ ?_ ?_; rotate_left; (conv => whnf); rotate_right)
    | (guard_target = And _ _; refine @And.intro (gOp _ _ _ _ _ _ _ _ _) _ (by (conv => whnf); first | exact ⟨rfl, rfl⟩ | (refine fAV (x := Zbg s.stack (s.stack.length - 1)) (y := .rs jT 1 0 (topF s).regs.length) (Zbe h rfl) ?_; (conv => whnf); exact ⟨rfl, rfl⟩)) ?_; conv => whnf)
    | (guard_target = And _ _; refine And.intro ?_ ?_ <;> (conv => whnf)))
  all_goals (try ((guard_target = Zaa _ _ _ _); refine Zae ?_; (all_goals (try simp only [Zaa, kzz, kz11, kz12, maxL, Zad] at *)); all_goals omega))
  all_goals (try (show AV.agg [_, _, _, Zbg s.stack (s.stack.length - 1), _] = AV.agg [_, _, _, .rs jT 1 0 (topF s).regs.length, _]; rw [Zbe h rfl]; done))
  skip
  refine ⟨_, srcT jE r0, rfl, ?_⟩
  rw [← and_assoc]
  refine ⟨leaveG (s := s) (g := { topF s with block := b.fin.to, at_ := 0 }) (n' := s.stack.length) h (by rw [hGo]) rfl (.inr (.inl rfl)) (.inl rfl) rfl ?_ rfl (Nat.le_refl _) (fun q hq => ?_) ?_ rfl (Zd4 _) rfl (Zbs _) (fun q hq => ?_), .tup .nil, fun i hi hp => keepT i (by rw [List.mem_singleton.1 hi]; exact .head _) hp⟩
  · exact Zd7 (s := Zbu s (goF b f)) (Zc1 (s := s) h).symm rfl rfl rfl rfl
  · exact Zcu (by omega)
  · exact Zdh
  · refine Zes (d := []) (u := oneR (topF s).regs) rfl rfl ?_
    exact Za0 hq
set_option maxHeartbeats 4000000 in
theorem c_mStep3 (m : Zai) (s : Mach) (f : Zaw) (b : Ze1) (hf : topF s = f) (hbe : Zas m f = b) (h : 0 < s.stack.length) (h32 : s.stack.length ≤ 32) (hF : OkF m f) (he : endB m f = true) (hk : b.fin.kind = 3) (ha : 0 ≤ b.fin.a ∧ b.fin.a < f.regs.length) :
    HG Try.prog [jB] 17 (mem m s) [.bp jB 0] (.tup []) (mem m (Zbu s (goF b f))) := by
  refine Za4 tok Try.func17 rfl (by decide +kernel) (Nat.le_of_ble_eq_true rfl) ?_
  have hmx : maxL = 4294967296 := rfl
  have hft : s.stack.getD (s.stack.length - 1) default = f := hf
  have hT := Zfe m s h (by omega)
  have hB := Zc7 m s (s.stack.length - 1) (by omega) (by rw [hft]; exact hF)
  rw [hft] at hB
  have hE : f.at_ = (Zas m f).ins.length := of_decide_eq_true he
  have a0 := hF.a0
  have a1 := hF.a1
  rw [hbe] at hB hE a1
  (repeat' ((fail_if_success (show AWp _ _ _ (Code.region 0 _ _) _ _)); refine Zac ?_))
  (repeat' (refine Zab tok (by rfl) ?_; conv => whnf))
  refine .inr ⟨_, _, _, uG (QH.tnM (by simp) (by simp) hT h32 (Zaz rfl rfl rfl rfl (fun _ => rfl)) rfl (fun q hq => Zan hq)), ?_⟩
  conv => whnf
  (repeat' ((fail_if_success (show AWp _ _ _ (Code.region 1 _ _) _ _)); refine Zac ?_))
  (repeat' (refine Zab tok (by rfl) ?_; conv => whnf))
  refine .inr ⟨_, _, _, uG (QH.tnM (by simp) (by simp) hB h32 (Zaz rfl rfl rfl rfl (fun _ => Zbn (fun hq => Zan (by omega)))) rfl (fun q hq => (Zbn (fun hq => Zan (by omega))).trans (Zan hq))), ?_⟩
  conv => whnf
  ((repeat' ((fail_if_success (show AWp _ _ _ (Code.region 3 _ _) _ _)); (fail_if_success (show AWp _ _ _ (Code.region 5 _ _) _ _)); first | refine Zac ?_ | (refine Zap tok mix (by rfl) ?_; conv => whnf) | (refine Zag ?_; conv => whnf) | refine Zaf rfl (fun hb => ?_) (fun hb => ?_) | (refine @And.intro (Zaa _ _ _ _) _ ?_ ?_; rotate_left; (conv => whnf); rotate_right))); all_goals (try ((guard_target = Zaa _ _ _ _); refine Zae ?_; (all_goals (try simp only [Zaa, kzz, kz11, kz12, maxL, Zad] at *)); all_goals omega)))
  · exfalso
    rw [hft] at hb
    simp only [decide_eq_true_eq] at hb
    omega
  clear hb
  refine Zau (weakW (m := m) (s := s) (L := [jB]) (tl := [(0, .bp jB 0), (2, .rp jF 5 (s.stack.length - 1) 0), (3, .bp (3, 0, 0) 0)]) (el := [((3, 0, 0), Za6 (Zbl b))]) ?_ ?_ (fun q hq => Za9 hq) (fun i hi _ => by rw [List.mem_singleton.1 hi]; exact ⟨rfl, rfl⟩)) ?_
  · exact .cons (.bp rfl rfl) (.cons (.rp rfl rfl rfl) (.cons (.bp rfl rfl) .nil))
  · exact .old rfl rfl (GB.one (GVs.imm rfl) (fun _ => rfl)) (Zck rfl rfl rfl rfl (fun _ => rfl) rfl rfl rfl rfl rfl rfl rfl (fun q hq => Zcg hq))
  have hle : s.stack.length - 1 < s.stack.length := by omega
  (repeat' ((fail_if_success (show AWp _ _ _ (Code.region 8 _ _) _ _)); (fail_if_success (show AWp _ _ _ (Code.region 9 _ _) _ _)); first | refine Zac ?_ | (refine Zab tok (by rfl) ?_; conv => whnf) | refine Zak ?_ | refine Zaf rfl (fun hb => ?_) (fun hb => ?_)))
  · exfalso; simp only [decide_eq_true_eq] at hb; omega
  clear hb
  (repeat' ((fail_if_success (show AWp _ _ _ (Code.region 10 _ _) _ _)); (fail_if_success (show AWp _ _ _ (Code.region 11 _ _) _ _)); first | refine Zac ?_ | (refine Zab tok (by rfl) ?_; conv => whnf) | refine Zaf rfl (fun hb => ?_) (fun hb => ?_)))
  · exfalso; simp only [decide_eq_true_eq] at hb; omega
  clear hb
  (repeat' ((fail_if_success (show AWp _ _ _ (Code.region 12 _ _) _ _)); (fail_if_success (show AWp _ _ _ (Code.region 16 _ _) _ _)); first | refine Zac ?_ | (refine Zab tok (by rfl) ?_; conv => whnf) | refine Zaf rfl (fun hb => ?_) (fun hb => ?_)))
  rotate_left
  · exfalso; simp only [decide_eq_false_iff_not] at hb; omega
  clear hb
  have haa : b.fin.a.toNat < (topF s).regs.length := by rw [hf]; omega
  ((repeat' first | refine Zac ?_ | (refine Zab tok (by rfl) ?_; conv => whnf) | (refine Zap tok mix (by rfl) ?_; conv => whnf) | (refine @And.intro (Zaa _ _ _ _) _ ?_ ?_; rotate_left; (conv => whnf); rotate_right)); all_goals (try ((guard_target = Zaa _ _ _ _); refine Zae ?_; (all_goals (try simp only [Zaa, kzz, kz11, kz12, maxL, Zad] at *)); all_goals omega)))
  refine fAV (x := Zbg s.stack (s.stack.length - 1)) (y := .rs jT 1 0 (topF s).regs.length) (Zbe h rfl) ?_
  conv => whnf
  ((repeat' ((fail_if_success (show AWp _ _ _ (Code.region 14 _ _) _ _)); (fail_if_success (show AWp _ _ _ (Code.region 15 _ _) _ _)); first | (refine Zag ?_; conv => whnf) | refine Zaf rfl (fun hb => ?_) (fun hb => ?_) | (refine @And.intro (Zaa _ _ _ _) _ ?_ ?_; rotate_left; (conv => whnf); rotate_right))); all_goals (try ((guard_target = Zaa _ _ _ _); refine Zae ?_; (all_goals (try simp only [Zaa, kzz, kz11, kz12, maxL, Zad] at *)); all_goals omega)))
  · have hz : ¬ regA f b.fin.a = 0 := by
      unfold regA
      rw [Nat.zero_add, hf] at hb
      simpa using hb
    clear hb
    have hG := c_Go (topF s) b.fin.to
    have hGo : goF b f = { topF s with block := b.fin.to, at_ := 0 } := by unfold goF; rw [if_neg (fun e => hz e.2), hf]
    ((repeat' first | (refine Zab tok (by rfl) ?_; conv => whnf) | (refine @And.intro (Zaa _ _ _ _) _ ?_ ?_; rotate_left; (conv => whnf); rotate_right)); all_goals (try ((guard_target = Zaa _ _ _ _); refine Zae ?_; (all_goals (try simp only [Zaa, kzz, kz11, kz12, maxL, Zad] at *)); all_goals omega)))
    refine fAV (x := Zbg s.stack (s.stack.length - 1)) (y := .rs jT 1 0 (topF s).regs.length) (Zbe h rfl) ?_
    conv => whnf
    skip
    refine .inr ⟨_, _, _, uG (QH.lendF (rd := [jT]) hG (.cons (.agg (.cons (.imm rfl) (.cons (.imm rfl) (.cons (.imm rfl) (.cons (.row rfl (.head _) rfl rfl (fun q hq => rfl)) (.cons (.imm rfl) .nil)))))) (.cons (.imm rfl) .nil)) (fun i hi => by rw [Zcz hi]; rfl) rfl (fun j b e => by
      obtain ⟨rfl, rfl⟩ := lendOne j b e
      exact fun i hi => rfl)), ?_⟩
    conv => whnf
    ((repeat' (refine @And.intro (Zaa _ _ _ _) _ ?_ ?_; rotate_left; (conv => whnf); rotate_right)); all_goals (try ((guard_target = Zaa _ _ _ _); refine Zae ?_; (all_goals (try simp only [Zaa, kzz, kz11, kz12, maxL, Zad] at *)); all_goals omega)))
    refine ⟨_, srcT jE r0, rfl, ?_⟩
    rw [← and_assoc]
    refine ⟨leaveG (s := s) (g := { topF s with block := b.fin.to, at_ := 0 }) (n' := s.stack.length) h (by rw [hGo]) rfl (.inr (.inl rfl)) (.inl rfl) rfl ?_ rfl (Nat.le_refl _) (fun q hq => ?_) ?_ rfl (Zd4 _) rfl (Zbs _) (fun q hq => ?_), .tup .nil, fun i hi hp => keepT i (by rw [List.mem_singleton.1 hi]; exact .head _) hp⟩
    · exact Zd7 (s := Zbu s (goF b f)) (Zc1 (s := s) h).symm rfl rfl rfl rfl
    · exact Zcu (by omega)
    · exact Zdh
    · refine Zes (d := []) (u := oneR (topF s).regs) rfl rfl ?_
      exact Za0 hq
  · have hz : regA f b.fin.a = 0 := by
      unfold regA
      rw [Nat.zero_add, hf] at hb
      simpa using hb
    clear hb
    have hG := c_Go (topF s) b.fin.els
    have hGo : goF b f = { topF s with block := b.fin.els, at_ := 0 } := by unfold goF; rw [if_pos ⟨hk, hz⟩, hf]
    ((repeat' first | (refine Zab tok (by rfl) ?_; conv => whnf) | (refine @And.intro (Zaa _ _ _ _) _ ?_ ?_; rotate_left; (conv => whnf); rotate_right)); all_goals (try ((guard_target = Zaa _ _ _ _); refine Zae ?_; (all_goals (try simp only [Zaa, kzz, kz11, kz12, maxL, Zad] at *)); all_goals omega)))
    refine fAV (x := Zbg s.stack (s.stack.length - 1)) (y := .rs jT 1 0 (topF s).regs.length) (Zbe h rfl) ?_
    conv => whnf
    skip
    refine .inr ⟨_, _, _, uG (QH.lendF (rd := [jT]) hG (.cons (.agg (.cons (.imm rfl) (.cons (.imm rfl) (.cons (.imm rfl) (.cons (.row rfl (.head _) rfl rfl (fun q hq => rfl)) (.cons (.imm rfl) .nil)))))) (.cons (.imm rfl) .nil)) (fun i hi => by rw [Zcz hi]; rfl) rfl (fun j b e => by
      obtain ⟨rfl, rfl⟩ := lendOne j b e
      exact fun i hi => rfl)), ?_⟩
    conv => whnf
    ((repeat' (refine @And.intro (Zaa _ _ _ _) _ ?_ ?_; rotate_left; (conv => whnf); rotate_right)); all_goals (try ((guard_target = Zaa _ _ _ _); refine Zae ?_; (all_goals (try simp only [Zaa, kzz, kz11, kz12, maxL, Zad] at *)); all_goals omega)))
    refine ⟨_, srcT jE r0, rfl, ?_⟩
    rw [← and_assoc]
    refine ⟨leaveG (s := s) (g := { topF s with block := b.fin.els, at_ := 0 }) (n' := s.stack.length) h (by rw [hGo]) rfl (.inr (.inl rfl)) (.inl rfl) rfl ?_ rfl (Nat.le_refl _) (fun q hq => ?_) ?_ rfl (Zd4 _) rfl (Zbs _) (fun q hq => ?_), .tup .nil, fun i hi hp => keepT i (by rw [List.mem_singleton.1 hi]; exact .head _) hp⟩
    · exact Zd7 (s := Zbu s (goF b f)) (Zc1 (s := s) h).symm rfl rfl rfl rfl
    · exact Zcu (by omega)
    · exact Zdh
    · refine Zes (d := []) (u := oneR (topF s).regs) rfl rfl ?_
      exact Za0 hq
end Go.Proofs.Ytoelbgjpmpoolaa
namespace Go.Proofs.Ytoelbgjpmpoolaa
open Go Dv
set_option maxRecDepth 10000
set_option linter.unusedSimpArgs false
theorem withM_two {s : Mach} {f g : Zaw} (h : 0 < s.stack.length) : Zbu (Zbu s f) g = Zbu s g := by
  unfold Zbu
  simp only [List.length_append, List.length_take, List.length_singleton]
  congr 2
  rw [List.take_append, List.take_take, List.length_take]
  have e1 : min (s.stack.length - 1) s.stack.length = s.stack.length - 1 := by omega
  rw [e1]
  have e2 : s.stack.length - 1 + 1 - 1 - (s.stack.length - 1) = 0 := by omega
  rw [e2]
  have e3 : min (s.stack.length - 1 + 1 - 1) (s.stack.length - 1) = s.stack.length - 1 := by omega
  rw [e3]; simp
theorem top_withM {s : Mach} {f : Zaw} (h : 0 < s.stack.length) : topF (Zbu s f) = f := by
  unfold topF; rw [with_len h]; exact with_top h
abbrev HGstep (m : Zai) (s s1 : Mach) : Prop := HG Try.prog [jB] 17 (mem m s) [.bp jB 0] (.tup []) (mem m s1)
theorem c_mStepI {m : Zai} {s : Mach} (hr : Zbj m = true) (h : OkM m s) (hp : 0 < s.stack.length) (hev : s.events.length < 1000000) (he : endB m (topF s) = false) : HGstep m s (insM m s (topF s) (Zbw m (topF s))) := by
  have hF := h.fr _ (top_mem hp)
  have hI := (okF_ins hr hF he).2
  have h64 := (Zey hr hF).1
  have a0 := hF.a0
  have a1 := hF.a1
  have hR := hF.regs
  have hl := h.len
  have no8 : ∀ n, 8 < n → (Zbw m (topF s)).op = n → ¬ (Zbw m (topF s)).op ≤ 8 := fun n _ e => by omega
  have r8 : ∀ (h1 : 1 ≤ (Zbw m (topF s)).op) (h8 : (Zbw m (topF s)).op ≤ 8) (hd : 0 ≤ (Zbw m (topF s)).dst ∧ (Zbw m (topF s)).dst < (topF s).regs.length) (ha : 1 < (Zbw m (topF s)).op → 0 ≤ (Zbw m (topF s)).a ∧ (Zbw m (topF s)).a < (topF s).regs.length) (hb' : 2 < (Zbw m (topF s)).op → 0 ≤ (Zbw m (topF s)).b ∧ (Zbw m (topF s)).b < (topF s).regs.length), HGstep m s (insM m s (topF s) (Zbw m (topF s))) := fun h1 h8 hd ha hb' =>
    c_mStepF m s _ (topF s) rfl hp hl hF he (c_mIns8 m s (topF s) (Zbw m (topF s)) rfl hp hl a0 (by omega) h1 h8 hd ha hb')
  have run : ∀ s1 g, s1.stack.length = s.stack.length → HG Try.prog LW 28 (mem m s) [.bp jB 0, .rp jF 5 (s.stack.length - 1) 0, .agg (Zbi (Zbw m (topF s)))] (.bool true) (mem m s1) → topF s1 = g → g.at_ = (topF s).at_ → HGstep m s (Zbu s1 (goOn g)) := fun s1 g e hc e2 e3 => by
    subst e2
    exact c_mStepT m s s1 (topF s) rfl hp hl hF he e (by omega) (by omega) hc
  rcases hI with h1 | h1 | h1 | h1 | h1 | h1 | h1
  · have hd := (Zad _ _).1 h1.2.1
    exact r8 (by omega) (by omega) (by rw [hR]; exact hd) (fun h => by omega) (fun h => by omega)
  · have hd := (Zad _ _).1 h1.2.1
    have ha := (Zad _ _).1 h1.2.2.1
    rcases h1.1 with ho | ho
    · exact r8 (by omega) (by omega) (by rw [hR]; exact hd) (fun h => by rw [hR]; exact ha) (fun h => by omega)
    · have hM : insM m s (topF s) (Zbw m (topF s)) = if 16 ≤ (topF s).regs.getD (Zbw m (topF s)).a.toNat 0 then endM s 4 0 else Zbu s (goOn (frW (topF s) (Zbw m (topF s)).dst (s.cells.getD (cellN (topF s) (Zbw m (topF s))) 0))) := by
        unfold insM; rw [if_neg (by omega), if_neg (by omega), if_pos ho]
      rw [hM]
      split
      · rename_i h16
        exact c_mStepF m s _ (topF s) rfl hp hl hF he (c_mIns9n m s (Zbw m (topF s)) ho hp hl (by rw [hR]; exact ha) h16)
      · rename_i h16
        have := run _ _ (with_len hp) (c_mIns9y m s (Zbw m (topF s)) _ ho hp hl (by rw [hR]; exact ha) (by rw [hR]; exact hd) (by omega) rfl) (top_withM hp) rfl
        rw [withM_two hp] at this
        exact this
  · have hd := (Zad _ _).1 h1.2.1
    have ha := (Zad _ _).1 h1.2.2.1
    have hb := (Zad _ _).1 h1.2.2.2.1
    exact r8 (by omega) (by omega) (by rw [hR]; exact hd) (fun h => by rw [hR]; exact ha) (fun h => by rw [hR]; exact hb)
  · have ho := h1.1
    have ha := (Zad _ _).1 h1.2.2.1
    have hb := (Zad _ _).1 h1.2.2.2.1
    have hM : insM m s (topF s) (Zbw m (topF s)) = if 16 ≤ (topF s).regs.getD (Zbw m (topF s)).a.toNat 0 then endM s 4 0 else Zbu (stM s (cellN (topF s) (Zbw m (topF s))) ((topF s).regs.getD (Zbw m (topF s)).b.toNat 0)) (goOn (topF s)) := by
      unfold insM; rw [if_neg (by omega), if_neg (by omega), if_neg (by omega), if_pos ho]; rfl
    rw [hM]
    split
    · rename_i h16
      exact c_mStepF m s _ (topF s) rfl hp hl hF he (c_mIns10n m s (Zbw m (topF s)) ho hp hl (by rw [hR]; exact ha) h16)
    · rename_i h16
      exact run _ _ rfl (c_mIns10y m s (Zbw m (topF s)) _ ho hp hl (by rw [hR]; exact ha) (by rw [hR]; exact hb) h.cells (by omega) rfl) rfl rfl
  · have hA := argsB_n h1.2.2.2.2.2
    have hM : insM m s (topF s) (Zbw m (topF s)) = Zb0 m s (Zbw m (topF s)).f (Zbw m (topF s)).args := by unfold insM; rw [if_pos h1.1]
    rw [hM]
    exact c_mStepC m s _ (topF s) rfl hp hl hF he (c_mIns11 m s (Zbw m (topF s)) _ h1.1 hl (c_mCall m s _ _ hr hp hl hA.1.1 hA.1.2 hA.2.1 (fun p hp' => by rw [hR]; exact hA.2.2 p hp')))
  · have ho := h1.1
    have ha := (Zad _ _).1 h1.2.2.1
    have hM : insM m s (topF s) (Zbw m (topF s)) = Zbu (evM s ((topF s).regs.getD (Zbw m (topF s)).a.toNat 0)) (goOn (topF s)) := by
      unfold insM; rw [if_neg (by omega), if_neg (by omega), if_neg (by omega), if_neg (by omega), if_pos ho]; rfl
    rw [hM]
    exact run _ _ rfl (c_mIns12 m s (Zbw m (topF s)) ho hp (by rw [hR]; exact ha) hev) rfl rfl
  · have ho := h1.1
    have hd := (Zad _ _).1 h1.2.1
    have hM : insM m s (topF s) (Zbw m (topF s)) = if s.inputs.length = 0 then endM s 6 0 else Zbu (inM s) (goOn (frW (topF s) (Zbw m (topF s)).dst (s.inputs.getD 0 0))) := by
      unfold insM; rw [if_neg (by omega), if_neg (by omega), if_neg (by omega), if_neg (by omega), if_neg (by omega), if_pos ho]; rfl
    rw [hM]
    split
    · rename_i hz
      exact c_mStepF m s _ (topF s) rfl hp hl hF he (c_mIns13a m s (Zbw m (topF s)) ho hl hz)
    · rename_i hz
      have := run _ _ (with_len (s := inM s) hp) (c_mIns13b m s (Zbw m (topF s)) ho hp hz h.inp.2 (by rw [hR]; exact hd) hev) (top_withM (s := inM s) hp) rfl
      rw [withM_two (s := inM s) hp] at this
      exact this
theorem c_mStepOk {m : Zai} {s : Mach} (hr : Zbj m = true) (h : OkM m s) (hev : s.events.length < 1000000) (hd : s.done = 0) : HGstep m s (Zch m s) := by
  have hp := h.pos hd
  have hF := h.fr _ (top_mem hp)
  have hE := (Zey hr hF).2
  have hl := h.len
  have hR := hF.regs
  rw [show Zch m s = stepE m s (topF s) (Zas m (topF s)) from if_pos hd]
  unfold stepE
  cases he : endB m (topF s) with
  | false => rw [if_pos rfl]; exact c_mStepI hr h hp hev he
  | true =>
    rw [if_neg (by decide)]
    have hT : ∀ w, HG Try.prog LW 32 (mem m s) [.bp jB 0, .int .u16 w] (.tup []) (mem m (Zbc m s w)) := fun w => c_mThr m s w hr hp hl (fun i hi => h.fr _ (Zc2 _ hi))
    have hA : ∀ w, HG Try.prog LW 29 (mem m s) [.bp jB 0, .int .u16 w] (.tup []) (mem m (Zbq m s w)) := fun w => by
      refine c_mAns m s w hp hl (fun h2 => (pop_top h h2).1) (fun h2 => ?_) (fun h2 he => ?_) (fun h2 he => ?_)
      · have hF := (pop_top h h2).1
        have := (Zey hr hF).1
        have := hF.a1
        omega
      · exact ((callF_dst hr (pop_top h h2).1 (pop_top h h2).2).1 he).1
      · exact (callF_dst hr (pop_top h h2).1 (pop_top h h2).2).2 he
    have k1 := c_mStep1 m s (topF s) _ rfl rfl hp hl hF he
    have k2 := c_mStep2 m s (topF s) _ rfl rfl hp hl hF he
    have k3 := c_mStep3 m s (topF s) _ rfl rfl hp hl hF he
    have k4 := c_mStep4 m s (topF s) _ rfl rfl hp hl hF he
    have k5 := c_mStep5 m s (topF s) _ rfl rfl hp hl hF he
    have k6 := c_mStep6 m s (topF s) _ rfl rfl hp hl hF he
    rcases hE with e | e | e | e | e
    · rcases e.1 with e1 | e1
      · rw [if_pos e1]; exact k1 e1 (by rw [hR]; exact (Zad _ _).1 e.2.1) (hA _)
      · rw [if_neg (by omega), if_neg (by omega), if_pos e1]; exact k5 e1 (by rw [hR]; exact (Zad _ _).1 e.2.1) (hT _)
    · rw [if_neg (by omega), if_neg (by omega), if_neg (by omega), if_neg (by omega)]; exact k2 e.1
    · rw [if_neg (by omega), if_neg (by omega), if_neg (by omega), if_neg (by omega)]; exact k3 e.1 (by rw [hR]; exact (Zad _ _).1 e.2.1)
    · have hA := argsB_n e.2.2.2.1
      rw [if_neg (by omega), if_pos e.1]; exact k4 e.1 (c_mCall m s _ _ hr hp hl hA.1.1 hA.1.2 hA.2.1 (fun p hp' => by rw [hR]; exact hA.2.2 p hp'))
    · rw [if_neg (by omega), if_neg (by omega), if_neg (by omega), if_pos e.1]; exact k6 e.1 (hT _)
end Go.Proofs.Ytoelbgjpmpoolaa
namespace Go.Proofs.Ytoelbgjpmpoolaa
open Go Dv
set_option maxRecDepth 10000
set_option linter.unusedSimpArgs false
def newC (F : Dv.Id) (inputs : List Int) : List AV := [.rs F 5 0 1, .int .u16 0, .int .u16 0, .int .u16 0, .int .u16 0, .int .u16 0, .int .u16 0, .int .u16 0, .int .u16 0, .int .u16 0, .int .u16 0, .int .u16 0, .int .u16 0, .int .u16 0, .int .u16 0, .int .u16 0, .int .u16 0, u16s inputs, .nsl, iv 0, .int .u16 0]
def newL (m : Zai) (inputs : List Int) : List (Dv.Id × Zam) := [(jN, Zcx (newM m inputs).stack), (jT, regB (frN m 0 []).regs)]
set_option maxHeartbeats 4000000 in
theorem c_mNew (m : Zai) (inputs : List Int) (hr : Zbj m = true) : HF Try.prog 16 [.agg (Zbf m), u16s inputs] (.tup [.agg (newC jN inputs), iv 0]) (orH (Zay (newL m inputs)) noH) := by
  refine Zfz tok Try.func16 rfl (by decide +kernel) (Nat.le_of_ble_eq_true rfl) ?_
  have hmx : maxL = 4294967296 := rfl
  have h0 := right0 hr
  have hN := c_fNew m 0 [] hr (by omega) (by omega) (by simp only [List.length_nil]; exact h0.2.symm)
  refine Za1 1 (fun hl => ?_)
  have hl0 : inputs.length ≤ maxL := hl.1
  clear hl
  (repeat' first | refine Zac ?_ | (refine Zab tok (by rfl) ?_; conv => whnf))
  refine .inr ⟨_, _, _, uG (QH.lendF (rd := []) hN (.cons (.imm rfl) (.cons (.imm rfl) (.cons .nsl .nil))) (fun i hi => by rw [Zcz hi]; rfl) rfl (fun j b e => by
    obtain ⟨rfl, rfl⟩ := lendOne j b e
    exact fun i hi => rfl)), ?_⟩
  conv => whnf
  (repeat' ((fail_if_success (show AWp _ _ _ (Code.region 3 _ _) _ _)); (fail_if_success (show AWp _ _ _ (Code.region 4 _ _) _ _)); first | refine Zac ?_ | (refine Zab tok (by rfl) ?_; conv => whnf) | (refine Zag ?_; conv => whnf) | refine Zaf rfl (fun hb => ?_) (fun hb => ?_)))
  · exfalso; cases hb
  clear hb
  refine Zdx tok mix (by rfl) [0, 2] 30 (by rfl) (by rfl) (by rfl) ?_
  conv => whnf
  (repeat' first
    | (refine @And.intro (Zaa _ _ _ _) _ ?_ ?_; rotate_left; (conv => whnf); rotate_right)
    | (guard_target = And _ _; refine @And.intro (gOp _ _ _ _ _ _ _ _ _) _ (by (conv => whnf); exact ⟨rfl, rfl⟩) ?_; conv => whnf)
    | (guard_target = And _ _; refine And.intro ?_ ?_ <;> (conv => whnf))
    | (refine .inl ⟨_, _, _, uG (QC.fo (rd := []) (Zfx inputs) (Ress.imms rfl) (.inl rfl) rfl), ?_⟩; (conv => whnf)))
  all_goals (try ((guard_target = Zaa _ _ _ _); skip; all_goals omega))
  all_goals
    (repeat' (refine Zaj ?_; conv => whnf))
    refine ⟨_, srcL [(jN, some (18, 0, 0)), (jT, some r0)], rfl, ?_⟩
    rw [← and_assoc]
    refine ⟨leaveR [(jN, some (18, 0, 0)), (jT, some r0)] rfl (fun c hc => ?_) (.old rfl rfl (GB.row (Nat.le_refl _) (fun q hq => ?_) (fun e => by cases e)) (.old rfl rfl (Zbs _) .nil)) (fun j b e => by cases e), .tup (.cons (.agg (.cons (.rs rfl rfl rfl rfl) (.cons (.imm rfl) (.cons (.imm rfl) (.cons (.imm rfl) (.cons (.imm rfl) (.cons (.imm rfl) (.cons (.imm rfl) (.cons (.imm rfl) (.cons (.imm rfl) (.cons (.imm rfl) (.cons (.imm rfl) (.cons (.imm rfl) (.cons (.imm rfl) (.cons (.imm rfl) (.cons (.imm rfl) (.cons (.imm rfl) (.cons (.imm rfl) (.cons (GV.frz (fun j hj e => ?_) rfl (by omega) rfl (fun x hx => by rw [Nat.zero_add]; exact .cons (.imm rfl) .nil) (fun x hx => rfl)) (.cons (.imm rfl) (.cons (.imm rfl) (.cons (.imm rfl) .nil)))))))))))))))))))))) (.cons (.imm rfl) .nil))⟩
    · rcases List.mem_cons.1 (show c ∈ [(18, 0, 0), r0] from hc) with rfl | hc
      · exact .inl rfl
      · rw [List.mem_singleton.1 hc]; exact .inl rfl
    · have hq0 : q = 0 := by have : q < 1 := hq; omega
      subst hq0
      exact .cons (.imm rfl) (.cons (.imm rfl) (.cons (.imm rfl) (.cons (.cc rfl rfl (.rs rfl rfl rfl rfl)) (.cons (.imm rfl) .nil))))
    · cases e1 : idEq jN j with
      | true => rw [← Zav.1 e1] at e; cases e
      | false =>
        cases e2 : idEq jT j with
        | true => rw [← Zav.1 e2] at e; cases e
        | false =>
          have hj' : (orH (Zay (newL m inputs)) noH j).isSome = true := hj
          unfold orH newL at hj'
          simp only [Zay, e1, e2, cond_false, noH] at hj'
          cases hj'
end Go.Proofs.Ytoelbgjpmpoolaa
namespace Go.Proofs.Ytoelbgjpmpoolaa
open Go Dv
set_option maxRecDepth 10000
set_option linter.unusedSimpArgs false
theorem c_CloneFrames (l : List Zaw) : FO Try.prog 33 [frs l] 5 l.length (fun i => Zbd (l.getD i default)) := by
  refine FO_intro tok Try.func33 rfl (by decide +kernel) (Nat.le_of_ble_eq_true rfl) ?_
  refine Za1 0 (fun hl => ?_)
  have hl0 : l.length ≤ maxL := hl.1
  ((repeat' first | refine Zac ?_ | (refine Zab tok (by rfl) ?_; conv => whnf) | (refine Zag ?_; conv => whnf) | (refine Zaj ?_; conv => whnf) | refine Zaf rfl (fun hb => ?_) (fun hb => ?_) | (refine @And.intro (Zaa _ _ _ _) _ ?_ ?_; rotate_left; (conv => whnf); rotate_right) | (refine fun (bn : Bool) (hbn : (0 < _ → bn = _)) => ?_; conv => whnf)); all_goals (try ((guard_target = Zaa _ _ _ _); refine Zae ?_; (first | refine And.intro srcObl_sl ?_ | skip); (all_goals (try simp only [Zaa, kzz, kz11, kz12, maxL, Zad] at *)); all_goals omega)))
  · refine ⟨_, rfl, RelO.nsl' ?_⟩
    rcases Nat.eq_zero_or_pos l.length with h | h
    · exact h
    · rw [hbn h] at hb; cases hb
  · refine ⟨_, rfl, RelO.rs rfl (Nat.le_refl _) (by simp) (fun i hi => ?_)⟩
    show appR 0 (rowOf 5 []) (fun i => Zbd (l.getD i default)) i = _
    exact appR_zero
def famG (l : List Zaw) (k : Nat) : Zao := famC 945 (fun z q => bif Nat.beq z 0 && Nat.blt q k then some (regB (l.getD q default).regs) else none)
theorem famG_some {l : List Zaw} {k : Nat} {j : Dv.Id} {b : Zam} (h : famG l k j = some b) : ∃ q, j = (945, 0, q) ∧ q < k ∧ b = regB (l.getD q default).regs := by
  obtain ⟨z, q, rfl, h3⟩ := famC_some h
  cases e : (Nat.beq z 0 && Nat.blt q k) with
  | false => rw [e] at h3; cases h3
  | true =>
    rw [e] at h3
    rw [Bool.and_eq_true, Nat.blt_eq] at e
    have hz : z = 0 := Nat.eq_of_beq_eq_true e.1
    subst hz
    exact ⟨q, rfl, e.2, (Option.some.inj h3).symm⟩
theorem famG_at {l : List Zaw} {k q : Nat} (h : q < k) : famG l k (945, 0, q) = some (regB (l.getD q default).regs) := by
  show (bif Nat.beq 0 0 && Nat.blt q k then some (regB (l.getD q default).regs) else none) = _
  rw [show (Nat.beq 0 0 && Nat.blt q k) = true from by rw [Bool.and_eq_true, Nat.blt_eq]; exact ⟨rfl, h⟩]; rfl
def cpR (l : List Zaw) (i q : Nat) : AV := sel (Nat.blt q i) (.rs (945, 0, q) 1 0 (l.getD q default).regs.length) (u16s (l.getD q default).regs)
def cpF (l : List Zaw) (i q : Nat) : List AV := [iv (l.getD q default).f, iv (l.getD q default).block, iv (l.getD q default).at_, cpR l i q, .int .u16 (l.getD q default).fly]
def rowCp (l : List Zaw) (i : Nat) : Zam := .row false 5 l.length (cpF l i)
def cpB (F E : Dv.Id) (s : Mach) : List AV := [.rs F 5 0 s.stack.length, cw s.cells 0, cw s.cells 1, cw s.cells 2, cw s.cells 3, cw s.cells 4, cw s.cells 5, cw s.cells 6, cw s.cells 7, cw s.cells 8, cw s.cells 9, cw s.cells 10, cw s.cells 11, cw s.cells 12, cw s.cells 13, cw s.cells 14, cw s.cells 15, u16s s.inputs, .rs E 1 0 s.events.length, iv s.done, .int .u16 s.value]
def cpH (s : Mach) : Zao := orH (Zay [(jN, rowCp s.stack s.stack.length), (jE, evB s.events)]) (famG s.stack s.stack.length)
theorem GVs_cpB {src : Dv.Id → Option Dv.Id} {h h' : Zao} {F F' E E' : Dv.Id} {s : Mach} (h1 : GV src h h' (.rs F 5 0 s.stack.length) (.rs F' 5 0 s.stack.length)) (h2 : GV src h h' (.rs E 1 0 s.events.length) (.rs E' 1 0 s.events.length)) : GVs src h h' (cpB F E s) (cpB F' E' s) :=
  .cons h1 (.cons (.imm rfl) (.cons (.imm rfl) (.cons (.imm rfl) (.cons (.imm rfl) (.cons (.imm rfl) (.cons (.imm rfl) (.cons (.imm rfl) (.cons (.imm rfl) (.cons (.imm rfl) (.cons (.imm rfl) (.cons (.imm rfl) (.cons (.imm rfl) (.cons (.imm rfl) (.cons (.imm rfl) (.cons (.imm rfl) (.cons (.imm rfl) (.cons (.imm rfl) (.cons h2 (.cons (.imm rfl) (.cons (.imm rfl) .nil))))))))))))))))))))
theorem srcG_eq {k k' : Nat} {o : Option Dv.Id} : srcL [((945, k', k), o)] (945, k', k) = o := by
  show (bif idEq (945, k', k) (945, k', k) then _ else _) = _
  rw [Zav.2 rfl]; rfl
theorem srcG_ne {k q : Nat} {o : Option Dv.Id} (h : q ≠ k) : srcL [((945, 0, k), o)] (945, 0, q) = some (945, 0, q) := by
  show (bif idEq (945, 0, k) (945, 0, q) then _ else _) = _
  rw [Zbr.2 (fun e => h (congrArg (fun x => x.2.2) e).symm)]; rfl
set_option maxHeartbeats 4000000 in
theorem c_mCopyH (s : Mach) : HF Try.prog 18 [.agg (Zbx s)] (.agg (cpB jN jE s)) (cpH s) := by
  refine Zfz tok Try.func18 rfl (by decide +kernel) (Nat.le_of_ble_eq_true rfl) ?_
  refine Za1 0 (fun hl => ?_)
  have hl0 : s.stack.length ≤ maxL := hl.1.1
  have hmx : maxL = 4294967296 := rfl
  clear hl
  (repeat' ((fail_if_success (show AWp _ _ _ (Code.region 1 _ _) _ _)); first | refine Zac ?_ | (refine Zab tok (by rfl) ?_; conv => whnf)))
  refine Zdx tok mix (by rfl) [0, 1, 3, 4, 6, 7, 9, 11, 13] 40 (by rfl) (by rfl) (by rfl) ?_
  conv => whnf
  (repeat' first
    | (refine @And.intro (Zaa _ _ _ _) _ ?_ ?_; rotate_left; (conv => whnf); rotate_right)
    | (guard_target = And _ _; refine @And.intro (gOp _ _ _ _ _ _ _ _ _) _ (by (conv => whnf); exact ⟨rfl, rfl⟩) ?_; conv => whnf)
    | (guard_target = And _ _; refine And.intro ?_ ?_ <;> (conv => whnf))
    | (refine .inl ⟨_, _, _, uG (QC.fo (rd := []) (c_CloneFrames s.stack) (Ress.imms rfl) (.inl rfl) rfl), ?_⟩; (conv => whnf))
    | (refine .inl ⟨_, _, _, uG (QC.fo (rd := []) (Zfx s.inputs) (Ress.imms rfl) (.inl rfl) rfl), ?_⟩; (conv => whnf))
    | (refine .inl ⟨_, _, _, uG (QC.fo (rd := []) (c_CloneInts s.events) (Ress.imms rfl) (.inl rfl) rfl), ?_⟩; (conv => whnf)))
  all_goals (try ((guard_target = Zaa _ _ _ _); skip; all_goals omega))
  (repeat' ((fail_if_success (show AWp _ _ _ (Code.region 3 _ _) _ _)); first | refine Zac ?_ | (refine Zab tok (by rfl) ?_; conv => whnf) | refine Zak ?_))
  refine Za5 (fun k : Nat => mkF [(1, .bp (1, 0, 0) 0), (2, .bp (2, 0, 0) 0), (18, iv s.stack.length), (19, iv k)] [((1, 0, 0), .row false 21 1 (fun _ => cpB (6, 0, 0) (12, 0, 0) s)), ((2, 0, 0), Za6 zMach), ((6, 0, 0), rowCp s.stack k), ((12, 0, 0), evB s.events)] (famG s.stack k)) (fun k => k ≤ s.stack.length) (fun k => s.stack.length - k) 0 (Nat.zero_le _) ?_ ?_
  · refine Weak.fam [] rfl (fun i hi => by cases hi) ?_ ?_ (fun j b e => by obtain ⟨q, _, h, _⟩ := famG_some e; omega) (fun i hi => by cases hi)
    · (repeat' first | exact TLg.nil | refine TLg.cons (GV.imm rfl) ?_ | refine TLg.cons (GV.bp rfl rfl) ?_)
      all_goals rfl
    · refine .old rfl rfl (GB.one ?_ (fun e => by cases e)) (.old rfl rfl (GB.one (GVs.imm rfl) (fun _ => rfl)) (.old rfl rfl (GB.row (Nat.le_refl _) (fun q hq => ?_) (fun e => by cases e)) (.old rfl rfl (Zd4 _) .nil)))
      · refine .cons (.rs rfl rfl rfl rfl) (.cons (.imm rfl) (.cons (.imm rfl) (.cons (.imm rfl) (.cons (.imm rfl) (.cons (.imm rfl) (.cons (.imm rfl) (.cons (.imm rfl) (.cons (.imm rfl) (.cons (.imm rfl) (.cons (.imm rfl) (.cons (.imm rfl) (.cons (.imm rfl) (.cons (.imm rfl) (.cons (.imm rfl) (.cons (.imm rfl) (.cons (.imm rfl) (.cons (GV.frz (fun j hj e => ?_) rfl (by omega) rfl (fun x hx => by rw [Nat.zero_add x]; exact .cons (.imm rfl) .nil) (fun x hx => rfl)) (.cons (.rs rfl rfl rfl rfl) (.cons (.imm rfl) (.cons (.imm rfl) .nil))))))))))))))))))))
        have e' : j = (9, 0, 0) := Option.some.inj e
        subst e'
        cases hj
      · exact .cons (.imm rfl) (.cons (.imm rfl) (.cons (.imm rfl) (.cons (.cc rfl (Zdc (Nat.zero_le _)) (.imm rfl)) (.cons (.imm rfl) .nil))))
  intro k hk
  (repeat' ((fail_if_success (show AWp _ _ _ (Code.region 5 _ _) _ _)); (fail_if_success (show AWp _ _ _ (Code.region 7 _ _) _ _)); first | refine Zac ?_ | (refine Zab tok (by rfl) ?_; conv => whnf) | refine Zak ?_ | (refine Zag ?_; conv => whnf) | (refine Za8 ?_; conv => whnf) | refine Zaf rfl (fun hb => ?_) (fun hb => ?_)))
  · have hkl : k < s.stack.length := by simp only [decide_eq_true_eq] at hb; omega
    clear hb
    have hsel : cpR s.stack k (0 + k) = u16s (s.stack.getD k default).regs := by rw [Nat.zero_add]; exact Zdc (Nat.le_refl _)
    refine Zdx tok mix (by rfl) [0, 1, 2, 3, 4, 5, 6, 7, 10, 11] 30 (by rfl) (by rfl) (by rfl) ?_
    conv => whnf
    (repeat' first
      | (refine fAV (x := cpR s.stack k (0 + k)) (y := u16s (s.stack.getD k default).regs) hsel ?_; (conv => whnf))
      | (refine @And.intro (Zaa _ _ _ _) _ ?_ ?_; rotate_left; (conv => whnf); rotate_right)
      | (guard_target = And _ _; refine @And.intro (gOp _ _ _ _ _ _ _ _ _) _ (by (conv => whnf); first | exact ⟨rfl, rfl⟩ | (refine fAV (x := cpR s.stack k (0 + k)) (y := u16s (s.stack.getD k default).regs) hsel ?_; (conv => whnf); exact ⟨rfl, rfl⟩)) ?_; conv => whnf)
      | (guard_target = And _ _; refine And.intro ?_ ?_ <;> (conv => whnf))
      | (refine .inl ⟨_, _, _, uG (QC.fo (rd := []) (Zfx (s.stack.getD k default).regs) (Ress.imms rfl) (.inl rfl) rfl), ?_⟩; (conv => whnf)))
    all_goals (try rfl)
    all_goals (try ((guard_target = Zaa _ _ _ _); refine Zae ?_; (all_goals (try simp only [Zaa, kzz, kz11, kz12, maxL, Zad] at *)); all_goals omega))
    (repeat' (refine Zab tok (by rfl) ?_; conv => whnf))
    refine ⟨k + 1, hkl, by omega, ?_⟩
    refine Weak.fam [((945, 0, k), some (31, 0, 0))] rfl (fun c hc => by simp only [tgts, List.mem_singleton] at hc; subst hc; exact .inl rfl) ?_ ?_ (fun j b e => ?_) (fun i hi => by cases hi)
    · (repeat' first | exact TLg.nil | refine TLg.cons (GV.imm rfl) ?_ | refine TLg.cons (GV.bp rfl rfl) ?_ | refine TLg.cons (GV.int ?_) ?_)
      all_goals first | rfl | (simp (disch := omega) only [Zal]; omega)
    · refine .old rfl rfl (GB.one (GVs_cpB (.rs rfl rfl rfl rfl) (.rs rfl rfl rfl rfl)) (fun e => by cases e)) (.old rfl rfl (GB.one (GVs.imm rfl) (fun _ => rfl)) (.old rfl rfl (GB.row (Nat.le_refl _) (fun q hq => ?_) (fun e => by cases e)) (.old rfl rfl (Zd4 _) .nil)))
      show GVs _ _ _ (updR (cpF s.stack k) (0 + k) [iv (s.stack.getD (0 + k) default).f, iv (s.stack.getD (0 + k) default).block, iv (s.stack.getD (0 + k) default).at_, .rs (31, 0, 0) 1 0 (s.stack.getD k default).regs.length, .int .u16 (s.stack.getD (0 + k) default).fly] q) (cpF s.stack (k + 1) q)
      rw [Nat.zero_add k]
      by_cases e : q = k
      · subst e
        rw [Zdh]
        exact .cons (.imm rfl) (.cons (.imm rfl) (.cons (.imm rfl) (.cons (.cc rfl (Zb9 (Nat.lt_succ_self _)) (.rs (famG_at (Nat.lt_succ_self _)) srcG_eq rfl rfl)) (.cons (.imm rfl) .nil))))
      · rw [Zcu (Ne.symm e)]
        refine .cons (.imm rfl) (.cons (.imm rfl) (.cons (.imm rfl) (.cons ?_ (.cons (.imm rfl) .nil))))
        by_cases e2 : q < k
        · exact .cc (Zb9 e2) (Zb9 (Nat.lt_succ_of_lt e2)) (.rs (famG_at (Nat.lt_succ_of_lt e2)) (srcG_ne e) rfl rfl)
        · exact .cc (Zdc (by omega)) (Zdc (by omega)) (.imm rfl)
    · obtain ⟨q, rfl, hq, rfl⟩ := famG_some e
      by_cases e : q = k
      · subst e
        exact HOk.mk srcG_eq rfl (Zbs _)
      · exact HOk.mk (srcG_ne e) (show famG s.stack k (945, 0, q) = _ from famG_at (by omega)) (Zbs _)
  · have hkl : k = s.stack.length := by simp only [decide_eq_false_iff_not] at hb; omega
    clear hb
    subst hkl
    (repeat' first | (refine Zab tok (by rfl) ?_; conv => whnf) | (refine Zaj ?_; conv => whnf))
    refine ⟨_, srcL [(jN, some (6, 0, 0)), (jE, some (12, 0, 0))], rfl, ?_⟩
    rw [← and_assoc]
    refine ⟨leaveR [(jN, some (6, 0, 0)), (jE, some (12, 0, 0))] rfl (fun c hc => ?_) (.old rfl rfl (GB.row (Nat.le_refl _) (fun q hq => ?_) (fun e => by cases e)) (.old rfl rfl (Zd4 _) .nil)) (fun j b e => ?_), .agg (GVs_cpB (.rs rfl rfl rfl rfl) (.rs rfl rfl rfl rfl))⟩
    · rcases List.mem_cons.1 (show c ∈ [(6, 0, 0), (12, 0, 0)] from hc) with rfl | hc
      · exact .inl rfl
      · rw [List.mem_singleton.1 hc]; exact .inl rfl
    · exact .cons (.imm rfl) (.cons (.imm rfl) (.cons (.imm rfl) (.cons (.cc (Zb9 hq) (Zb9 hq) (.rs (famG_at hq) rfl rfl rfl)) (.cons (.imm rfl) .nil))))
    · obtain ⟨q, rfl, hq, rfl⟩ := famG_some e
      exact HOk.mk rfl (show famG s.stack s.stack.length (945, 0, q) = _ from famG_at hq) (Zbs _)
end Go.Proofs.Ytoelbgjpmpoolaa
namespace Go.Proofs.Ytoelbgjpmpoolaa
open Go Dv
set_option maxRecDepth 10000
set_option linter.unusedSimpArgs false
abbrev noH0 : Zao := fun _ => none
theorem GV.rel {src : Dv.Id → Option Dv.Id} {h : Zao} {x y : AV} (g : GV src h noH0 x y) : Rel h x y := fun X ι w v s hv => by
  have h1 := g X ι w v s hv
  have e : plc src noH0 ι = ι0 := funext fun j => rfl
  rw [e] at h1
  exact Zbp keep_out y v (Sub.refl _) h1
theorem frz_frs {src : Dv.Id → Option Dv.Id} {h h' : Zao} {F : Dv.Id} {l : List Zaw} {imm : Bool} {f : Nat → List AV} {R : Nat → Dv.Id} (hd : ∀ j, (h' j).isSome = true → src j ≠ some F) (hr : ∀ q, q < l.length → ∀ j, (h' j).isSome = true → src j ≠ some (R q)) (hF : h F = some (.row imm 5 l.length f))
    (hf : ∀ q, q < l.length → ∃ y, f q = [iv (l.getD q default).f, iv (l.getD q default).block, iv (l.getD q default).at_, y, .int .u16 (l.getD q default).fly] ∧ y = .rs (R q) 1 0 (l.getD q default).regs.length ∧ h (R q) = some (regB (l.getD q default).regs)) : GV src h h' (.rs F 5 0 l.length) (frs l) := by
  refine GV.frz hd hF (by omega) rfl (fun x hx => ?_) (fun x hx => rfl)
  obtain ⟨y, e1, e2, e3⟩ := hf x hx
  rw [Nat.zero_add x, e1]
  refine .cons (.imm rfl) (.cons (.imm rfl) (.cons (.imm rfl) (.cons ?_ (.cons (.imm rfl) .nil))))
  rw [e2]
  exact GV.frz (hr x hx) e3 (by omega) rfl (fun z hz => by rw [Nat.zero_add z]; exact .cons (.imm rfl) .nil) (fun z hz => rfl)
theorem c_mCopy (s : Mach) : FC Try.prog 18 [.agg (Zbx s)] (.agg (Zbx s)) := by
  refine HF.fc (c_mCopyH s) (GV.rel (src := fun _ => none) (.agg ?_))
  refine .cons (frz_frs (R := fun q => (945, 0, q)) (fun _ h => by cases h) (fun _ _ _ h => by cases h) rfl (fun q hq => ⟨_, rfl, Zb9 hq, famG_at hq⟩)) (.cons (.imm rfl) (.cons (.imm rfl) (.cons (.imm rfl) (.cons (.imm rfl) (.cons (.imm rfl) (.cons (.imm rfl) (.cons (.imm rfl) (.cons (.imm rfl) (.cons (.imm rfl) (.cons (.imm rfl) (.cons (.imm rfl) (.cons (.imm rfl) (.cons (.imm rfl) (.cons (.imm rfl) (.cons (.imm rfl) (.cons (.imm rfl) (.cons (.imm rfl) (.cons (GV.frz (fun _ h => by cases h) rfl (by omega) rfl (fun z hz => by rw [Nat.zero_add z]; exact .cons (.imm rfl) .nil) (fun z hz => rfl)) (.cons (.imm rfl) (.cons (.imm rfl) .nil))))))))))))))))))))
end Go.Proofs.Ytoelbgjpmpoolaa
namespace Go.Proofs.Ytoelbgjpmpoolaa
open Go Dv
set_option maxRecDepth 10000
set_option linter.unusedSimpArgs false
theorem c_mStepN {m : Zai} {s : Mach} (hr : Zbj m = true) (h : OkM m s) (hev : s.events.length < 1000000) (hd : s.done = 0) : HG Try.prog [jB] 17 (memN m s) [.bp jB 0] (.tup []) (mem m (Zch m s)) :=
  renN (c_mStepOk hr h hev hd) (.cons (.bp rfl rfl) .nil)
def regN' (l : List Zaw) (q : Nat) : Dv.Id := bif Nat.blt q (l.length - 1) then (945, 0, q) else jT
theorem GVs_frzM {src : Dv.Id → Option Dv.Id} {h h' : Zao} {m : Zai} {s : Mach} {F : Dv.Id} (hd : ∀ j i, (h' j).isSome = true → src j = some i → i ≠ F ∧ i ≠ jE ∧ i ≠ jT ∧ ∀ q, i ≠ (945, 0, q)) (h1 : h F = some (Zcx s.stack)) (h2 : h jE = some (evB s.events)) (h3 : h jT = some (regB (topF s).regs)) (h4 : ∀ q, q < s.stack.length - 1 → h (945, 0, q) = some (regB (s.stack.getD q default).regs)) :
    GVs src h h' (macX F m s) (Zbx s ++ [Zd3 m.funcs]) := by
  refine .cons ?_ (.cons (.imm rfl) (.cons (.imm rfl) (.cons (.imm rfl) (.cons (.imm rfl) (.cons (.imm rfl) (.cons (.imm rfl) (.cons (.imm rfl) (.cons (.imm rfl) (.cons (.imm rfl) (.cons (.imm rfl) (.cons (.imm rfl) (.cons (.imm rfl) (.cons (.imm rfl) (.cons (.imm rfl) (.cons (.imm rfl) (.cons (.imm rfl) (.cons (.imm rfl) (.cons (GV.frz (fun j hj e => (hd j _ hj e).2.1 rfl) h2 (by omega) rfl (fun z hz => by rw [Nat.zero_add z]; exact .cons (.imm rfl) .nil) (fun z hz => rfl)) (.cons (.imm rfl) (.cons (.imm rfl) (.cons (.imm rfl) .nil)))))))))))))))))))))
  refine frz_frs (R := regN' s.stack) (fun j hj e => (hd j _ hj e).1 rfl) (fun q hq j hj e => ?_) h1 (fun q hq => ⟨_, rfl, ?_, ?_⟩)
  · have := hd j _ hj e
    unfold regN' at this
    cases e2 : Nat.blt q (s.stack.length - 1) with
    | true => rw [e2] at this; exact this.2.2.2 q rfl
    | false => rw [e2] at this; exact this.2.2.1 rfl
  · unfold Zbg regN'
    by_cases e : q < s.stack.length - 1
    · rw [Zb9 e, show Nat.blt q (s.stack.length - 1) = true from by rw [Nat.blt_eq]; exact e]; rfl
    · rw [Zdc (by omega), show Nat.blt q (s.stack.length - 1) = false from by rw [Bool.eq_false_iff]; intro h; rw [Nat.blt_eq] at h; omega]; rfl
  · unfold regN'
    by_cases e : q < s.stack.length - 1
    · rw [show Nat.blt q (s.stack.length - 1) = true from by rw [Nat.blt_eq]; exact e]
      exact h4 q e
    · rw [show Nat.blt q (s.stack.length - 1) = false from by rw [Bool.eq_false_iff]; intro h; rw [Nat.blt_eq] at h; omega]
      show h jT = _
      rw [h3]; unfold topF; rw [show s.stack.length - 1 = q by omega]
theorem newL_names {m : Zai} {inputs : List Int} {i : Dv.Id} (h : (orH (Zay (newL m inputs)) noH i).isSome = true) : i = jN ∨ i = jT := by
  cases e1 : idEq jN i with
  | true => exact .inl (Zav.1 e1).symm
  | false =>
    cases e2 : idEq jT i with
    | true => exact .inr (Zav.1 e2).symm
    | false =>
      unfold orH newL at h
      simp only [Zay, e1, e2, cond_false, noH] at h
      cases h
set_option maxHeartbeats 4000000 in
theorem c_mRun (m : Zai) (inputs : List Int) (n : Int) (hr : Zbj m = true) (hi : (∀ x ∈ inputs, 0 ≤ x ∧ x ≤ 65535) ∧ inputs.length < 1000000) (hn : n < 900000) : FC Try.prog 8 [.agg (Zbf m), u16s inputs, iv n] (.tup [.agg (Zbx (runM m inputs n.toNat)), iv 0]) := by
  refine Zax tok Try.func8 rfl (by decide +kernel) (Nat.le_of_ble_eq_true rfl) ?_
  have hmx : maxL = 4294967296 := rfl
  (repeat' first | refine Zac ?_ | (refine Zab tok (by rfl) ?_; conv => whnf))
  refine .inr ⟨_, _, _, uG (QH.ofF (c_mNew m inputs hr) rfl (fun i hi => ?_)), ?_⟩
  · rcases newL_names hi with rfl | rfl <;> rfl
  conv => whnf
  (repeat' ((fail_if_success (show AWp _ _ _ (Code.region 3 _ _) _ _)); (fail_if_success (show AWp _ _ _ (Code.region 4 _ _) _ _)); first | refine Zac ?_ | (refine Zab tok (by rfl) ?_; conv => whnf) | (refine Zag ?_; conv => whnf) | refine Zaf rfl (fun hb => ?_) (fun hb => ?_)))
  · exfalso
    have : ¬ (1048576 : Int) < n := by omega
    simp [this] at hb
  clear hb
  (repeat' ((fail_if_success (show AWp _ _ _ (Code.region 5 _ _) _ _)); first | refine Zac ?_ | (refine Zab tok (by rfl) ?_; conv => whnf)))
  refine AWp_max tok 1 rfl (by rfl) rfl rfl rfl rfl rfl ?_; conv => whnf
  refine ⟨_, _, _, rfl, rfl, rfl, ?_⟩
  conv => whnf
  (repeat' ((fail_if_success (show AWp _ _ _ (Code.region 6 _ _) _ _)); refine Zak ?_))
  refine Za5 (fun i : Nat => mkF [(2, iv n), (3, .bp (3, 0, 0) 0), (6, .bp (6, 0, 0) 0), (10, .bp jB 0), (29, iv n.toNat), (30, iv i)] ([((3, 0, 0), Za6 (Zbf m)), ((6, 0, 0), Za6 zMach)] ++ memNL m (runM m inputs i)) (famW (runM m inputs i).stack)) (fun i => i ≤ n.toNat) (fun i => n.toNat - i) 0 (Nat.zero_le _) ?_ ?_
  · refine Weak.fam (L := []) (tl := [(2, iv n), (3, .bp (3, 0, 0) 0), (6, .bp (6, 0, 0) 0), (10, .bp jB 0), (29, iv n.toNat), (30, iv 0)]) (hl := [((3, 0, 0), Za6 (Zbf m)), ((6, 0, 0), Za6 zMach)] ++ memNL m (runM m inputs 0)) (F := famW (runM m inputs 0).stack) [(jB, some (27, 0, 0)), (jE, none)] rfl (fun c hc => ?_) ?_ ?_ ?_ (fun i hi => by cases hi)
    · rw [List.mem_singleton.1 (show c ∈ [(27, 0, 0)] from hc)]; exact .inl rfl
    · exact .cons (.imm rfl) (.cons (.bp rfl rfl) (.cons (.bp rfl rfl) (.cons (.bp rfl rfl) (.cons (.int (by omega)) (.cons (.imm rfl) .nil)))))
    · refine .old rfl rfl (GB.one (GVs.imm rfl) (fun _ => rfl)) (.old rfl rfl (GB.one (GVs.imm rfl) (fun _ => rfl)) (.old rfl rfl (GB.one ?_ (fun e => by cases e)) (.old rfl rfl (GB_fr (fun q hq => by have : q < 1 - 1 := hq; omega) rfl (fun q hq => by have : q < 1 - 1 := hq; omega) rfl) (.new rfl (.old rfl rfl (Zbs _) .nil)))))
      exact .cons (.rs rfl rfl rfl rfl) (.cons (.imm rfl) (.cons (.imm rfl) (.cons (.imm rfl) (.cons (.imm rfl) (.cons (.imm rfl) (.cons (.imm rfl) (.cons (.imm rfl) (.cons (.imm rfl) (.cons (.imm rfl) (.cons (.imm rfl) (.cons (.imm rfl) (.cons (.imm rfl) (.cons (.imm rfl) (.cons (.imm rfl) (.cons (.imm rfl) (.cons (.imm rfl) (.cons (.imm rfl) (.cons (.nil rfl rfl rfl) (.cons (.imm rfl) (.cons (.imm rfl) (.cons (.imm rfl) .nil)))))))))))))))))))))
    · exact fun j b e => by
        obtain ⟨q, _, hq, _⟩ := famW_some e
        have : q < 1 - 1 := hq
        omega
  intro i hi2
  have hok := okM_run hr hi i
  have hev := ev_run (m := m) (inputs := inputs) i
  generalize hs : runM m inputs i = s at hok hev
  (repeat' ((fail_if_success (show AWp _ _ _ (Code.region 8 _ _) _ _)); (fail_if_success (show AWp _ _ _ (Code.region 10 _ _) _ _)); first | refine Zac ?_ | (refine Zab tok (by rfl) ?_; conv => whnf) | refine Zak ?_ | (refine Zag ?_; conv => whnf) | (refine Za8 ?_; conv => whnf) | refine Zaf rfl (fun hb => ?_) (fun hb => ?_)))
  · rename_i hlt
    have hd : ¬ s.done = 0 := by simpa using hb
    have he : runM m inputs n.toNat = s := by
      have := run_done (m := m) (inputs := inputs) (i := i) (by rw [hs]; exact hd) (n.toNat - i)
      rw [show i + (n.toNat - i) = n.toNat by omega, hs] at this
      exact this
    rw [he]
    clear hb
    refine Zau (Weak.fam (L := []) (tl := [(3, .bp (3, 0, 0) 0), (6, .bp (6, 0, 0) 0), (10, .bp jB 0)]) (hl := [((3, 0, 0), Za6 (Zbf m)), ((6, 0, 0), Za6 zMach)] ++ [(jB, .row false 22 1 (fun _ => Zbx s ++ [Zd3 m.funcs]))]) (F := noH) [] rfl (fun c hc => by cases hc) ?_ ?_ noF (fun i hi => by cases hi)) ?_
    · (repeat' first | exact TLg.nil | refine TLg.cons (GV.bp rfl rfl) ?_)
    · refine .old rfl rfl (GB.one (GVs.imm rfl) (fun _ => rfl)) (.old rfl rfl (GB.one (GVs.imm rfl) (fun _ => rfl)) (.old rfl rfl (GB.one (GVs_frzM (fun j i hj e => ?_) rfl rfl rfl (fun q hq => ?_)) (fun e => by cases e)) .nil))
      · have e' : j = i := Option.some.inj e
        subst e'
        exact ⟨(fun e2 => by subst e2; cases hj), (fun e2 => by subst e2; cases hj), (fun e2 => by subst e2; cases hj), (fun q e2 => by subst e2; cases hj)⟩
      · show famW s.stack (945, 0, q) = _
        exact Za0 hq
    (repeat' (refine Zab tok (by rfl) ?_; conv => whnf))
    refine .inl ⟨_, _, _, uG (QC.fc (c_mCopy s) rfl), ?_⟩
    conv => whnf
    (repeat' (refine Zaj ?_; conv => whnf))
    exact ⟨_, rfl, Rel.tup (.cons (Rel.agg (Rels.imm rfl)) (.cons (Rel.int rfl) .nil))⟩
  · rename_i hlt
    have hlt : i < n.toNat := by simp only [decide_eq_true_eq] at hlt; omega
    have hd : s.done = 0 := by simpa using hb
    clear hb
    (repeat' (refine Zab tok (by rfl) ?_; conv => whnf))
    refine .inr ⟨_, _, _, uG (QH.ddM (by simp) (c_mStepN hr hok (by omega) hd) hok.len (memN_sub rfl rfl rfl rfl (fun _ => rfl)) rfl rfl (fun q hq => Zan hq)), ?_⟩
    conv => whnf
    (repeat' (refine Zab tok (by rfl) ?_; conv => whnf))
    refine ⟨i + 1, hlt, by omega, ?_⟩
    have hs1 : runM m inputs (i + 1) = Zch m s := by show Zch m (runM m inputs i) = _; rw [hs]
    rw [hs1]
    refine Weak.fam (L := []) (tl := [(2, iv n), (3, .bp (3, 0, 0) 0), (6, .bp (6, 0, 0) 0), (10, .bp jB 0), (29, iv n.toNat), (30, iv (i + 1))]) (hl := [((3, 0, 0), Za6 (Zbf m)), ((6, 0, 0), Za6 zMach)] ++ memNL m (Zch m s)) (F := famW (Zch m s).stack) [(jN, some jF)] rfl (fun c hc => ?_) ?_ ?_ ?_ (fun i hi => by cases hi)
    · rw [List.mem_singleton.1 (show c ∈ [jF] from hc)]; exact .inl rfl
    · exact .cons (.imm rfl) (.cons (.bp rfl rfl) (.cons (.bp rfl rfl) (.cons (.bp rfl rfl) (.cons (.imm rfl) (.cons (.int (Zal (by omega) (by omega))) .nil)))))
    · refine .old rfl rfl (GB.one (GVs.imm rfl) (fun _ => rfl)) (.old rfl rfl (GB.one (GVs.imm rfl) (fun _ => rfl)) ?_)
      exact HLs_memN rfl rfl rfl rfl (fun _ => rfl) rfl rfl rfl rfl rfl rfl rfl rfl (fun q hq => Zcg hq)
    · refine Ze9 (fun _ _ => rfl) (fun q hq => ?_)
      exact Za9 hq
  · have he : runM m inputs n.toNat = s := by
      have : i = n.toNat := by simp only [decide_eq_false_iff_not] at hb; omega
      rw [← this, hs]
    rw [he]
    clear hb
    refine Zau (Weak.fam (L := []) (tl := [(3, .bp (3, 0, 0) 0), (6, .bp (6, 0, 0) 0), (10, .bp jB 0)]) (hl := [((3, 0, 0), Za6 (Zbf m)), ((6, 0, 0), Za6 zMach)] ++ [(jB, .row false 22 1 (fun _ => Zbx s ++ [Zd3 m.funcs]))]) (F := noH) [] rfl (fun c hc => by cases hc) ?_ ?_ noF (fun i hi => by cases hi)) ?_
    · (repeat' first | exact TLg.nil | refine TLg.cons (GV.bp rfl rfl) ?_)
    · refine .old rfl rfl (GB.one (GVs.imm rfl) (fun _ => rfl)) (.old rfl rfl (GB.one (GVs.imm rfl) (fun _ => rfl)) (.old rfl rfl (GB.one (GVs_frzM (fun j i hj e => ?_) rfl rfl rfl (fun q hq => ?_)) (fun e => by cases e)) .nil))
      · have e' : j = i := Option.some.inj e
        subst e'
        exact ⟨(fun e2 => by subst e2; cases hj), (fun e2 => by subst e2; cases hj), (fun e2 => by subst e2; cases hj), (fun q e2 => by subst e2; cases hj)⟩
      · show famW s.stack (945, 0, q) = _
        exact Za0 hq
    (repeat' (refine Zab tok (by rfl) ?_; conv => whnf))
    refine .inl ⟨_, _, _, uG (QC.fc (c_mCopy s) rfl), ?_⟩
    conv => whnf
    (repeat' (refine Zaj ?_; conv => whnf))
    exact ⟨_, rfl, Rel.tup (.cons (Rel.agg (Rels.imm rfl)) (.cons (Rel.int rfl) .nil))⟩
end Go.Proofs.Ytoelbgjpmpoolaa
namespace Go.Proofs.Ytoelbgjpmpoolaa
open Go Dv
set_option maxRecDepth 10000
set_option linter.unusedSimpArgs false
theorem c_FrSameEq (f : Zaw) : FC Try.prog 14 [.agg (Zbd f), .agg (Zbd f)] (.bool true) := by
  refine Zax tok Try.func14 rfl (by decide +kernel) (Nat.le_of_ble_eq_true rfl) ?_
  refine Za1 0 (fun hl => ?_)
  have hl0 : f.regs.length ≤ maxL := hl.2.2.2.1.1
  have hmx : maxL = 4294967296 := rfl
  clear hl
  (repeat' ((fail_if_success (show AWp _ _ _ (Code.region 2 _ _) _ _)); (fail_if_success (show AWp _ _ _ (Code.region 3 _ _) _ _)); first | refine Zac ?_ | (refine Zab tok (by rfl) ?_; conv => whnf) | (refine Zag ?_; conv => whnf) | refine Zaf rfl (fun hb => ?_) (fun hb => ?_)))
  · exfalso; simp at hb
  clear hb
  (repeat' ((fail_if_success (show AWp _ _ _ (Code.region 4 _ _) _ _)); first | (refine Zab tok (by rfl) ?_; conv => whnf) | refine Zak ?_))
  refine Za5 (fun i : Nat => mkS [(2, .bp (2, 0, 0) 0), (3, .bp (3, 0, 0) 0), (5, iv i)] [((2, 0, 0), Za6 (Zbd f)), ((3, 0, 0), Za6 (Zbd f))]) (fun i => i ≤ f.regs.length) (fun i => f.regs.length - i) 0 (Nat.zero_le _) ?_ ?_
  · refine Weak.list [((2, 0, 0), .old (2, 0, 0), Za6 (Zbd f)), ((3, 0, 0), .old (3, 0, 0), Za6 (Zbd f))] rfl (by rfl) ?_ (.old rfl (BLe.refl _) (.old rfl (BLe.refl _) .nil))
    ((repeat' first | exact TLes.nil | refine TLes.cons (TLe.eq rfl) ?_); skip)
  intro i hi
  (repeat' ((fail_if_success (show AWp _ _ _ (Code.region 6 _ _) _ _)); (fail_if_success (show AWp _ _ _ (Code.region 8 _ _) _ _)); first | refine Zac ?_ | (refine Zab tok (by rfl) ?_; conv => whnf) | refine Zak ?_ | (refine Zag ?_; conv => whnf) | (refine Za8 ?_; conv => whnf) | refine Zaf rfl (fun hb => ?_) (fun hb => ?_)))
  · have hil : i < f.regs.length := by simp only [decide_eq_true_eq] at hb; omega
    clear hb
    ((repeat' first | refine Zac ?_ | (refine Zab tok (by rfl) ?_; conv => whnf) | (refine Zap tok mix (by rfl) ?_; conv => whnf) | (refine Zag ?_; conv => whnf) | (refine Zaj ?_; conv => whnf) | refine Zaf rfl (fun hb => ?_) (fun hb => ?_) | (refine @And.intro (Zaa _ _ _ _) _ ?_ ?_; rotate_left; (conv => whnf); rotate_right)); all_goals (try ((guard_target = Zaa _ _ _ _); refine Zae ?_; (all_goals (try simp only [Zaa, kzz, kz11, kz12, maxL, Zad] at *)); all_goals omega)))
    · exfalso; simp at hb
    clear hb
    refine ⟨i + 1, hil, by omega, ?_⟩
    refine Weak.list [((2, 0, 0), .old (2, 0, 0), Za6 (Zbd f)), ((3, 0, 0), .old (3, 0, 0), Za6 (Zbd f))] rfl (by rfl) ?_ (.old rfl (BLe.refl _) (.old rfl (BLe.refl _) .nil))
    ((repeat' first | exact TLes.nil | refine TLes.cons (TLe.eq rfl) ?_ | refine TLes.cons (TLe.int ?_) ?_); (all_goals first | ((try (simp only [Zaa, kzz, kz11, kz12, maxL, Zad] at *)); exact Zal (by omega) (by omega)) | skip))
  · (repeat' first | (refine Zab tok (by rfl) ?_; conv => whnf) | (refine Zaj ?_; conv => whnf))
    exact ⟨_, rfl, Rel.bool rfl⟩
end Go.Proofs.Ytoelbgjpmpoolaa
namespace Go.Proofs.Ytoelbgjpmpoolaa
open Go Dv
set_option maxRecDepth 10000
set_option linter.unusedSimpArgs false
theorem FC.arg {P : Program} {f : FuncId} {args args' : List AV} {r : AV} (h : FC P f args' r) (ha : ∀ (X : Nat → Prop) (w : World) (vals : List Value), Vs w X args ι0 vals → Vs w X args' ι0 vals) : FC P f args r :=
  ⟨h.1, fun X w vals hX hV => h.2 X w vals hX (ha X w vals hV)⟩
theorem V_nsl {w : World} {own : Nat → Prop} {ι : Zah} {sz : Nat} {f : Nat → List AV} {v : Value} (hv : V w own .nsl ι v) : V w own (.sl sz 0 f) ι v := by
  simp only [V] at hv ⊢
  exact ⟨none, 0, hv, Nat.le_refl _, Nat.zero_le _, .inl trivial⟩
inductive NS : List AV → List AV → Prop where
  | nil : NS [] []
  | e {x : AV} {xs ys : List AV} (h : NS xs ys) : NS (x :: xs) (x :: ys)
  | n {sz : Nat} {f : Nat → List AV} {xs ys : List AV} (h : NS xs ys) : NS (.nsl :: xs) (.sl sz 0 f :: ys)
theorem NS.Vs {w : World} {own : Nat → Prop} {ι : Zah} : ∀ {xs ys : List AV} {vs : List Value}, NS xs ys → Dv.Vs w own xs ι vs → Dv.Vs w own ys ι vs
  | _, _, _, .nil, h => h
  | _, _, _, .e hr, h => by
      simp only [Dv.Vs] at h ⊢
      obtain ⟨v, r, e, h1, h2⟩ := h
      exact ⟨v, r, e, h1, hr.Vs h2⟩
  | _, _, _, .n hr, h => by
      simp only [Dv.Vs] at h ⊢
      obtain ⟨v, r, e, h1, h2⟩ := h
      exact ⟨v, r, e, V_nsl h1, hr.Vs h2⟩
theorem c_fFunBad (m : Zai) (n : Int) (hr : Zbj m = false) : FC Try.prog 38 [.agg (Zbf m), iv n] (.tup [.agg [iv 0, iv 0, .nsl], .bool false]) := by
  refine Zax tok Try.func38 rfl (by decide +kernel) (Nat.le_of_ble_eq_true rfl) ?_
  have hR := c_lRight c_lpad m
  rw [hr] at hR
  (repeat' first | refine Zac ?_ | (refine Zab tok (by rfl) ?_; conv => whnf))
  refine .inl ⟨_, _, _, uG (QC.fc hR rfl), ?_⟩
  conv => whnf
  (repeat' ((fail_if_success (show AWp _ _ _ (Code.region 2 _ _) _ _)); (fail_if_success (show AWp _ _ _ (Code.region 3 _ _) _ _)); first | refine Zac ?_ | (refine Zag ?_; conv => whnf) | refine Zaf rfl (fun hb => ?_) (fun hb => ?_)))
  · (repeat' first | (refine Zab tok (by rfl) ?_; conv => whnf) | (refine Zaj ?_; conv => whnf))
    exact ⟨_, rfl, Rel.tup (.cons (Rel.agg (Rels.imm rfl)) (.cons (Rel.imm rfl) .nil))⟩
  · exfalso; cases hb
theorem c_fNewBad (m : Zai) (n : Int) (args : List Int) (hr : Zbj m = false) : FC Try.prog 24 [.agg (Zbf m), iv n, u16s args] (.tup [.agg [iv 0, iv 0, iv 0, .nsl, .int .u16 0], iv 1]) := by
  refine Zax tok Try.func24 rfl (by decide +kernel) (Nat.le_of_ble_eq_true rfl) ?_
  (repeat' first | refine Zac ?_ | (refine Zab tok (by rfl) ?_; conv => whnf))
  refine .inl ⟨_, _, _, uG (QC.fc (c_fFunBad m n hr) rfl), ?_⟩
  conv => whnf
  (repeat' ((fail_if_success (show AWp _ _ _ (Code.region 3 _ _) _ _)); (fail_if_success (show AWp _ _ _ (Code.region 4 _ _) _ _)); first | refine Zac ?_ | (refine Zab tok (by rfl) ?_; conv => whnf) | (refine Zag ?_; conv => whnf) | refine Zaf rfl (fun hb => ?_) (fun hb => ?_)))
  · (repeat' first | (refine Zab tok (by rfl) ?_; conv => whnf) | (refine Zaj ?_; conv => whnf))
    exact ⟨_, rfl, Rel.tup (.cons (Rel.agg (Rels.imm rfl)) (.cons (Rel.imm rfl) .nil))⟩
  · exfalso; cases hb
theorem c_mNewBad (m : Zai) (inputs : List Int) (hr : Zbj m = false) : FC Try.prog 16 [.agg (Zbf m), u16s inputs] (.tup [.agg zMach, iv 1]) := by
  refine Zax tok Try.func16 rfl (by decide +kernel) (Nat.le_of_ble_eq_true rfl) ?_
  (repeat' first | refine Zac ?_ | (refine Zab tok (by rfl) ?_; conv => whnf))
  refine .inl ⟨_, _, _, uG (QC.sc (rd := []) (c_fNewBad m 0 [] hr) (.cons (.imm rfl) (.cons (.imm rfl) (.cons .nsl .nil))) rfl), ?_⟩
  conv => whnf
  (repeat' ((fail_if_success (show AWp _ _ _ (Code.region 3 _ _) _ _)); (fail_if_success (show AWp _ _ _ (Code.region 4 _ _) _ _)); first | refine Zac ?_ | (refine Zab tok (by rfl) ?_; conv => whnf) | (refine Zag ?_; conv => whnf) | refine Zaf rfl (fun hb => ?_) (fun hb => ?_)))
  · (repeat' first | (refine Zab tok (by rfl) ?_; conv => whnf) | (refine Zaj ?_; conv => whnf))
    exact ⟨_, rfl, Rel.tup (.cons (Rel.agg (Rels.imm rfl)) (.cons (Rel.imm rfl) .nil))⟩
  · exfalso; cases hb
theorem c_mRunBad (m : Zai) (inputs : List Int) (n : Int) (hr : Zbj m = false) : FC Try.prog 8 [.agg (Zbf m), u16s inputs, iv n] (.tup [.agg zMach, iv 1]) := by
  refine Zax tok Try.func8 rfl (by decide +kernel) (Nat.le_of_ble_eq_true rfl) ?_
  (repeat' first | refine Zac ?_ | (refine Zab tok (by rfl) ?_; conv => whnf))
  refine .inl ⟨_, _, _, uG (QC.fc (c_mNewBad m inputs hr) rfl), ?_⟩
  conv => whnf
  (repeat' ((fail_if_success (show AWp _ _ _ (Code.region 3 _ _) _ _)); (fail_if_success (show AWp _ _ _ (Code.region 4 _ _) _ _)); first | refine Zac ?_ | (refine Zab tok (by rfl) ?_; conv => whnf) | (refine Zag ?_; conv => whnf) | refine Zaf rfl (fun hb => ?_) (fun hb => ?_)))
  · (repeat' first | (refine Zab tok (by rfl) ?_; conv => whnf) | (refine Zaj ?_; conv => whnf))
    exact ⟨_, rfl, Rel.tup (.cons (Rel.agg (Rels.imm rfl)) (.cons (Rel.imm rfl) .nil))⟩
  · exfalso; cases hb
end Go.Proofs.Ytoelbgjpmpoolaa
namespace Go.Proofs.Ytoelbgjpmpoolaa
open Go Dv
set_option maxRecDepth 10000
set_option linter.unusedSimpArgs false
def Ze0 (m : Zai) (f : Zaw) : Int := if endB m f = true then (Zas m f).fin.f else (Zbw m f).f
def LinkM (m : Zai) (l : List Zaw) : Prop := ∀ i, i + 1 < l.length → Ze0 m (l.getD i default) = (l.getD (i + 1) default).f
theorem Ze7 {m : Zai} {l : List Zaw} (h : LinkM m l) (k : Nat) : LinkM m (l.take k) := fun i hi => by
  rw [List.length_take] at hi
  rw [Zbv _ (by omega), Zbv _ (by omega)]
  exact h i (by omega)
theorem link_app {m : Zai} {l : List Zaw} (h : LinkM m l) {f : Zaw} (hl : 0 < l.length → Ze0 m (l.getD (l.length - 1) default) = f.f) : LinkM m (l ++ [f]) := fun i hi => by
  rw [List.length_append, List.length_singleton] at hi
  rw [Zc6, Zc6, if_pos (by omega)]
  by_cases h1 : i + 1 < l.length
  · rw [if_pos h1]; exact h i h1
  · rw [if_neg h1, if_pos (by omega)]
    have := hl (by omega)
    rwa [show l.length - 1 = i by omega] at this
theorem Zdj {m : Zai} {s : Mach} (h : LinkM m s.stack) {f : Zaw} (hp : 0 < s.stack.length) (hf : f.f = (topF s).f) : LinkM m (Zbu s f).stack := by
  refine link_app (Ze7 h _) (fun hl => ?_)
  rw [List.length_take] at hl ⊢
  rw [show min (s.stack.length - 1) s.stack.length = s.stack.length - 1 by omega] at hl ⊢
  rw [Zbv _ (by omega), hf]
  have := h (s.stack.length - 1 - 1) (by omega)
  rw [show s.stack.length - 1 - 1 + 1 = s.stack.length - 1 by omega] at this
  exact this
theorem link_called {m : Zai} {s : Mach} (h : LinkM m s.stack) {n : Int} {l : List Int} (hc : Ze0 m (topF s) = n) : LinkM m (Zb0 m s n l).stack := by
  unfold Zb0
  split
  · exact h
  · exact link_app h (fun _ => hc)
theorem link_answered {m : Zai} {s : Mach} (h : LinkM m s.stack) {w : Int} (hp : 0 < s.stack.length) : LinkM m (Zbq m s w).stack := by
  unfold Zbq
  split
  · exact Ze7 h _
  · rename_i h1
    refine Zdj (s := popM s) (Ze7 h _) (by rw [Zcr]; omega) ?_
    unfold answF; split <;> rfl
theorem link_thrown {m : Zai} {s : Mach} (h : LinkM m s.stack) {w : Int} (hp : 0 < s.stack.length) : LinkM m (Zbc m s w).stack := by
  unfold Zbc
  dsimp only
  split
  · rename_i hany
    rw [List.any_eq_true] at hany
    obtain ⟨i, hi, hic⟩ := hany
    rw [List.mem_range] at hi
    obtain ⟨_, hK2⟩ := Zfc (p := Zbt m (popM s).stack w true) (n := (popM s).stack.length - 1) ⟨i, by omega, catch_more hic⟩
    generalize Zer (Zbt m (popM s).stack w true) ((popM s).stack.length - 1) = K at hK2
    have hl : (Zdf (popM s) (K + 1)).stack.length = K + 1 := by simp [Zdf]; omega
    refine Zdj (s := Zdf (popM s) (K + 1)) (Ze7 (Ze7 h _) _) (by omega) ?_
    unfold topF
    rw [hl]
    show ((popM s).stack.getD K default).f = ((Zdf (popM s) (K + 1)).stack.getD (K + 1 - 1) default).f
    rw [show (Zdf (popM s) (K + 1)).stack = (popM s).stack.take (K + 1) from rfl, Zbv _ (by omega)]; rfl
  · exact Ze7 h _
theorem link_ins {m : Zai} {s : Mach} (h : LinkM m s.stack) (hp : 0 < s.stack.length) (he : endB m (topF s) = false) : LinkM m (insM m s (topF s) (Zbw m (topF s))).stack := by
  unfold insM
  split
  · exact link_called h (by unfold Ze0; rw [if_neg (by rw [he]; simp)])
  split
  · split
    · refine Zdj h hp ?_
      unfold Zdg; split <;> rfl
    · exact h
  split
  · split
    · exact h
    · exact Zdj h hp rfl
  split
  · split
    · exact h
    · exact Zdj (s := { s with cells := _ }) h hp rfl
  split
  · exact Zdj (s := { s with events := _ }) h hp rfl
  split
  · split
    · exact h
    · exact Zdj (s := { s with inputs := _, events := _ }) h hp rfl
  · exact Zdj h hp rfl
theorem link_step {m : Zai} {s : Mach} (h : LinkM m s.stack) (hp : s.done = 0 → 0 < s.stack.length) : LinkM m (Zch m s).stack := by
  unfold Zch
  split
  · rename_i hd
    unfold stepE
    split
    · rename_i he; exact link_ins h (hp hd) he
    rename_i he
    split
    · exact link_answered h (hp hd)
    split
    · exact link_called h (by unfold Ze0; rw [if_pos (by simpa using he)])
    split
    · exact link_thrown h (hp hd)
    split
    · exact link_thrown h (hp hd)
    · exact Zdj h (hp hd) rfl
  · exact h
theorem link_run {m : Zai} {inputs : List Int} (hr : Zbj m = true) (hi : (∀ x ∈ inputs, 0 ≤ x ∧ x ≤ 65535) ∧ inputs.length < 1000000) : ∀ k, LinkM m (runM m inputs k).stack
  | 0 => fun i h => by have : i + 1 < 1 := h; omega
  | k + 1 => link_step (link_run hr hi k) (okM_run hr hi k).pos
end Go.Proofs.Ytoelbgjpmpoolaa
namespace Go.Proofs.Ytoelbgjpmpoolaa
open Go Dv
set_option maxRecDepth 10000
set_option linter.unusedSimpArgs false
theorem c_mCalls (m : Zai) (f : Zaw) (hr : Zbj m = true) (h : OkF m f) (hC : CallF m f) : FC Try.prog 22 [.agg (Zbf m), .agg (Zbd f)] (iv (Ze0 m f)) := by
  refine Zax tok Try.func22 rfl (by decide +kernel) (Nat.le_of_ble_eq_true rfl) ?_
  have hmx : maxL = 4294967296 := rfl
  have f0 := h.f0
  have f1 := h.f1
  have b0 := h.b0
  have b1 : f.block < (m.funcs.getD f.f.toNat default).blocks.length := h.b1
  have a0 := h.a0
  have a1 := h.a1
  have h64 := (Zey hr h).1
  cases he : endB m f with
  | true =>
    have hk := hC.fin he
    have e1 : f.at_ = (Zas m f).ins.length := by unfold endB at he; simpa using he
    rw [show Ze0 m f = (Zas m f).fin.f from by unfold Ze0; rw [he]; rfl]
    have hgen : ∃ b, Zas m f = b := ⟨_, rfl⟩
    obtain ⟨b, hb0⟩ := hgen
    have hb0' : (m.funcs.getD f.f.toNat default).blocks.getD f.block.toNat default = b := hb0
    rw [hb0] at hk e1 h64
    rw [hb0]
    have hx : ¬ f.at_ < ((m.funcs.getD f.f.toNat default).blocks.getD f.block.toNat default).ins.length := by rw [hb0']; omega
    ((repeat' ((fail_if_success (show AWp _ _ _ (Code.region 3 _ _) _ _)); (fail_if_success (show AWp _ _ _ (Code.region 4 _ _) _ _)); first | refine Zac ?_ | (refine Zab tok (by rfl) ?_; conv => whnf) | (refine Zap tok mix (by rfl) ?_; conv => whnf) | refine Zak ?_ | refine Zaf rfl (fun hb => ?_) (fun hb => ?_) | (refine @And.intro (Zaa _ _ _ _) _ ?_ ?_; rotate_left; (conv => whnf); rotate_right))); all_goals (try ((guard_target = Zaa _ _ _ _); (first | refine Zae ?_ | (refine Za7 ?_; intro hgd; (conv at hgd => whnf))); (all_goals (try simp only [Zaa, kzz, kz11, kz12, maxL, Zad] at *)); all_goals omega)))
    · exfalso; rw [decide_eq_false hx] at hb; cases hb
    clear hb
    (repeat' ((fail_if_success (show AWp _ _ _ (Code.region 5 _ _) _ _)); (fail_if_success (show AWp _ _ _ (Code.region 6 _ _) _ _)); first | refine Zac ?_ | (refine Zab tok (by rfl) ?_; conv => whnf) | (refine Zag ?_; conv => whnf) | refine Zaf rfl (fun hb => ?_) (fun hb => ?_)))
    · (repeat' first | (refine Zab tok (by rfl) ?_; conv => whnf) | (refine Zaj ?_; conv => whnf))
      exact ⟨_, rfl, Rel.int (by rw [hb0'])⟩
    · exfalso
      rw [hb0', decide_eq_true e1, hk] at hb; cases hb
  | false =>
    have ho := hC.ins he
    have hI := (okF_ins hr h he).1
    rw [show Ze0 m f = (Zbw m f).f from by unfold Ze0; rw [he]; rfl]
    have hlt : f.at_ < ((m.funcs.getD f.f.toNat default).blocks.getD f.block.toNat default).ins.length := by
      have : f.at_.toNat < ((m.funcs.getD f.f.toNat default).blocks.getD f.block.toNat default).ins.length := hI
      omega
    ((repeat' ((fail_if_success (show AWp _ _ _ (Code.region 3 _ _) _ _)); (fail_if_success (show AWp _ _ _ (Code.region 4 _ _) _ _)); first | refine Zac ?_ | (refine Zab tok (by rfl) ?_; conv => whnf) | (refine Zap tok mix (by rfl) ?_; conv => whnf) | refine Zak ?_ | refine Zaf rfl (fun hb => ?_) (fun hb => ?_) | (refine @And.intro (Zaa _ _ _ _) _ ?_ ?_; rotate_left; (conv => whnf); rotate_right))); all_goals (try ((guard_target = Zaa _ _ _ _); (first | refine Zae ?_ | (refine Za7 ?_; intro hgd; (conv at hgd => whnf))); (all_goals (try simp only [Zaa, kzz, kz11, kz12, maxL, Zad] at *)); all_goals omega)))
    · ((repeat' first | (refine Zab tok (by rfl) ?_; conv => whnf) | (refine Zaj ?_; conv => whnf) | (refine @And.intro (Zaa _ _ _ _) _ ?_ ?_; rotate_left; (conv => whnf); rotate_right)); all_goals (try ((guard_target = Zaa _ _ _ _); refine Zae ?_; (all_goals (try simp only [Zaa, kzz, kz11, kz12, maxL, Zad] at *)); all_goals omega)))
      exact ⟨_, rfl, Rel.int rfl⟩
    · exfalso
      have ho' : (((m.funcs.getD f.f.toNat default).blocks.getD f.block.toNat default).ins.getD f.at_.toNat default).op = 11 := ho
      rw [decide_eq_true hlt, ho'] at hb; cases hb
end Go.Proofs.Ytoelbgjpmpoolaa
namespace Go.Proofs.Ytoelbgjpmpoolaa
open Go Dv
set_option maxRecDepth 10000
set_option linter.unusedSimpArgs false
structure OkS (m : Zai) (s : Mach) : Prop where
  ok : OkM m s
  link : LinkM m s.stack
  done : 0 ≤ s.done ∧ s.done ≤ 6
set_option maxHeartbeats 4000000 in
theorem c_mRight (m : Zai) (s : Mach) (hr : Zbj m = true) (h : OkS m s) : FC Try.prog 10 [.agg (Zbf m), .agg (Zbx s)] (.bool true) := by
  refine Zax tok Try.func10 rfl (by decide +kernel) (Nat.le_of_ble_eq_true rfl) ?_
  have hmx : maxL = 4294967296 := rfl
  have hR := c_lRight c_lpad m
  rw [hr] at hR
  have h32 := h.ok.len
  have hd := h.done
  have hpos := h.ok.pos
  (repeat' first | refine Zac ?_ | (refine Zab tok (by rfl) ?_; conv => whnf))
  refine .inl ⟨_, _, _, uG (QC.fc hR rfl), ?_⟩
  conv => whnf
  (repeat' ((fail_if_success (show AWp _ _ _ (Code.region 3 _ _) _ _)); (fail_if_success (show AWp _ _ _ (Code.region 4 _ _) _ _)); first | refine Zac ?_ | (refine Zag ?_; conv => whnf) | refine Zaf rfl (fun hb => ?_) (fun hb => ?_)))
  · exfalso
    rw [decide_eq_false (show ¬ s.done < 0 by omega), decide_eq_false (show ¬ 6 < s.done by omega), decide_eq_false (show ¬ (32 : Int) < s.stack.length by omega)] at hb
    by_cases e : s.done = 0
    · have := hpos e
      rw [decide_eq_false (show ¬ ((s.stack.length : Int) = 0) by omega)] at hb; cases hb
    · rw [decide_eq_false e] at hb
      cases hb2 : decide ((s.stack.length : Int) = 0) <;> rw [hb2] at hb <;> cases hb
  clear hb
  (repeat' ((fail_if_success (show AWp _ _ _ (Code.region 5 _ _) _ _)); first | (refine Zab tok (by rfl) ?_; conv => whnf) | refine Zak ?_))
  refine Za5 (fun i : Nat => mkS [(2, .bp (2, 0, 0) 0), (3, .bp (3, 0, 0) 0), (5, iv s.stack.length), (38, frs s.stack), (39, iv s.stack.length), (40, iv i)] [((2, 0, 0), Za6 (Zbf m)), ((3, 0, 0), Za6 (Zbx s))]) (fun i => i ≤ s.stack.length) (fun i => s.stack.length - i) 0 (Nat.zero_le _) ?_ ?_
  · refine Weak.list [((2, 0, 0), .old (2, 0, 0), Za6 (Zbf m)), ((3, 0, 0), .old (3, 0, 0), Za6 (Zbx s))] rfl (by rfl) ?_ (.old rfl (BLe.refl _) (.old rfl (BLe.refl _) .nil))
    ((repeat' first | exact TLes.nil | refine TLes.cons (TLe.eq rfl) ?_); skip)
  intro i hi
  ((repeat' ((fail_if_success (show AWp _ _ _ (Code.region 7 _ _) _ _)); (fail_if_success (show AWp _ _ _ (Code.region 10 _ _) _ _)); first | refine Zac ?_ | (refine Zab tok (by rfl) ?_; conv => whnf) | refine Zak ?_ | (refine Zag ?_; conv => whnf) | (refine Za8 ?_; conv => whnf) | refine Zaf rfl (fun hb => ?_) (fun hb => ?_) | (refine @And.intro (Zaa _ _ _ _) _ ?_ ?_; rotate_left; (conv => whnf); rotate_right))); all_goals (try ((guard_target = Zaa _ _ _ _); refine Zae ?_; (all_goals (try simp only [Zaa, kzz, kz11, kz12, maxL, Zad] at *)); all_goals omega)))
  · have hil : i < s.stack.length := by simp only [decide_eq_true_eq] at hb; omega
    clear hb
    have hF : OkF m (s.stack.getD i default) := h.ok.fr _ (Zc2 _ hil)
    have hfR := c_fRight m (s.stack.getD i default) hr hF
    have hcall : i + 1 < s.stack.length → FC Try.prog 22 [.agg (Zbf m), .agg (Zbd (s.stack.getD i default))] (iv (s.stack.getD (i + 1) default).f) := fun hn => by
      have := c_mCalls m (s.stack.getD i default) hr hF (h.ok.ca _ (top_take hn))
      rw [h.link i hn] at this; exact this
    (repeat' (refine Zap tok mix (by rfl) ?_; conv => whnf))
    refine .inl ⟨_, _, _, uG (QC.fc hfR rfl), ?_⟩
    conv => whnf
    skip
    refine .inl ⟨_, _, _, Za7 (fun hgd => QC.fc (hcall ?_) rfl), ?_⟩
    · conv at hgd => whnf
      have h1 := hgd.1
      rw [Zal (by omega) (by omega)] at h1
      simp only [decide_eq_true_eq] at h1
      omega
    conv => whnf
    ((repeat' first | refine Zac ?_ | (refine Zab tok (by rfl) ?_; conv => whnf) | (refine Zag ?_; conv => whnf) | (refine Zaj ?_; conv => whnf) | refine Zaf rfl (fun hb => ?_) (fun hb => ?_) | (refine @And.intro (Zaa _ _ _ _) _ ?_ ?_; rotate_left; (conv => whnf); rotate_right)); all_goals (try ((guard_target = Zaa _ _ _ _); ((refine Za7 ?_; intro hgd; (conv at hgd => whnf); (try simp (disch := omega) only [Zal] at hgd))); (all_goals (try simp only [Zaa, kzz, kz11, kz12, maxL, Zad] at *)); (all_goals (try (simp (disch := omega) only [Zal]))); all_goals omega)))
    · exfalso
      rw [Zal (by omega) (by omega)] at hb
      rw [show (((i : Int) + 1).toNat) = i + 1 by omega] at hb
      simp at hb
    clear hb
    refine ⟨i + 1, hil, by omega, ?_⟩
    refine Weak.list [((2, 0, 0), .old (2, 0, 0), Za6 (Zbf m)), ((3, 0, 0), .old (3, 0, 0), Za6 (Zbx s))] rfl (by rfl) ?_ (.old rfl (BLe.refl _) (.old rfl (BLe.refl _) .nil))
    ((repeat' first | exact TLes.nil | refine TLes.cons (TLe.eq rfl) ?_ | refine TLes.cons (TLe.int ?_) ?_); (all_goals first | ((try (simp only [Zaa, kzz, kz11, kz12, maxL, Zad] at *)); exact Zal (by omega) (by omega)) | skip))
  · (repeat' first | (refine Zab tok (by rfl) ?_; conv => whnf) | (refine Zaj ?_; conv => whnf))
    exact ⟨_, rfl, Rel.bool rfl⟩
end Go.Proofs.Ytoelbgjpmpoolaa
namespace Go.Proofs.Ytoelbgjpmpoolaa
open Go Dv
set_option maxRecDepth 10000
set_option linter.unusedSimpArgs false
set_option linter.unusedVariables false
abbrev Dn (s : Mach) : Prop := 0 ≤ s.done ∧ s.done ≤ 6
theorem dn_end {s : Mach} {how w : Int} (h : 0 ≤ how ∧ how ≤ 6) : Dn (endM s how w) := h
theorem dn_called {m : Zai} {s : Mach} {n : Int} {l : List Int} (h : Dn s) : Dn (Zb0 m s n l) := by unfold Zb0; split; exact dn_end (by omega); exact h
theorem dn_answered {m : Zai} {s : Mach} {w : Int} (h : Dn s) : Dn (Zbq m s w) := by unfold Zbq; split; exact dn_end (by omega); exact h
theorem dn_thrown {m : Zai} {s : Mach} {w : Int} (h : Dn s) : Dn (Zbc m s w) := by unfold Zbc; dsimp only; split; exact h; exact dn_end (by omega)
theorem dn_ins {m : Zai} {s : Mach} {f : Zaw} {x : Ins} (h : Dn s) : Dn (insM m s f x) := by
  unfold insM
  split
  · exact dn_called h
  split
  · split
    · exact h
    · exact dn_end (by omega)
  split
  · split
    · exact dn_end (by omega)
    · exact h
  split
  · split
    · exact dn_end (by omega)
    · exact h
  split
  · exact h
  split
  · split
    · exact dn_end (by omega)
    · exact h
  · exact h
theorem dn_step {m : Zai} {s : Mach} (h : Dn s) : Dn (Zch m s) := by
  unfold Zch
  split
  · unfold stepE
    split
    · exact dn_ins h
    split
    · exact dn_answered h
    split
    · exact dn_called h
    split
    · exact dn_thrown h
    split
    · exact dn_thrown h
    · exact h
  · exact h
theorem okS_step {m : Zai} {s : Mach} (hr : Zbj m = true) (h : OkS m s) : OkS m (Zch m s) := ⟨okM_step hr h.ok, link_step h.link h.ok.pos, dn_step h.done⟩
theorem okS_run {m : Zai} {inputs : List Int} (hr : Zbj m = true) (hi : (∀ x ∈ inputs, 0 ≤ x ∧ x ≤ 65535) ∧ inputs.length < 1000000) : ∀ k, OkS m (runM m inputs k)
  | 0 => ⟨okM_run hr hi 0, link_run hr hi 0, ⟨Int.le_refl 0, (by decide : (0 : Int) ≤ 6)⟩⟩
  | k + 1 => okS_step hr (okS_run hr hi k)
theorem cp_same {src : Dv.Id → Option Dv.Id} {h h' : Zao} {l : List Zaw} (hs : ∀ q, q < l.length - 1 → src (945, 0, q) = some (945, 0, q)) (ht : src jT = some (945, 0, l.length - 1)) (hf : ∀ q, q < l.length - 1 → (h' (945, 0, q)).isSome = true) (hT : (h' jT).isSome = true) :
    GB src h h' (rowCp l l.length) (Zcx l) :=
  GB.row (Nat.le_refl _) (fun q hq => .cons (.imm rfl) (.cons (.imm rfl) (.cons (.imm rfl) (.cons (by
    unfold Zbg
    by_cases e : q < l.length - 1
    · cases e1 : h' (945, 0, q) with
      | none => have := hf q e; rw [e1] at this; cases this
      | some b => exact .cc (Zb9 hq) (Zb9 e) (.rs e1 (hs q e) rfl rfl)
    · have e2 : q = l.length - 1 := by have : q < l.length := hq; omega
      subst e2
      cases e1 : h' jT with
      | none => rw [e1] at hT; cases hT
      | some b => exact .cc (Zb9 hq) (Zdc (Nat.le_refl _)) (.rs e1 ht rfl rfl)) (.cons (.imm rfl) .nil))))) (fun e => by cases e)
theorem cpH_names {s : Mach} {i : Dv.Id} (h : (cpH s i).isSome = true) : i = jN ∨ i = jE ∨ ∃ q, i = (945, 0, q) := by
  cases e1 : idEq jN i with
  | true => exact .inl (Zav.1 e1).symm
  | false =>
    cases e2 : idEq jE i with
    | true => exact .inr (.inl (Zav.1 e2).symm)
    | false =>
      refine .inr (.inr ?_)
      unfold cpH orH at h
      simp only [Zay, e1, e2, cond_false] at h
      cases e : famG s.stack s.stack.length i with
      | none => rw [e] at h; cases h
      | some b => obtain ⟨q, rfl, _, _⟩ := famG_some e; exact ⟨q, rfl⟩
theorem bigH_some {d : List Dv.Id} {u h : Zao} {j : Dv.Id} {b : Zam} (e : u j = some b) : bigH d u h j = some b := by unfold bigH; rw [e]
theorem cpH_fam {s : Mach} {q : Nat} (hq : q < s.stack.length) : cpH s (945, 0, q) = some (regB (s.stack.getD q default).regs) := famG_at hq
theorem GVs_frzC {src : Dv.Id → Option Dv.Id} {h h' : Zao} {m : Zai} {s : Mach} (h1 : ∀ j, (h' j).isSome = true → src j ≠ some jN) (h2 : ∀ q, q < s.stack.length → ∀ j, (h' j).isSome = true → src j ≠ some (945, 0, q)) (h3 : h jN = some (rowCp s.stack s.stack.length)) (h4 : ∀ q, q < s.stack.length → h (945, 0, q) = some (regB (s.stack.getD q default).regs))
    (h5 : ∀ j, (h' j).isSome = true → src j ≠ some jE) (h6 : h jE = some (evB s.events)) : GVs src h h' (cpB jN jE s ++ [Zd3 m.funcs]) (Zbx s ++ [Zd3 m.funcs]) :=
  .cons (frz_frs (R := fun q => (945, 0, q)) h1 h2 h3 (fun q hq => ⟨_, rfl, Zb9 hq, h4 q hq⟩)) (.cons (.imm rfl) (.cons (.imm rfl) (.cons (.imm rfl) (.cons (.imm rfl) (.cons (.imm rfl) (.cons (.imm rfl) (.cons (.imm rfl) (.cons (.imm rfl) (.cons (.imm rfl) (.cons (.imm rfl) (.cons (.imm rfl) (.cons (.imm rfl) (.cons (.imm rfl) (.cons (.imm rfl) (.cons (.imm rfl) (.cons (.imm rfl) (.cons (.imm rfl) (.cons (GV.frz h5 h6 (by omega) rfl (fun z hz => by rw [Nat.zero_add z]; exact .cons (.imm rfl) .nil) (fun z hz => rfl)) (.cons (.imm rfl) (.cons (.imm rfl) (.cons (.imm rfl) .nil)))))))))))))))))))))
set_option maxHeartbeats 4000000 in
theorem c_mStepM (m : Zai) (s : Mach) (hr : Zbj m = true) (h : OkS m s) (hev : s.events.length < 1000000) : FC Try.prog 12 [.agg (Zbf m), .agg (Zbx s)] (.tup [.agg (Zbx (Zch m s)), iv 0]) := by
  refine Zax tok Try.func12 rfl (by decide +kernel) (Nat.le_of_ble_eq_true rfl) ?_
  have hmx : maxL = 4294967296 := rfl
  (repeat' first | refine Zac ?_ | (refine Zab tok (by rfl) ?_; conv => whnf))
  refine .inl ⟨_, _, _, uG (QC.fc (c_mRight m s hr h) rfl), ?_⟩
  conv => whnf
  (repeat' ((fail_if_success (show AWp _ _ _ (Code.region 2 _ _) _ _)); (fail_if_success (show AWp _ _ _ (Code.region 3 _ _) _ _)); first | refine Zac ?_ | (refine Zag ?_; conv => whnf) | refine Zaf rfl (fun hb => ?_) (fun hb => ?_)))
  · exfalso; cases hb
  clear hb
  refine Zdx tok mix (by rfl) [0, 2] 30 (by rfl) (by rfl) (by rfl) ?_
  conv => whnf
  (repeat' first
    | (refine @And.intro (Zaa _ _ _ _) _ ?_ ?_; rotate_left; (conv => whnf); rotate_right)
    | (guard_target = And _ _; refine @And.intro (gOp _ _ _ _ _ _ _ _ _) _ (by (conv => whnf); exact ⟨rfl, rfl⟩) ?_; conv => whnf)
    | (guard_target = And _ _; refine And.intro ?_ ?_ <;> (conv => whnf)))
  refine .inr ⟨_, _, _, uG (QH.ofF (c_mCopyH s) rfl (fun i hi => ?_)), ?_⟩
  · rcases cpH_names hi with rfl | rfl | ⟨q, rfl⟩ <;> rfl
  conv => whnf
  (repeat' first
    | (refine @And.intro (Zaa _ _ _ _) _ ?_ ?_; rotate_left; (conv => whnf); rotate_right)
    | (guard_target = And _ _; refine @And.intro (gOp _ _ _ _ _ _ _ _ _) _ (by (conv => whnf); exact ⟨rfl, rfl⟩) ?_; conv => whnf)
    | (guard_target = And _ _; refine And.intro ?_ ?_ <;> (conv => whnf)))
  all_goals (try ((guard_target = Zaa _ _ _ _); skip; all_goals omega))
  (repeat' ((fail_if_success (show AWp _ _ _ (Code.region 5 _ _) _ _)); (fail_if_success (show AWp _ _ _ (Code.region 6 _ _) _ _)); first | refine Zac ?_ | (refine Zab tok (by rfl) ?_; conv => whnf) | (refine Zag ?_; conv => whnf) | refine Zaf rfl (fun hb => ?_) (fun hb => ?_)))
  · have hd : s.done = 0 := by simpa using hb
    clear hb
    have hp := h.ok.pos hd
    refine Zau (Weak.fam (L := []) (tl := [(4, .bp (4, 0, 0) 0), (6, .bp jB 0)]) (hl := [((4, 0, 0), Za6 zMach)] ++ memNL m s) (F := famW s.stack) [(jB, some (17, 0, 0)), (jT, some (945, 0, s.stack.length - 1))] rfl (fun c hc => ?_) ?_ ?_ ?_ (fun i hi => by cases hi)) ?_
    · rcases List.mem_cons.1 (show c ∈ [(17, 0, 0), (945, 0, s.stack.length - 1)] from hc) with rfl | hc
      · exact .inl rfl
      · rw [List.mem_singleton.1 hc]; exact .inl (Zan (Nat.le_refl _))
    · exact .cons (.bp rfl rfl) (.cons (.bp rfl rfl) .nil)
    · refine .old rfl rfl (GB.one (GVs.imm rfl) (fun _ => rfl)) (.old rfl rfl (GB.one ?_ (fun e => by cases e)) (.old rfl rfl (cp_same (fun _ _ => rfl) rfl (fun q hq => Zcg hq) rfl) (.old rfl rfl (Zd4 _) (.old rfl (bigH_some (cpH_fam (by omega))) (Zbs _) .nil))))
      exact .cons (.rs rfl rfl rfl rfl) (.cons (.imm rfl) (.cons (.imm rfl) (.cons (.imm rfl) (.cons (.imm rfl) (.cons (.imm rfl) (.cons (.imm rfl) (.cons (.imm rfl) (.cons (.imm rfl) (.cons (.imm rfl) (.cons (.imm rfl) (.cons (.imm rfl) (.cons (.imm rfl) (.cons (.imm rfl) (.cons (.imm rfl) (.cons (.imm rfl) (.cons (.imm rfl) (.cons (.imm rfl) (.cons (.rs rfl rfl rfl rfl) (.cons (.imm rfl) (.cons (.imm rfl) (.cons (.imm rfl) .nil)))))))))))))))))))))
    · refine Ze9 (fun _ _ => rfl) (fun q hq => ?_)
      exact bigH_some (cpH_fam (by omega))
    (repeat' (refine Zab tok (by rfl) ?_; conv => whnf))
    refine .inr ⟨_, _, _, uG (QH.ddM (by simp) (c_mStepN hr h.ok hev hd) h.ok.len (memN_sub rfl rfl rfl rfl (fun _ => rfl)) rfl rfl (fun q hq => Zan hq)), ?_⟩
    conv => whnf
    (repeat' ((fail_if_success (show AWp _ _ _ (Code.region 6 _ _) _ _)); refine Zac ?_))
    generalize Zch m s = s1
    refine Zau (Weak.fam (L := []) (tl := [(4, .bp (4, 0, 0) 0), (6, .bp jB 0)]) (hl := [((4, 0, 0), Za6 zMach)] ++ [(jB, .row false 22 1 (fun _ => Zbx s1 ++ [Zd3 m.funcs]))]) (F := noH) [] rfl (fun c hc => by cases hc) ?_ ?_ noF (fun i hi => by cases hi)) ?_
    · exact .cons (.bp rfl rfl) (.cons (.bp rfl rfl) .nil)
    · refine .old rfl rfl (GB.one (GVs.imm rfl) (fun _ => rfl)) (.old rfl rfl (GB.one (GVs_frzM (F := jF) (fun j i hj e => ?_) rfl rfl rfl (fun q hq => ?_)) (fun e => by cases e)) .nil)
      · have e' : j = i := Option.some.inj e
        subst e'
        exact ⟨(fun e2 => by subst e2; cases hj), (fun e2 => by subst e2; cases hj), (fun e2 => by subst e2; cases hj), (fun q e2 => by subst e2; cases hj)⟩
      · exact Za9 hq
    (repeat' (refine Zab tok (by rfl) ?_; conv => whnf))
    refine .inl ⟨_, _, _, uG (QC.fc (c_mCopy s1) rfl), ?_⟩
    conv => whnf
    (repeat' (refine Zaj ?_; conv => whnf))
    exact ⟨_, rfl, Rel.tup (.cons (Rel.agg (Rels.imm rfl)) (.cons (Rel.int rfl) .nil))⟩
  · have hd : ¬ s.done = 0 := by simpa using hb
    clear hb
    rw [show Zch m s = s from if_neg hd]
    refine Zau (Weak.fam (L := []) (tl := [(4, .bp (4, 0, 0) 0), (6, .bp jB 0)]) (hl := [((4, 0, 0), Za6 zMach)] ++ [(jB, .row false 22 1 (fun _ => Zbx s ++ [Zd3 m.funcs]))]) (F := noH) [(jB, some (17, 0, 0))] rfl (fun c hc => ?_) ?_ ?_ noF (fun i hi => by cases hi)) ?_
    · rw [List.mem_singleton.1 (show c ∈ [(17, 0, 0)] from hc)]; exact .inl rfl
    · exact .cons (.bp rfl rfl) (.cons (.bp rfl rfl) .nil)
    · have key : ∀ j, ((orH (Zay ([((4, 0, 0), Za6 zMach)] ++ [(jB, .row false 22 1 (fun _ => Zbx s ++ [Zd3 m.funcs]))])) noH) j).isSome = true → j = (4, 0, 0) ∨ j = jB := fun j hj => by
        cases e1 : idEq (4, 0, 0) j with
        | true => exact .inl (Zav.1 e1).symm
        | false =>
          cases e2 : idEq jB j with
          | true => exact .inr (Zav.1 e2).symm
          | false =>
            exfalso
            unfold orH at hj
            simp only [List.cons_append, List.nil_append, Zay, e1, e2, cond_false, noH] at hj
            cases hj
      refine .old rfl rfl (GB.one (GVs.imm rfl) (fun _ => rfl)) (.old rfl rfl (GB.one (GVs_frzC (fun j hj e => ?_) (fun q hq j hj e => ?_) rfl (fun q hq => bigH_some (cpH_fam hq)) (fun j hj e => ?_) rfl) (fun e => by cases e)) .nil)
      all_goals (rcases key j hj with rfl | rfl <;> cases e)
    (repeat' (refine Zab tok (by rfl) ?_; conv => whnf))
    refine .inl ⟨_, _, _, uG (QC.fc (c_mCopy s) rfl), ?_⟩
    conv => whnf
    (repeat' (refine Zaj ?_; conv => whnf))
    exact ⟨_, rfl, Rel.tup (.cons (Rel.agg (Rels.imm rfl)) (.cons (Rel.int rfl) .nil))⟩
end Go.Proofs.Ytoelbgjpmpoolaa
namespace Go.Proofs.Ytoelbgjpmpoolaa
open Go Dv
set_option maxRecDepth 10000
set_option linter.unusedSimpArgs false
set_option linter.unusedVariables false
section
variable {m : Zai} {s : Mach}
abbrev Bel (s t : Mach) : Prop := ∀ i, i + 1 < t.stack.length → i < s.stack.length → t.stack.getD i default = s.stack.getD i default
theorem Zeh {s' : Mach} {f : Zaw} (h : ∀ i, i + 1 < s'.stack.length → s'.stack.getD i default = s.stack.getD i default) : Bel s (Zbu s' f) := fun i hi _ => by
  have hl : (Zbu s' f).stack.length = s'.stack.length - 1 + 1 := by show (List.take _ _ ++ [_]).length = _; simp
  show (s'.stack.take (s'.stack.length - 1) ++ [f]).getD i default = _
  rw [Zc6, if_pos (by rw [List.length_take]; omega), Zbv _ (by omega)]
  exact h i (by omega)
theorem bel_pop : ∀ i, i + 1 < (popM s).stack.length + 1 → (popM s).stack.getD i default = s.stack.getD i default := fun i hi => by
  have := Zcr (s := s)
  exact Zbv _ (by omega)
theorem bel_called {n : Int} {l : List Int} : Bel s (Zb0 m s n l) := fun i hi h2 => by
  unfold Zb0
  split
  · rfl
  · show (s.stack ++ [_]).getD i default = _
    rw [Zc6, if_pos h2]
theorem bel_answered {w : Int} : Bel s (Zbq m s w) := by
  unfold Zbq
  split
  · exact fun i hi _ => bel_pop i (by have : (endM (popM s) 1 w).stack.length = (popM s).stack.length := rfl; omega)
  · exact Zeh (s' := popM s) (fun i hi => bel_pop i (by omega))
theorem bel_thrown {w : Int} : Bel s (Zbc m s w) := by
  unfold Zbc
  dsimp only
  split
  · refine Zeh (s' := Zdf (popM s) _) (fun i hi => ?_)
    have hi' : i + 1 < (List.take _ (popM s).stack).length := hi
    rw [List.length_take] at hi'
    show (List.take _ (popM s).stack).getD i default = _
    rw [Zbv _ (by omega)]
    exact bel_pop i (by omega)
  · exact fun i hi _ => bel_pop i (by have : (endM (popM s) 2 w).stack.length = (popM s).stack.length := rfl; omega)
theorem bel_ins {f : Zaw} {x : Ins} : Bel s (insM m s f x) := by
  unfold insM
  split
  · exact bel_called
  split
  · split
    · exact Zeh (fun i _ => rfl)
    · exact fun i _ _ => rfl
  split
  · split
    · exact fun i _ _ => rfl
    · exact Zeh (fun i _ => rfl)
  split
  · split
    · exact fun i _ _ => rfl
    · exact Zeh (s' := { s with cells := _ }) (fun i _ => rfl)
  split
  · exact Zeh (s' := { s with events := _ }) (fun i _ => rfl)
  split
  · split
    · exact fun i _ _ => rfl
    · exact Zeh (s' := { s with inputs := _, events := _ }) (fun i _ => rfl)
  · exact Zeh (fun i _ => rfl)
theorem bel_step : Bel s (Zch m s) := by
  unfold Zch
  split
  · unfold stepE
    split
    · exact bel_ins
    split
    · exact bel_answered
    split
    · exact bel_called
    split
    · exact bel_thrown
    split
    · exact bel_thrown
    · exact Zeh (fun i _ => rfl)
  · exact fun i _ _ => rfl
theorem not_thrown (hd : s.done = 0) (h : ¬ (endB m (topF s) = true ∧ ((Zas m (topF s)).fin.kind = 5 ∨ (Zas m (topF s)).fin.kind = 6))) : (Zch m s).done ≠ 2 := by
  have h0 : s.done ≠ 2 := by omega
  have hE : ∀ {s' : Mach} {a b : Int}, a ≠ 2 → (endM s' a b).done ≠ 2 := fun h => h
  unfold Zch
  rw [if_pos hd]
  unfold stepE
  by_cases he : endB m (topF s) = false
  · rw [if_pos he]
    unfold insM
    split
    · unfold Zb0; split
      · exact hE (by decide)
      · exact h0
    split
    · split
      · exact h0
      · exact hE (by decide)
    split
    · split
      · exact hE (by decide)
      · exact h0
    split
    · split
      · exact hE (by decide)
      · exact h0
    split
    · exact h0
    split
    · split
      · exact hE (by decide)
      · exact h0
    · exact h0
  · have he' : endB m (topF s) = true := by simpa using he
    rw [if_neg he]
    split
    · unfold Zbq; split
      · exact hE (by decide)
      · exact h0
    split
    · unfold Zb0; split
      · exact hE (by decide)
      · exact h0
    split
    · rename_i h5; exact absurd ⟨he', .inl h5⟩ h
    split
    · rename_i h6; exact absurd ⟨he', .inr h6⟩ h
    · exact h0
theorem thrown_spec (hr : Zbj m = true) (h : OkM m s) (hd : s.done = 0) (w : Int) :
    ((Zbc m s w).done = 2 ∧ (Zbc m s w).value = w ∧ (Zbc m s w).stack.length = s.stack.length - 1) ∨
    ((Zbc m s w).done = 0 ∧ 0 < (Zbc m s w).stack.length ∧ (Zbc m s w).stack.length < s.stack.length ∧ (topF (Zbc m s w)).fly = w ∧ (topF (Zbc m s w)).at_ = 0 ∧ (Zas m (topF (Zbc m s w))).landing = true ∧ OkM m (Zbc m s w)) := by
  have hp := h.pos hd
  have hpl := Zcr (s := s)
  have hok := okM_thrown hr h (w := w) hp
  by_cases hany : (List.range (popM s).stack.length).any (Zbt m (popM s).stack w false) = true
  · refine .inr ?_
    have hT : Zbc m s w = Zbu (Zdf (popM s) (Zer (Zbt m (popM s).stack w true) ((popM s).stack.length - 1) + 1)) (landF m ((popM s).stack.getD (Zer (Zbt m (popM s).stack w true) ((popM s).stack.length - 1)) default) (Zas m ((popM s).stack.getD (Zer (Zbt m (popM s).stack w true) ((popM s).stack.length - 1)) default)).fin.pad w) := by
      unfold Zbc; rw [if_pos hany]
    rw [List.any_eq_true] at hany
    obtain ⟨i, hi, hic⟩ := hany
    rw [List.mem_range] at hi
    obtain ⟨hK1, hK2⟩ := Zfc (p := Zbt m (popM s).stack w true) (n := (popM s).stack.length - 1) ⟨i, by omega, catch_more hic⟩
    generalize Zer (Zbt m (popM s).stack w true) ((popM s).stack.length - 1) = K at hK1 hK2 hT
    have hlt : (Zdf (popM s) (K + 1)).stack.length = K + 1 := by show (List.take _ _).length = _; rw [List.length_take]; omega
    have hF : OkF m ((popM s).stack.getD K default) := by
      rw [bel_pop K (by omega)]
      exact h.fr _ (Zc2 _ (by omega))
    unfold Zbt Zex at hK1
    simp only [Bool.and_eq_true, decide_eq_true_eq] at hK1
    have hpad := okF_pad hr hF hK1.2.1
    generalize (popM s).stack.getD K default = f at hT hF hpad
    have hlen : (Zbc m s w).stack.length = K + 1 := by rw [hT]; show (List.take _ _ ++ [_]).length = _; simp [hlt]
    have htop : topF (Zbc m s w) = landF m f (Zas m f).fin.pad w := by
      unfold topF
      rw [hlen, hT]
      show (List.take _ _ ++ [_]).getD _ default = _
      rw [Zc6, if_neg (by rw [List.length_take, hlt]; omega), if_pos (by rw [List.length_take, hlt]; omega)]
    refine ⟨?_, by omega, by omega, ?_, ?_, ?_, hok⟩
    · rw [hT]; exact hd
    · rw [htop]; rfl
    · rw [htop]; rfl
    · rw [htop]; exact hpad.2.1
  · refine .inl ?_
    have hT : Zbc m s w = endM (popM s) 2 w := by unfold Zbc; rw [if_neg hany]
    rw [hT]
    exact ⟨rfl, rfl, hpl⟩
end
end Go.Proofs.Ytoelbgjpmpoolaa
namespace Go.Proofs.Ytoelbgjpmpoolaa
open Go Dv Go.ChangeShapes Go.WideShapes Go.ChangeAt Go.RowKit
open Go.Proofs.Ytoelbgjpmpoolaa
set_option maxRecDepth 10000
set_option linter.unusedVariables false
section
variable {H : Type} {enc : TypeId × Value → H} {w : World}
abbrev Sm (H : Type) : DataW H → Prop := fun d => Rows.uptoBulk d ≤ 1048576
theorem bulk_all {ds : List (DataW H)} {n : Nat} (h : Rows.uptoBulkAll ds ≤ n) : ∀ d ∈ ds, Rows.uptoBulk d ≤ n := by
  induction ds with
  | nil => intro d hd; cases hd
  | cons x r ih =>
    simp only [Rows.uptoBulkAll] at h
    intro d hd
    simp only [List.mem_cons] at hd
    rcases hd with rfl | hd
    · omega
    · exact ih (by omega) d hd
theorem bulk_pos (d : DataW H) : 1 ≤ Rows.uptoBulk d := by
  cases d with
  | lit l => cases l <;> simp only [Rows.uptoBulk] <;> omega
  | _ => simp only [Rows.uptoBulk]; omega
theorem bulk_len {ds : List (DataW H)} {n : Nat} (h : Rows.uptoBulkAll ds ≤ n) : ds.length ≤ n := by
  induction ds generalizing n with
  | nil => simp
  | cons x r ih =>
    simp only [Rows.uptoBulkAll] at h
    have := bulk_pos x
    have := ih (n := n - Rows.uptoBulk x) (by omega)
    simp only [List.length_cons]; omega
theorem sm_agg (ds : List (DataW H)) (h : Sm H (.agg ds)) : ∀ d ∈ ds, Sm H d := by
  simp only [Sm, Rows.uptoBulk] at h; exact bulk_all (by omega)
theorem sm_slice (es sp : List (DataW H)) (h : Sm H (.slice es sp)) : es.length ≤ maxL ∧ ∀ x ∈ es, Sm H x := by
  simp only [Sm, Rows.uptoBulk] at h
  have h1 : Rows.uptoBulkAll es ≤ 1048576 := by omega
  exact ⟨Nat.le_trans (bulk_len h1) (by decide), bulk_all h1⟩
theorem Zd8 : Rd enc Try.prog w (Sm H) 3 Int (fun n => [iv n]) := Rd.int Try.underlying3
theorem rd_u16 : Rd enc Try.prog w (Sm H) 29 Int (fun n => [.int .u16 n]) := Rd.int Try.underlying29
theorem rd_bool : Rd enc Try.prog w (Sm H) 4 Bool (fun b => [.bool b]) := Rd.bool Try.underlying4
theorem rd_ints : Rd enc Try.prog w (Sm H) 31 (List Int) (fun l => [ints l]) := Rd.slice Try.underlying31 (by decide +kernel) (Nat.le_refl _) (fun _ => ⟨rfl, rfl⟩) Zd8 sm_slice
theorem rd_u16s : Rd enc Try.prog w (Sm H) 25 (List Int) (fun l => [u16s l]) := Rd.slice Try.underlying25 (by decide +kernel) (Nat.le_refl _) (fun _ => ⟨rfl, rfl⟩) rd_u16 sm_slice
theorem rd_Ins : Rd enc Try.prog w (Sm H) 58 Ins Zbi :=
  Rd.map (fun x => ⟨x.1, x.2.1, x.2.2.1, x.2.2.2.1, x.2.2.2.2.1, x.2.2.2.2.2.1, x.2.2.2.2.2.2.1⟩)
    (Rd.struct (fl := [(3, 1), (3, 1), (3, 1), (3, 1), (29, 1), (3, 1), (31, 1)]) Try.underlying58 (.cons Zd8 (.cons Zd8 (.cons Zd8 (.cons Zd8 (.cons rd_u16 (.cons Zd8 (.cons rd_ints .nil)))))))
      rfl (by decide +kernel) (by decide +kernel) sm_agg) (fun _ => rfl)
theorem rd_inss : Rd enc Try.prog w (Sm H) 47 (List Ins) (fun l => [inss l]) := Rd.slice Try.underlying47 (by decide +kernel) (by decide) (fun _ => ⟨rfl, rfl⟩) rd_Ins sm_slice
theorem rd_End : Rd enc Try.prog w (Sm H) 49 End Zea :=
  Rd.map (fun x => ⟨x.1, x.2.1, x.2.2.1, x.2.2.2.1, x.2.2.2.2.1, x.2.2.2.2.2.1, x.2.2.2.2.2.2.1, x.2.2.2.2.2.2.2.1⟩)
    (Rd.struct (fl := [(3, 1), (3, 1), (3, 1), (3, 1), (31, 1), (3, 1), (3, 1), (3, 1)]) Try.underlying49 (.cons Zd8 (.cons Zd8 (.cons Zd8 (.cons Zd8 (.cons rd_ints (.cons Zd8 (.cons Zd8 (.cons Zd8 .nil))))))))
      rfl (by decide +kernel) (by decide +kernel) sm_agg) (fun _ => rfl)
theorem rd_Pad : Rd enc Try.prog w (Sm H) 46 Pad encPad :=
  Rd.map (fun x => ⟨x.1, x.2.1, x.2.2.1, x.2.2.2.1⟩)
    (Rd.struct (fl := [(3, 1), (25, 1), (4, 1), (4, 1)]) Try.underlying46 (.cons Zd8 (.cons rd_u16s (.cons rd_bool (.cons rd_bool .nil))))
      rfl (by decide +kernel) (by decide +kernel) sm_agg) (fun _ => rfl)
theorem rd_Block : Rd enc Try.prog w (Sm H) 51 Ze1 Zbl :=
  Rd.map (fun x => ⟨x.1, x.2.1, x.2.2.1, x.2.2.2.1⟩)
    (Rd.struct (fl := [(4, 1), (46, 4), (47, 1), (49, 8)]) Try.underlying51 (.cons rd_bool (.cons rd_Pad (.cons rd_inss (.cons rd_End .nil))))
      rfl (by decide +kernel) (by decide +kernel) sm_agg) (fun _ => rfl)
theorem rd_blocks : Rd enc Try.prog w (Sm H) 52 (List Ze1) (fun l => [blockss l]) := Rd.slice Try.underlying52 (by decide +kernel) (by decide) (fun _ => ⟨rfl, rfl⟩) rd_Block sm_slice
theorem rd_Func : Rd enc Try.prog w (Sm H) 54 Func Zez :=
  Rd.map (fun x => ⟨x.1, x.2.1, x.2.2.1⟩)
    (Rd.struct (fl := [(3, 1), (3, 1), (52, 1)]) Try.underlying54 (.cons Zd8 (.cons Zd8 (.cons rd_blocks .nil)))
      rfl (by decide +kernel) (by decide +kernel) sm_agg) (fun _ => rfl)
theorem rd_funcs : Rd enc Try.prog w (Sm H) 22 (List Func) (fun l => [Zd3 l]) := Rd.slice Try.underlying22 (by decide +kernel) (by decide) (fun _ => ⟨rfl, rfl⟩) rd_Func sm_slice
theorem rd_Module : Rd enc Try.prog w (Sm H) 24 Zai Zbf :=
  Rd.map (fun x => ⟨x.1⟩)
    (Rd.struct (fl := [(22, 1)]) Try.underlying24 (.cons rd_funcs .nil)
      rfl (by decide +kernel) (by decide +kernel) sm_agg) (fun _ => rfl)
end
theorem small_of {H : Type} {ds gs : List (DataW H)} (hk : Rows.uptoSmall H (ds ++ gs) = true) : ∀ d ∈ ds, Sm H d := by
  have h := of_decide_eq_true hk
  exact fun d hd => bulk_all h d (List.mem_append_left _ hd)
end Go.Proofs.Ytoelbgjpmpoolaa
namespace Go.Proofs.Ytoelbgjpmpoolaa
open Go Dv
set_option maxRecDepth 10000
set_option linter.unusedSimpArgs false
structure Iv2 (len : Nat) (D : Nat → List Bool → Bool) (is : List Bool) (n : Nat) (js : List Bool) : Prop where
  sz : js.length = len
  be : Zf1 len D js
  le : leL is js
  don : ∀ j, j < n → D j is = true → js.getD j false = true
theorem Iv2.set {len : Nat} {D : Nat → List Bool → Bool} {is js : List Bool} {n m : Nat} (h : Iv2 len D is n js) (hD : MonoD D) (hm : m < len) (hd : D m js = true) : Iv2 len D is n (js.set m true) := by
  have hs := h.sz
  refine ⟨by simp [hs], fun c hc i e => ?_, h.le.trans (leL_set _ _), fun j hj hd => leL_set _ _ j (h.don j hj hd)⟩
  rw [set_get (by omega), Bool.or_eq_true] at e
  rcases e with e | e
  · have : m = i := by simpa using e
    subst this
    exact hc.cl m hm (hD m js c (h.be c hc) hd)
  · exact h.be c hc i e
structure Iv0 (len : Nat) (D : Nat → List Bool → Bool) (r : Nat) (is : List Bool) : Prop where
  sz : is.length = len
  be : Zf1 len D is
  pr : Closed len D is ∨ r ≤ cnt is
theorem Iv0.next {len : Nat} {D : Nat → List Bool → Bool} {is js : List Bool} {r : Nat} (h0 : Iv0 len D r is) (h : Iv2 len D is len js) : Iv0 len D (r + 1) js := by
  refine ⟨h.sz, h.be, ?_⟩
  obtain ⟨h1, h2⟩ := cnt_mono (by rw [h0.sz, h.sz]) h.le
  by_cases hc : cnt js ≤ cnt is
  · have e := h2 hc
    left
    refine ⟨h.sz, fun n hn hd => ?_⟩
    exact h.don n hn (by rw [e]; exact hd)
  · rcases h0.pr with hcl | hcl
    · exfalso
      have e1 := h.be is hcl
      have := (cnt_mono (by rw [h0.sz, h.sz]) e1).1
      omega
    · right; omega
theorem Iv0.done {len : Nat} {D : Nat → List Bool → Bool} (hD : MonoD D) {is : List Bool} (h0 : Iv0 len D (len + 1) is) : is = lfp len D := by
  refine lfp_uniq hD ?_ h0.be
  rcases h0.pr with h | h
  · exact h
  · have := cnt_le (a := is); rw [h0.sz] at this; omega
end Go.Proofs.Ytoelbgjpmpoolaa
namespace Go.Proofs.Ytoelbgjpmpoolaa
open Go Dv
set_option maxRecDepth 10000
set_option linter.unusedSimpArgs false
end Go.Proofs.Ytoelbgjpmpoolaa
namespace Go.Proofs.Ytoelbgjpmpoolaa
open Go Dv
set_option maxRecDepth 10000
set_option linter.unusedSimpArgs false
def nilPad : Pad := ⟨0, [], false, false⟩
end Go.Proofs.Ytoelbgjpmpoolaa
namespace Go.Proofs.Ytoelbgjpmpoolaa
open Go Dv
set_option maxRecDepth 10000
set_option linter.unusedSimpArgs false
def awM : Zai := ⟨[⟨0, 2, [⟨false, nilPad, [], ⟨4, 0, 0, 1, [], 0, 0, 1⟩⟩, ⟨true, ⟨1, [5], false, false⟩, [], ⟨1, 1, 0, 0, [], 0, 0, 0⟩⟩]⟩, ⟨0, 1, [⟨false, nilPad, [⟨1, 0, 0, 0, 5, 0, []⟩, ⟨12, 0, 0, 0, 0, 0, []⟩], ⟨5, 0, 0, 0, [], 0, 0, 0⟩⟩]⟩]⟩
theorem awM_run : ∃ s, runM awM [] 100 = s ∧ s.done = 1 ∧ s.value = 5 ∧ s.events = [5] := ⟨_, rfl, by decide +kernel, by decide +kernel, by decide +kernel⟩
set_option maxHeartbeats 2000000 in
theorem c_awake06 : FC Try.prog 6 [] (.bool true) := by
  refine Zax tok Try.func6 rfl (by decide +kernel) (Nat.le_of_ble_eq_true rfl) ?_
  (repeat' ((fail_if_success (show AWp _ _ _ (Code.region 2 _ _) _ _)); first | refine Zac ?_ | (refine Zab tok (by rfl) ?_; conv => whnf)))
  refine Zau (Weak.fam (tl := [(1, .bp (1, 0, 0) 0)]) (hl := [((1, 0, 0), .row true 1 1 (fun _ => Zbf awM))]) (F := noH) [] rfl (fun i hi => by cases hi) (.cons (.bp rfl rfl) .nil) (.old rfl rfl (GB.one ?_ (fun _ => rfl)) .nil) noF (fun i hi => by cases hi)) ?_
  · (repeat' first | exact GVs.nil | exact lt0 | refine ltS ?_ ?_ | ((conv => arg 4; whnf); (conv => arg 5; whnf); first | refine GVs.cons (GV.imm rfl) ?_ | refine GVs.cons (GV.wk rfl (.nsl rfl)) ?_ | refine GVs.cons (GV.frz (hd_no rfl) rfl (Nat.le_of_ble_eq_true rfl) rfl ?_ ?_) ?_) | exact (show Zb6 _ = true from rfl))
  obtain ⟨s, h0, hd, hv, he⟩ := awM_run
  have hR := c_mRun awM [] 100 (by decide +kernel) ⟨by simp, by simp⟩ (by decide)
  rw [show (100 : Int).toNat = 100 from rfl, h0] at hR
  have hR2 : FC Try.prog 8 [.agg (Zbf awM), .nsl, iv 100] (.tup [.agg (Zbx s), iv 0]) := FC.arg hR (fun X w vals hV => by
    simp only [Vs] at hV ⊢
    obtain ⟨v1, r1, e1, h1, v2, r2, e2, h2, h3⟩ := hV
    exact ⟨v1, r1, e1, h1, v2, r2, e2, V_nsl h2, h3⟩)
  have hel : s.events.length = 1 := by rw [he]; rfl
  (repeat' (refine Zab tok (by rfl) ?_; conv => whnf))
  refine .inl ⟨_, _, _, uG (QC.fc hR2 rfl), ?_⟩
  conv => whnf
  ((repeat' first | refine Zac ?_ | (refine Zab tok (by rfl) ?_; conv => whnf) | (refine Zaj ?_; conv => whnf) | (refine @And.intro (Zaa _ _ _ _) _ ?_ ?_; rotate_left; (conv => whnf); rotate_right)); all_goals (try ((guard_target = Zaa _ _ _ _); ((refine Za7 ?_; intro hgd; (conv at hgd => whnf); (try simp (disch := omega) only [Zal] at hgd))); (all_goals (try simp only [Zaa, kzz, kz11, kz12, maxL, Zad] at *)); all_goals omega)))
  refine ⟨_, rfl, Rel.bool ?_⟩
  rw [hd, hv, he]
  rfl
end Go.Proofs.Ytoelbgjpmpoolaa
namespace Go.Proofs.Ytoelbgjpmpoolaa
open Go Dv
set_option maxRecDepth 10000
set_option linter.unusedSimpArgs false
set_option linter.unusedVariables false
set_option maxHeartbeats 4000000 in
theorem c_MachThrown (m : Zai) (inputs : List Int) (fuel : Int) : FC Try.prog 5 [.agg (Zbf m), u16s inputs, .int .u8 fuel] (.bool true) := by
  refine Zax tok Try.func5 rfl (by decide +kernel) (Nat.le_of_ble_eq_true rfl) ?_
  refine Za1 1 (fun hl => ?_)
  have hwords : ∀ x ∈ inputs, 0 ≤ x ∧ x ≤ 65535 := fun x hx => by
    obtain ⟨i, hi, rfl⟩ := List.getElem_of_mem hx
    have := (hl.2 i hi).1
    rw [Zci 0 hi] at this; exact this
  clear hl
  refine Za1 2 (fun hl => ?_)
  have hf0 : 0 ≤ fuel ∧ fuel ≤ 255 := hl
  clear hl
  have hmx : maxL = 4294967296 := rfl
  (repeat' first | refine Zac ?_ | (refine Zab tok (by rfl) ?_; conv => whnf))
  refine .inl ⟨_, _, _, uG (QC.fc c_awake06 rfl), ?_⟩
  conv => whnf
  (repeat' first | refine Zac ?_ | (refine Zab tok (by rfl) ?_; conv => whnf) | (refine Zag ?_; conv => whnf) | (refine Zaj ?_; conv => whnf) | refine Zaf rfl (fun hb => ?_) (fun hb => ?_))
  · cases hb
  clear hb
  refine .inl ⟨_, _, _, uG (QC.fc (c_r6Small m inputs) rfl), ?_⟩
  conv => whnf
  ((repeat' first | refine Zac ?_ | (refine Zab tok (by rfl) ?_; conv => whnf) | (refine Zag ?_; conv => whnf) | (refine Zaj ?_; conv => whnf) | refine Zaf rfl (fun hb => ?_) (fun hb => ?_) | (refine @And.intro (Zaa _ _ _ _) _ ?_ ?_; rotate_left; (conv => whnf); rotate_right)); all_goals (try ((guard_target = Zaa _ _ _ _); refine Zae ?_; (all_goals (try simp only [Zaa, kzz, kz11, kz12, maxL, Zad] at *)); all_goals omega)))
  · exact ⟨_, rfl, Rel.bool rfl⟩
  have hsm : smallB m inputs = true := by simpa using hb
  clear hb
  unfold smallB at hsm
  rw [Bool.and_eq_true, decide_eq_true_eq] at hsm
  have hi : (∀ x ∈ inputs, 0 ≤ x ∧ x ≤ 65535) ∧ inputs.length < 1000000 := ⟨hwords, by omega⟩
  cases hr : Zbj m with
  | false =>
    refine .inl ⟨_, _, _, uG (QC.fc (c_mRunBad m inputs _ hr) rfl), ?_⟩
    conv => whnf
    (repeat' ((fail_if_success (show AWp _ _ _ (Code.region 7 _ _) _ _)); (fail_if_success (show AWp _ _ _ (Code.region 8 _ _) _ _)); first | refine Zac ?_ | (refine Zab tok (by rfl) ?_; conv => whnf) | (refine Zag ?_; conv => whnf) | refine Zaf rfl (fun hb => ?_) (fun hb => ?_)))
    · (repeat' first | (refine Zab tok (by rfl) ?_; conv => whnf) | (refine Zaj ?_; conv => whnf))
      exact ⟨_, rfl, Rel.bool rfl⟩
    · exfalso; cases hb
  | true =>
    have h8 := Zc5 .u8 (fuel.tmod 150)
    rw [show IntKind.u8.min = 0 from rfl, show IntKind.u8.max = 255 from rfl] at h8
    have hE : 0 ≤ IntKind.i64.wrap (IntKind.u8.wrap (fuel.tmod 150)) ∧ IntKind.i64.wrap (IntKind.u8.wrap (fuel.tmod 150)) ≤ 255 := by rw [Zal (by omega) (by omega)]; exact h8
    have hR1 := c_mRun m inputs (IntKind.i64.wrap (IntKind.u8.wrap (fuel.tmod 150))) hr hi (by omega)
    have e4 : (IntKind.i64.wrap (IntKind.u8.wrap (fuel.tmod 150))).toNat ≤ 255 := by omega
    generalize (IntKind.i64.wrap (IntKind.u8.wrap (fuel.tmod 150))).toNat = k at hR1 e4
    have hS := okS_run hr hi k
    have hEv := ev_run (m := m) (inputs := inputs) k
    generalize runM m inputs k = s at hR1 hS hEv
    have hSt := c_mStepM m s hr hS (by omega)
    have hbel := bel_step (m := m) (s := s)
    refine .inl ⟨_, _, _, uG (QC.fc hR1 rfl), ?_⟩
    conv => whnf
    (repeat' ((fail_if_success (show AWp _ _ _ (Code.region 7 _ _) _ _)); (fail_if_success (show AWp _ _ _ (Code.region 8 _ _) _ _)); first | refine Zac ?_ | (refine Zab tok (by rfl) ?_; conv => whnf) | (refine Zag ?_; conv => whnf) | refine Zaf rfl (fun hb => ?_) (fun hb => ?_)))
    · (repeat' first | (refine Zab tok (by rfl) ?_; conv => whnf) | (refine Zaj ?_; conv => whnf))
      exact ⟨_, rfl, Rel.bool rfl⟩
    have hd : s.done = 0 := by simpa using hb
    clear hb
    have hp := hS.ok.pos hd
    have h32 := hS.ok.len
    have hF := hS.ok.fr _ (top_mem hp)
    have f0 := hF.f0
    have f1 := hF.f1
    have b0 := hF.b0
    have b1 : (topF s).block < (m.funcs.getD (topF s).f.toNat default).blocks.length := hF.b1
    have a1 := hF.a1
    have hreg := hF.regs
    have hEnd := (Zey hr hF).2
    have h64 := (Zey hr hF).1
    have hnt := not_thrown (m := m) hd
    have hst32 := (okM_step hr hS.ok).len
    have hidx : IntKind.i64.wrap ((s.stack.length : Int) - 1) = ((s.stack.length - 1 : Nat) : Int) := by rw [Zal (by omega) (by omega)]; omega
    ((repeat' ((fail_if_success (show AWp _ _ _ (Code.region 9 _ _) _ _)); first | refine Zac ?_ | (refine Zab tok (by rfl) ?_; conv => whnf) | (refine @And.intro (Zaa _ _ _ _) _ ?_ ?_; rotate_left; (conv => whnf); rotate_right))); all_goals (try ((guard_target = Zaa _ _ _ _); refine Zae ?_; (all_goals (try simp only [Zaa, kzz, kz11, kz12, maxL, Zad] at *)); (all_goals (try (simp (disch := omega) only [Zal]))); all_goals omega)))
    refine Zau (τ := mkS [(3, .bp (3, 0, 0) 0), (7, .bp (7, 0, 0) 0), (9, .bp (9, 0, 0) 0)] [((3, 0, 0), Za6 (Zbf m)), ((7, 0, 0), .row true 21 1 (fun _ => Zbx s)), ((9, 0, 0), Za6 (Zbd (topF s)))]) ?_ ?_
    · refine Weak.list [((3, 0, 0), .old (3, 0, 0), Za6 (Zbf m)), ((7, 0, 0), .old (7, 0, 0), .row true 21 1 (fun _ => Zbx s)), ((9, 0, 0), .old (9, 0, 0), Za6 (Zbd (topF s)))] rfl (by rfl) ?_ (.old rfl (BLe.refl _) (.old rfl (BLe.rowW (Nat.le_refl _) (ltS (Wks.of rfl) lt0)) (.old rfl (BLe.rowW (Nat.le_refl _) (ltS (Wks.of ?_) lt0)) .nil)))
      · ((repeat' first | exact TLes.nil | refine TLes.cons (TLe.eq rfl) ?_); skip)
      · rw [hidx]; rfl
    ((repeat' first | refine Zac ?_ | (refine Zab tok (by rfl) ?_; conv => whnf) | (refine Zap tok mix (by rfl) ?_; conv => whnf) | (refine @And.intro (Zaa _ _ _ _) _ ?_ ?_; rotate_left; (conv => whnf); rotate_right)); all_goals (try ((guard_target = Zaa _ _ _ _); refine Zae ?_; (all_goals (try simp only [Zaa, kzz, kz11, kz12, maxL, Zad] at *)); all_goals omega)))
    refine .inl ⟨_, _, _, uG (QC.fc hSt rfl), ?_⟩
    conv => whnf
    (repeat' ((fail_if_success (show AWp _ _ _ (Code.region 12 _ _) _ _)); (fail_if_success (show AWp _ _ _ (Code.region 13 _ _) _ _)); first | refine Zac ?_ | (refine Zab tok (by rfl) ?_; conv => whnf) | (refine Zag ?_; conv => whnf) | refine Zaf rfl (fun hb => ?_) (fun hb => ?_)))
    · exfalso; cases hb
    clear hb
    have hbk : (m.funcs.getD (topF s).f.toNat default).blocks.getD (topF s).block.toNat default = Zas m (topF s) := rfl
    (repeat' ((fail_if_success (show AWp _ _ _ (Code.region 14 _ _) _ _)); first | (refine Zab tok (by rfl) ?_; conv => whnf) | refine Zak ?_))
    refine Za5 (fun i : Nat => mkS [(3, .bp (3, 0, 0) 0), (7, .bp (7, 0, 0) 0), (9, .bp (9, 0, 0) 0), (10, .bp (10, 0, 0) 0), (11, .bp (11, 0, 0) 0), (13, iv i)] [((3, 0, 0), Za6 (Zbf m)), ((7, 0, 0), .row true 21 1 (fun _ => Zbx s)), ((9, 0, 0), Za6 (Zbd (topF s))), ((10, 0, 0), Za6 (Zbl (Zas m (topF s)))), ((11, 0, 0), .row true 21 1 (fun _ => Zbx (Zch m s)))]) (fun i => i ≤ 40) (fun i => 40 - i) 0 (by omega) ?_ ?_
    · refine Weak.list [((3, 0, 0), .old (3, 0, 0), Za6 (Zbf m)), ((7, 0, 0), .old (7, 0, 0), .row true 21 1 (fun _ => Zbx s)), ((9, 0, 0), .old (9, 0, 0), Za6 (Zbd (topF s))), ((10, 0, 0), .old (10, 0, 0), Za6 (Zbl (Zas m (topF s)))), ((11, 0, 0), .old (11, 0, 0), .row true 21 1 (fun _ => Zbx (Zch m s)))] rfl (by rfl) ?_ (.old rfl (BLe.refl _) (.old rfl (BLe.refl _) (.old rfl (BLe.refl _) (.old rfl (BLe.rowW (Nat.le_refl _) (ltS (Wks.of rfl) lt0)) (.old rfl (BLe.rowW (Nat.le_refl _) (ltS (Wks.of rfl) lt0)) .nil)))))
      ((repeat' first | exact TLes.nil | refine TLes.cons (TLe.eq rfl) ?_); skip)
    intro i hi2
    (repeat' ((fail_if_success (show AWp _ _ _ (Code.region 16 _ _) _ _)); (fail_if_success (show AWp _ _ _ (Code.region 18 _ _) _ _)); first | refine Zac ?_ | (refine Zab tok (by rfl) ?_; conv => whnf) | refine Zak ?_ | (refine Zag ?_; conv => whnf) | (refine Za8 ?_; conv => whnf) | refine Zaf rfl (fun hb => ?_) (fun hb => ?_)))
    · have hlt : i + 1 < (Zch m s).stack.length ∧ i < s.stack.length := by
        rw [Zal (by omega) (by omega)] at hb
        by_cases e1 : (i : Int) + 1 < (Zch m s).stack.length <;> by_cases e2 : (i : Int) < s.stack.length <;> simp [e1, e2] at hb
        omega
      clear hb
      obtain ⟨hi3, hi4⟩ := hlt
      have hsame : FC Try.prog 14 [.agg (Zbd (s.stack.getD i default)), .agg (Zbd ((Zch m s).stack.getD i default))] (.bool true) := by
        rw [hbel i hi3 hi4]; exact c_FrSameEq _
      ((repeat' first | (refine Zap tok mix (by rfl) ?_; conv => whnf) | (refine @And.intro (Zaa _ _ _ _) _ ?_ ?_; rotate_left; (conv => whnf); rotate_right)); all_goals (try ((guard_target = Zaa _ _ _ _); refine Zae ?_; (all_goals (try simp only [Zaa, kzz, kz11, kz12, maxL, Zad] at *)); all_goals omega)))
      refine .inl ⟨_, _, _, uG (QC.fc hsame rfl), ?_⟩
      conv => whnf
      (repeat' first | refine Zac ?_ | (refine Zab tok (by rfl) ?_; conv => whnf) | (refine Zag ?_; conv => whnf) | (refine Zaj ?_; conv => whnf) | refine Zaf rfl (fun hb => ?_) (fun hb => ?_))
      · exfalso; cases hb
      clear hb
      refine ⟨i + 1, by omega, by omega, ?_⟩
      refine Weak.list [((3, 0, 0), .old (3, 0, 0), Za6 (Zbf m)), ((7, 0, 0), .old (7, 0, 0), .row true 21 1 (fun _ => Zbx s)), ((9, 0, 0), .old (9, 0, 0), Za6 (Zbd (topF s))), ((10, 0, 0), .old (10, 0, 0), Za6 (Zbl (Zas m (topF s)))), ((11, 0, 0), .old (11, 0, 0), .row true 21 1 (fun _ => Zbx (Zch m s)))] rfl (by rfl) ?_ (.old rfl (BLe.refl _) (.old rfl (BLe.refl _) (.old rfl (BLe.refl _) (.old rfl (BLe.refl _) (.old rfl (BLe.refl _) .nil)))))
      ((repeat' first | exact TLes.nil | refine TLes.cons (TLe.eq rfl) ?_ | refine TLes.cons (TLe.int ?_) ?_); (all_goals first | ((try (simp only [Zaa, kzz, kz11, kz12, maxL, Zad] at *)); exact Zal (by omega) (by omega)) | skip))
    clear hb
    (repeat' ((fail_if_success (show AWp _ _ _ (Code.region 19 _ _) _ _)); (fail_if_success (show AWp _ _ _ (Code.region 20 _ _) _ _)); first | refine Zac ?_ | (refine Zab tok (by rfl) ?_; conv => whnf) | (refine Zag ?_; conv => whnf) | refine Zaf rfl (fun hb => ?_) (fun hb => ?_)))
    · have hno : ¬ (endB m (topF s) = true ∧ ((Zas m (topF s)).fin.kind = 5 ∨ (Zas m (topF s)).fin.kind = 6)) := fun ⟨h1, h2⟩ => by
        have h1' : (topF s).at_ = (Zas m (topF s)).ins.length := by unfold endB at h1; simpa using h1
        rw [decide_eq_false (show ¬ (topF s).at_ < (Zas m (topF s)).ins.length by omega)] at hb
        rcases h2 with h2 | h2 <;> rw [h2] at hb <;> cases hb
      have hn2 := hnt hno
      (repeat' first | (refine Zab tok (by rfl) ?_; conv => whnf) | (refine Zaj ?_; conv => whnf))
      refine ⟨_, rfl, Rel.bool ?_⟩
      rw [decide_eq_false hn2]; rfl
    have hyes : endB m (topF s) = true ∧ ((Zas m (topF s)).fin.kind = 5 ∨ (Zas m (topF s)).fin.kind = 6) := by
      by_cases e1 : (topF s).at_ < (Zas m (topF s)).ins.length
      · rw [decide_eq_true e1] at hb; cases hb
      · rw [decide_eq_false e1] at hb
        by_cases e5 : (Zas m (topF s)).fin.kind = 5
        · exact ⟨decide_eq_true (by omega), .inl e5⟩
        · by_cases e6 : (Zas m (topF s)).fin.kind = 6
          · exact ⟨decide_eq_true (by omega), .inr e6⟩
          · rw [decide_eq_false e5, decide_eq_false e6] at hb; cases hb
    clear hb
    obtain ⟨hen, hk56⟩ := hyes
    (repeat' ((fail_if_success (show AWp _ _ _ (Code.region 22 _ _) _ _)); (fail_if_success (show AWp _ _ _ (Code.region 23 _ _) _ _)); first | refine Zac ?_ | (refine Zab tok (by rfl) ?_; conv => whnf) | (refine Zag ?_; conv => whnf) | refine Zaf rfl (fun hb => ?_) (fun hb => ?_)))
    · have h5 : (Zas m (topF s)).fin.kind = 5 := by simpa using hb
      clear hb
      have hin : inn (Zas m (topF s)).fin.a (Zdk m (topF s)).regs = true := by
        rcases hEnd with h | h | h | h | h <;> first | omega | exact h.2.1
      have hin2 := (Zad _ _).1 hin
      have hin3 : (Zas m (topF s)).fin.a < (topF s).regs.length := by omega
      have hst5 : Zch m s = Zbc m s ((topF s).regs.getD (Zas m (topF s)).fin.a.toNat 0) := by
        rw [show Zch m s = stepE m s (topF s) (Zas m (topF s)) from if_pos hd]
        unfold stepE
        rw [hen, if_neg (by decide), if_neg (by omega), if_neg (by omega), if_pos h5]; rfl
      ((repeat' ((fail_if_success (show AWp _ _ _ (Code.region 23 _ _) _ _)); first | refine Zac ?_ | (refine Zab tok (by rfl) ?_; conv => whnf) | (refine @And.intro (Zaa _ _ _ _) _ ?_ ?_; rotate_left; (conv => whnf); rotate_right))); all_goals (try ((guard_target = Zaa _ _ _ _); refine Zae ?_; (all_goals (try simp only [Zaa, kzz, kz11, kz12, maxL, Zad] at *)); all_goals omega)))
      have hspec := thrown_spec hr hS.ok hd ((topF s).regs.getD (Zas m (topF s)).fin.a.toNat 0)
      rw [← hst5] at hspec
      generalize hte : Zch m s = t at hspec
      rcases hspec with ⟨k1, k2, k3⟩ | ⟨k1, k2, k3, k4, k5, k6, k7⟩
      · (repeat' ((fail_if_success (show AWp _ _ _ (Code.region 24 _ _) _ _)); (fail_if_success (show AWp _ _ _ (Code.region 25 _ _) _ _)); first | refine Zac ?_ | (refine Zab tok (by rfl) ?_; conv => whnf) | (refine Zag ?_; conv => whnf) | refine Zaf rfl (fun hb => ?_) (fun hb => ?_)))
        · (repeat' first | (refine Zab tok (by rfl) ?_; conv => whnf) | (refine Zaj ?_; conv => whnf))
          refine ⟨_, rfl, Rel.bool ?_⟩
          rw [k2, k3, Zal (by omega) (by omega)]
          rw [decide_eq_true (show (((s.stack.length - 1 : Nat) : Int)) = (s.stack.length : Int) - 1 by omega)]
          simp
        · exfalso; rw [k1] at hb; cases hb
      · (repeat' ((fail_if_success (show AWp _ _ _ (Code.region 24 _ _) _ _)); (fail_if_success (show AWp _ _ _ (Code.region 25 _ _) _ _)); first | refine Zac ?_ | (refine Zab tok (by rfl) ?_; conv => whnf) | (refine Zag ?_; conv => whnf) | refine Zaf rfl (fun hb => ?_) (fun hb => ?_)))
        · exfalso; rw [k1] at hb; cases hb
        clear hb
        have hidx2 : IntKind.i64.wrap ((t.stack.length : Int) - 1) = ((t.stack.length - 1 : Nat) : Int) := by rw [Zal (by omega) (by omega)]; omega
        have hFt := k7.fr _ (top_mem k2)
        have htt : t.stack.getD (IntKind.i64.wrap ((t.stack.length : Int) - 1)).toNat default = topF t := by rw [hidx2]; rfl
        have g0 : 0 ≤ (t.stack.getD (IntKind.i64.wrap ((t.stack.length : Int) - 1)).toNat default).f := by rw [htt]; exact hFt.f0
        have g1 : (t.stack.getD (IntKind.i64.wrap ((t.stack.length : Int) - 1)).toNat default).f < m.funcs.length := by rw [htt]; exact hFt.f1
        have g2 : 0 ≤ (t.stack.getD (IntKind.i64.wrap ((t.stack.length : Int) - 1)).toNat default).block := by rw [htt]; exact hFt.b0
        have g3 : (t.stack.getD (IntKind.i64.wrap ((t.stack.length : Int) - 1)).toNat default).block < (m.funcs.getD (t.stack.getD (IntKind.i64.wrap ((t.stack.length : Int) - 1)).toNat default).f.toNat default).blocks.length := by rw [htt]; exact hFt.b1
        have htt' : t.stack.getD ((t.stack.length : Int) - 1).toNat default = topF t := by rw [show ((t.stack.length : Int) - 1).toNat = t.stack.length - 1 by omega]; rfl
        have g0' : 0 ≤ (t.stack.getD ((t.stack.length : Int) - 1).toNat default).f := by rw [htt']; exact hFt.f0
        have g1' : (t.stack.getD ((t.stack.length : Int) - 1).toNat default).f < m.funcs.length := by rw [htt']; exact hFt.f1
        have g2' : 0 ≤ (t.stack.getD ((t.stack.length : Int) - 1).toNat default).block := by rw [htt']; exact hFt.b0
        have g3' : (t.stack.getD ((t.stack.length : Int) - 1).toNat default).block < (m.funcs.getD (t.stack.getD ((t.stack.length : Int) - 1).toNat default).f.toNat default).blocks.length := by rw [htt']; exact hFt.b1
        ((repeat' first | refine Zac ?_ | (refine Zab tok (by rfl) ?_; conv => whnf) | (refine Zap tok mix (by rfl) ?_; conv => whnf) | (refine Zaj ?_; conv => whnf) | (refine @And.intro (Zaa _ _ _ _) _ ?_ ?_; rotate_left; (conv => whnf); rotate_right)); all_goals (try ((guard_target = Zaa _ _ _ _); ((refine Za7 ?_; intro hgd; (conv at hgd => whnf); (try simp (disch := omega) only [Zal] at hgd))); (all_goals (try simp only [Zaa, kzz, kz11, kz12, maxL, Zad] at *)); (all_goals (try (simp (disch := omega) only [Zal]))); all_goals omega)))
        refine ⟨_, rfl, Rel.bool ?_⟩
        rw [htt, k1, k4, k5]
        have k6' : ((m.funcs.getD (topF t).f.toNat default).blocks.getD (topF t).block.toNat default).landing = true := k6
        rw [k6', Zal (x := (t.stack.length : Int) - 1) (by omega) (by omega), Zal (x := (s.stack.length : Int) - 1) (by omega) (by omega)]
        rw [decide_eq_true (show (0 : Int) ≤ (t.stack.length : Int) - 1 by omega), decide_eq_true (show (t.stack.length : Int) - 1 < (s.stack.length : Int) - 1 by omega)]
        simp
    · have h6 : (Zas m (topF s)).fin.kind = 6 := by
        have h5 : ¬ (Zas m (topF s)).fin.kind = 5 := by simpa using hb
        rcases hk56 with h | h
        · exact absurd h h5
        · exact h
      clear hb
      have hst5 : Zch m s = Zbc m s (topF s).fly := by
        rw [show Zch m s = stepE m s (topF s) (Zas m (topF s)) from if_pos hd]
        unfold stepE
        rw [hen, if_neg (by decide), if_neg (by omega), if_neg (by omega), if_neg (by omega), if_pos h6]
      have hspec := thrown_spec hr hS.ok hd ((topF s).fly)
      rw [← hst5] at hspec
      generalize hte : Zch m s = t at hspec
      rcases hspec with ⟨k1, k2, k3⟩ | ⟨k1, k2, k3, k4, k5, k6, k7⟩
      · (repeat' ((fail_if_success (show AWp _ _ _ (Code.region 24 _ _) _ _)); (fail_if_success (show AWp _ _ _ (Code.region 25 _ _) _ _)); first | refine Zac ?_ | (refine Zab tok (by rfl) ?_; conv => whnf) | (refine Zag ?_; conv => whnf) | refine Zaf rfl (fun hb => ?_) (fun hb => ?_)))
        · (repeat' first | (refine Zab tok (by rfl) ?_; conv => whnf) | (refine Zaj ?_; conv => whnf))
          refine ⟨_, rfl, Rel.bool ?_⟩
          rw [k2, k3, Zal (by omega) (by omega)]
          rw [decide_eq_true (show (((s.stack.length - 1 : Nat) : Int)) = (s.stack.length : Int) - 1 by omega)]
          simp
        · exfalso; rw [k1] at hb; cases hb
      · (repeat' ((fail_if_success (show AWp _ _ _ (Code.region 24 _ _) _ _)); (fail_if_success (show AWp _ _ _ (Code.region 25 _ _) _ _)); first | refine Zac ?_ | (refine Zab tok (by rfl) ?_; conv => whnf) | (refine Zag ?_; conv => whnf) | refine Zaf rfl (fun hb => ?_) (fun hb => ?_)))
        · exfalso; rw [k1] at hb; cases hb
        clear hb
        have hidx2 : IntKind.i64.wrap ((t.stack.length : Int) - 1) = ((t.stack.length - 1 : Nat) : Int) := by rw [Zal (by omega) (by omega)]; omega
        have hFt := k7.fr _ (top_mem k2)
        have htt : t.stack.getD (IntKind.i64.wrap ((t.stack.length : Int) - 1)).toNat default = topF t := by rw [hidx2]; rfl
        have g0 : 0 ≤ (t.stack.getD (IntKind.i64.wrap ((t.stack.length : Int) - 1)).toNat default).f := by rw [htt]; exact hFt.f0
        have g1 : (t.stack.getD (IntKind.i64.wrap ((t.stack.length : Int) - 1)).toNat default).f < m.funcs.length := by rw [htt]; exact hFt.f1
        have g2 : 0 ≤ (t.stack.getD (IntKind.i64.wrap ((t.stack.length : Int) - 1)).toNat default).block := by rw [htt]; exact hFt.b0
        have g3 : (t.stack.getD (IntKind.i64.wrap ((t.stack.length : Int) - 1)).toNat default).block < (m.funcs.getD (t.stack.getD (IntKind.i64.wrap ((t.stack.length : Int) - 1)).toNat default).f.toNat default).blocks.length := by rw [htt]; exact hFt.b1
        have htt' : t.stack.getD ((t.stack.length : Int) - 1).toNat default = topF t := by rw [show ((t.stack.length : Int) - 1).toNat = t.stack.length - 1 by omega]; rfl
        have g0' : 0 ≤ (t.stack.getD ((t.stack.length : Int) - 1).toNat default).f := by rw [htt']; exact hFt.f0
        have g1' : (t.stack.getD ((t.stack.length : Int) - 1).toNat default).f < m.funcs.length := by rw [htt']; exact hFt.f1
        have g2' : 0 ≤ (t.stack.getD ((t.stack.length : Int) - 1).toNat default).block := by rw [htt']; exact hFt.b0
        have g3' : (t.stack.getD ((t.stack.length : Int) - 1).toNat default).block < (m.funcs.getD (t.stack.getD ((t.stack.length : Int) - 1).toNat default).f.toNat default).blocks.length := by rw [htt']; exact hFt.b1
        ((repeat' first | refine Zac ?_ | (refine Zab tok (by rfl) ?_; conv => whnf) | (refine Zap tok mix (by rfl) ?_; conv => whnf) | (refine Zaj ?_; conv => whnf) | (refine @And.intro (Zaa _ _ _ _) _ ?_ ?_; rotate_left; (conv => whnf); rotate_right)); all_goals (try ((guard_target = Zaa _ _ _ _); ((refine Za7 ?_; intro hgd; (conv at hgd => whnf); (try simp (disch := omega) only [Zal] at hgd))); (all_goals (try simp only [Zaa, kzz, kz11, kz12, maxL, Zad] at *)); (all_goals (try (simp (disch := omega) only [Zal]))); all_goals omega)))
        refine ⟨_, rfl, Rel.bool ?_⟩
        rw [htt, k1, k4, k5]
        have k6' : ((m.funcs.getD (topF t).f.toNat default).blocks.getD (topF t).block.toNat default).landing = true := k6
        rw [k6', Zal (x := (t.stack.length : Int) - 1) (by omega) (by omega), Zal (x := (s.stack.length : Int) - 1) (by omega) (by omega)]
        rw [decide_eq_true (show (0 : Int) ≤ (t.stack.length : Int) - 1 by omega), decide_eq_true (show (t.stack.length : Int) - 1 < (s.stack.length : Int) - 1 by omega)]
        simp
end Go.Proofs.Ytoelbgjpmpoolaa
namespace Go.Proofs.Ytoelbgjpmpoolaa
open Go Dv Go.ChangeShapes Go.WideShapes Go.ChangeAt Go.RowKit
open Go.Proofs.Ytoelbgjpmpoolaa
set_option maxRecDepth 100000
set_option linter.unusedVariables false
namespace machThrown
theorem own : ownKnob Try.prog.godebug = none := by kernel_rfl
theorem contract (H : Type) (enc : TypeId × Value → H) (W : World) (base : Nat) (args : Array Value) (ds gs : List (DataW H)) (before : List MemPlace) (hk : Rows.uptoSmall H (ds ++ gs) = true)
    (hval : ∀ (j : Nat) t v, Try.f5.params[j]? = some t → args[j]? = some v → Value.okWide Try.prog W .any base t v)
    (hW : DataW.Whole enc Try.prog Try.f5.params.toList Rows.machThrownSpec.vars false W args.toList ds gs before) :
    Calls Try.prog 5 args W fun e W' => ∃ v, e = .returned v ∧ Rows.machThrownSpec.post enc Try.prog Try.f5 false true false false W args v W' := by
  have hsm := small_of hk
  have hW' := hW
  obtain ⟨p, q, hA0, hV, rfl, hfz, hnd⟩ := hW
  have hA : DataW.TrodAll enc Try.prog W 0 (fun _ => true) true Try.f5.params.toList args.toList ds p := hA0
  rw [Try.params5] at hA hval
  obtain ⟨v0, vs0, d0, ds0, p0, q0, hargs, rfl, rfl, h0, r0⟩ := trodAll_cons hA
  obtain ⟨v1, vs1, d1, ds1, p1, q1, rfl, rfl, rfl, h1, r1⟩ := trodAll_cons r0
  obtain ⟨v2, vs2, d2, ds2, p2, q2, rfl, rfl, rfl, h2, r2⟩ := trodAll_cons r1
  obtain ⟨rfl, rfl, rfl⟩ := trodAll_nil r2
  obtain rfl : args = #[v0, v1, v2] := by cases args; simp_all
  obtain ⟨x0, hx0⟩ := arg_struct Try.underlying24 (hval 0 _ v0 rfl rfl) h0 rd_Module (hsm d0 (by simp))
  obtain ⟨x1, hx1⟩ := arg_slice Try.underlying25 (hval 1 _ v1 rfl rfl) h1 rd_u16s (hsm d1 (by simp))
  obtain ⟨x2, hx2⟩ := arg_int Try.underlying5 (hval 2 _ v2 rfl rfl) h2
  have hb2 := hx2
  simp only [V] at hb2
  obtain ⟨rfl, rfl⟩ := trodVars_none hV
  refine law_contract (tb := 4) (by decide +kernel) (by rw [Try.params5]; decide +kernel) rfl (by kernel_rfl) Try.underlying4 hW' ⟨rfl, rfl, rfl⟩ (FC.calls (c_MachThrown x0 x1 x2) ?_)
  simp only [Vs]
  exact ⟨_, _, rfl, hx0, _, _, rfl, hx1, _, _, rfl, hx2, rfl⟩
theorem lifted (os : Os) (started : os.Started) (H : Type) (enc : TypeId × Value → H) (F : Stop.Interp) :
    ReturnsInHanded {} Try.checked os 5 .any ((Rows.OpenSpec.upto Rows.machThrownSpec).pre6 enc Try.prog Try.f5 Rows.machThrownUptoRow.domain false) (((Rows.OpenSpec.upto Rows.machThrownSpec).at F).post enc Try.prog Try.f5 false true false false) := by
  refine returnsInHanded_of_cond (C := Try.checked) (s := Rows.OpenSpec.upto Rows.machThrownSpec) (k := Rows.uptoSmall) rfl own started (by kernel_rfl) Try.func5
    (OpenSpec.witness (enc := enc) (C := Try.checked) (s := Rows.OpenSpec.upto Rows.machThrownSpec) (k := Rows.uptoSmall) rfl false ⟨#[], #[.agg #[.slice none 0 0], .slice none 0 0, .int .u8 0], []⟩ 64 (by kernel_rfl) (by kernel_rfl) (by kernel_rfl)
      (x := ([.agg [.nil], .nil, .lit (.int .u8 0)], [], [])) (by kernel_rfl) rfl (by kernel_rfl)) ?_
  intro W base args ds gs before hval hW _ hk _
  exact contract H enc W base args ds gs before hk hval hW
theorem over : Rows.machThrownUptoRow.holds Try.pinned (Rows.OpenSpec.upto Rows.machThrownSpec) :=
  OpenClaim.holds_of_cond 5 Try.f5 rfl rfl rfl rfl rfl rfl rfl ⟨rfl, rfl, rfl, rfl, rfl⟩ rfl rfl rfl rfl rfl (by kernel_rfl) Try.func5 (by kernel_rfl)
    (of_decide_eq_true (by kernel_rfl)) (by unfold Func.isWrapper; first | (rw [if_pos (by decide +kernel)]; kernel_rfl) | (rw [if_neg (by decide +kernel)]; exact ⟨rfl, rfl⟩))
    (fun os started H enc _ F => lifted os started H enc F)
end machThrown
theorem machThrown_holds : Rows.MachThrownUptoSaid := machThrown.over
end Go.Proofs.Ytoelbgjpmpoolaa
