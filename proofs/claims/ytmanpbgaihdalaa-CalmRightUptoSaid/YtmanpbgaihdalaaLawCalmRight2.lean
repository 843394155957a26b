/- any module calmed is what the document says, and how many invokes it has; it stays as it is -/
import Derived.Test.YtmanpbgaihdalaaDvc3
import Derived.Test.YtmanpbgaihdalaaLawCalmRight1
import Derived.RangeFuncGives
import Derived.Maps.AppendAt
import Derived.Shelf.Abstract
import Derived.WalkKit
import Derived.OwnWalkIn
import Derived.TacticsInMore
import Derived.RegionIn
import Derived.LoopNIn
import Derived.LoopIn
import Derived.Test.YtmanpbgaihdalaaRows
import Derived.ProofKit
import Derived.OpenShut
import Derived.JoinedCond
set_option linter.unusedVariables false
set_option linter.unusedSimpArgs false
set_option linter.unnecessarySimpa false
namespace Go.Proofs.Ytmanpbgaihdalaa
open Go Dv
set_option maxRecDepth 10000
set_option linter.unusedSimpArgs false
theorem c_EqualI (l k : List Int) : FC Try.prog 180 [ints l, ints k] (.bool (decide (l = k))) := by
  refine FC_intro tok Try.func180 rfl (by decide +kernel) (Nat.le_of_ble_eq_true rfl) ?_
  refine AWp_facts 0 (fun hl => ?_)
  have hl0 : l.length ≤ maxL := hl.1
  (repeat' first | refine AWp_seq ?_ | (refine AWp_reg tok (by rfl) ?_; conv => whnf) | refine AWp_block ?_ | (refine AWp_skip ?_; conv => whnf) | (refine AWp_ret ?_; conv => whnf) | refine AWp_cond rfl (fun hb => ?_) (fun hb => ?_))
  · refine ⟨_, rfl, Rel.bool ?_⟩
    simp only [underG, kz1, kz2, kz3, kz4, kz5, kz6, kz7, kz8, kz9, kz10, kz11, kz12, kz13, kz14, kz15, kz16, kz17, kz18, kz19, kz20, maxL, inn_iff] at *
    symm; rw [decide_eq_false_iff_not]
    intro e; rw [e] at hb; exact hb rfl
  have hlen : l.length = k.length := by simp only [underG, kz1, kz2, kz3, kz4, kz5, kz6, kz7, kz8, kz9, kz10, kz11, kz12, kz13, kz14, kz15, kz16, kz17, kz18, kz19, kz20, maxL, inn_iff] at *; omega
  refine AWp_loop (fun i : Nat => mkS [(0, ints l), (1, ints k), (4, .bool false), (12, iv l.length), (13, iv i)] []) (fun i => i ≤ l.length ∧ ∀ j, j < i → l.getD j 0 = k.getD j 0) (fun i => l.length - i) 0 ⟨Nat.zero_le _, by simp⟩ ?_ ?_
  · refine Weak.list [] rfl (by rfl) ?_ .nil
    ((repeat' first | exact TLes.nil | refine TLes.cons (TLe.eq rfl) ?_); skip)
  rintro i ⟨hi, hc⟩
  ((repeat' first | refine AWp_seq ?_ | (refine AWp_reg tok (by rfl) ?_; conv => whnf) | (refine AWp_any tok mix (by rfl) ?_; conv => whnf) | refine AWp_block ?_ | (refine AWp_skip ?_; conv => whnf) | (refine AWp_exit ?_; conv => whnf) | (refine AWp_ret ?_; conv => whnf) | refine AWp_cond rfl (fun hb => ?_) (fun hb => ?_) | (refine @And.intro (underG _ _ _ _) _ ?_ ?_; rotate_left; (conv => whnf); rotate_right)); all_goals (try ((guard_target = underG _ _ _ _); refine underG_none ?_; (all_goals (try simp only [underG, kz1, kz2, kz3, kz4, kz5, kz6, kz7, kz8, kz9, kz10, kz11, kz12, kz13, kz14, kz15, kz16, kz17, kz18, kz19, kz20, maxL, inn_iff] at *)); all_goals omega)))
  all_goals simp only [underG, kz1, kz2, kz3, kz4, kz5, kz6, kz7, kz8, kz9, kz10, kz11, kz12, kz13, kz14, kz15, kz16, kz17, kz18, kz19, kz20, maxL, inn_iff] at *
  · refine ⟨_, rfl, Rel.bool ?_⟩
    symm; rw [decide_eq_false_iff_not]
    intro e; subst e; exact hb rfl
  · refine ⟨i + 1, ⟨by omega, fun j hj => ?_⟩, by omega, ?_⟩
    · by_cases e : j = i
      · subst e; exact hb
      · exact hc j (by omega)
    refine Weak.list [] rfl (by rfl) ?_ .nil
    ((repeat' first | exact TLes.nil | refine TLes.cons (TLe.eq rfl) ?_ | refine TLes.cons (TLe.int ?_) ?_); (all_goals first | (exact wrap64 (by omega) (by omega)) | skip))
  · refine ⟨_, rfl, Rel.bool ?_⟩
    symm; rw [decide_eq_true_eq]
    exact list_ext_getD 0 hlen (fun j hj => hc j (by omega))
theorem c_EqualU (l k : List Int) : FC Try.prog 174 [u16s l, u16s k] (.bool (decide (l = k))) := by
  refine FC_intro tok Try.func174 rfl (by decide +kernel) (Nat.le_of_ble_eq_true rfl) ?_
  refine AWp_facts 0 (fun hl => ?_)
  have hl0 : l.length ≤ maxL := hl.1
  (repeat' first | refine AWp_seq ?_ | (refine AWp_reg tok (by rfl) ?_; conv => whnf) | refine AWp_block ?_ | (refine AWp_skip ?_; conv => whnf) | (refine AWp_ret ?_; conv => whnf) | refine AWp_cond rfl (fun hb => ?_) (fun hb => ?_))
  · refine ⟨_, rfl, Rel.bool ?_⟩
    simp only [underG, kz1, kz2, kz3, kz4, kz5, kz6, kz7, kz8, kz9, kz10, kz11, kz12, kz13, kz14, kz15, kz16, kz17, kz18, kz19, kz20, maxL, inn_iff] at *
    symm; rw [decide_eq_false_iff_not]
    intro e; rw [e] at hb; exact hb rfl
  have hlen : l.length = k.length := by simp only [underG, kz1, kz2, kz3, kz4, kz5, kz6, kz7, kz8, kz9, kz10, kz11, kz12, kz13, kz14, kz15, kz16, kz17, kz18, kz19, kz20, maxL, inn_iff] at *; omega
  refine AWp_loop (fun i : Nat => mkS [(0, u16s l), (1, u16s k), (4, .bool false), (12, iv l.length), (13, iv i)] []) (fun i => i ≤ l.length ∧ ∀ j, j < i → l.getD j 0 = k.getD j 0) (fun i => l.length - i) 0 ⟨Nat.zero_le _, by simp⟩ ?_ ?_
  · refine Weak.list [] rfl (by rfl) ?_ .nil
    ((repeat' first | exact TLes.nil | refine TLes.cons (TLe.eq rfl) ?_); skip)
  rintro i ⟨hi, hc⟩
  ((repeat' first | refine AWp_seq ?_ | (refine AWp_reg tok (by rfl) ?_; conv => whnf) | (refine AWp_any tok mix (by rfl) ?_; conv => whnf) | refine AWp_block ?_ | (refine AWp_skip ?_; conv => whnf) | (refine AWp_exit ?_; conv => whnf) | (refine AWp_ret ?_; conv => whnf) | refine AWp_cond rfl (fun hb => ?_) (fun hb => ?_) | (refine @And.intro (underG _ _ _ _) _ ?_ ?_; rotate_left; (conv => whnf); rotate_right)); all_goals (try ((guard_target = underG _ _ _ _); refine underG_none ?_; (all_goals (try simp only [underG, kz1, kz2, kz3, kz4, kz5, kz6, kz7, kz8, kz9, kz10, kz11, kz12, kz13, kz14, kz15, kz16, kz17, kz18, kz19, kz20, maxL, inn_iff] at *)); all_goals omega)))
  all_goals simp only [underG, kz1, kz2, kz3, kz4, kz5, kz6, kz7, kz8, kz9, kz10, kz11, kz12, kz13, kz14, kz15, kz16, kz17, kz18, kz19, kz20, maxL, inn_iff] at *
  · refine ⟨_, rfl, Rel.bool ?_⟩
    symm; rw [decide_eq_false_iff_not]
    intro e; subst e; exact hb rfl
  · refine ⟨i + 1, ⟨by omega, fun j hj => ?_⟩, by omega, ?_⟩
    · by_cases e : j = i
      · subst e; exact hb
      · exact hc j (by omega)
    refine Weak.list [] rfl (by rfl) ?_ .nil
    ((repeat' first | exact TLes.nil | refine TLes.cons (TLe.eq rfl) ?_ | refine TLes.cons (TLe.int ?_) ?_); (all_goals first | (exact wrap64 (by omega) (by omega)) | skip))
  · refine ⟨_, rfl, Rel.bool ?_⟩
    symm; rw [decide_eq_true_eq]
    exact list_ext_getD 0 hlen (fun j hj => hc j (by omega))
theorem c_sameIns (x y : Ins) : FC Try.prog 173 [.agg (encIns x), .agg (encIns y)] (.bool (decide (x = y))) := by
  refine FC_intro tok Try.func173 rfl (by decide +kernel) (Nat.le_of_ble_eq_true rfl) ?_
  (repeat' first | refine AWp_seq ?_ | (refine AWp_reg tok (by rfl) ?_; conv => whnf))
  refine .inl ⟨_, _, _, uG (QC.fc (c_EqualI x.args y.args) rfl), ?_⟩
  conv => whnf
  (repeat' (refine AWp_ret ?_; conv => whnf))
  refine ⟨_, rfl, Rel.bool ?_⟩
  obtain ⟨a1, a2, a3, a4, a5, a6, a7⟩ := x
  obtain ⟨b1, b2, b3, b4, b5, b6, b7⟩ := y
  rw [Bool.eq_iff_iff]
  simp [and_assoc]
theorem c_sameEnd (x y : End) : FC Try.prog 172 [.agg (encEnd x), .agg (encEnd y)] (.bool (decide (x = y))) := by
  refine FC_intro tok Try.func172 rfl (by decide +kernel) (Nat.le_of_ble_eq_true rfl) ?_
  (repeat' first | refine AWp_seq ?_ | (refine AWp_reg tok (by rfl) ?_; conv => whnf))
  refine .inl ⟨_, _, _, uG (QC.fc (c_EqualI x.args y.args) rfl), ?_⟩
  conv => whnf
  (repeat' (refine AWp_ret ?_; conv => whnf))
  refine ⟨_, rfl, Rel.bool ?_⟩
  obtain ⟨a1, a2, a3, a4, a5, a6, a7, a8⟩ := x
  obtain ⟨b1, b2, b3, b4, b5, b6, b7, b8⟩ := y
  rw [Bool.eq_iff_iff]
  simp [and_assoc]
theorem c_samePad (x y : Pad) : FC Try.prog 164 [.agg (encPad x), .agg (encPad y)] (.bool (decide (x = y))) := by
  refine FC_intro tok Try.func164 rfl (by decide +kernel) (Nat.le_of_ble_eq_true rfl) ?_
  (repeat' first | refine AWp_seq ?_ | (refine AWp_reg tok (by rfl) ?_; conv => whnf))
  refine .inl ⟨_, _, _, uG (QC.fc (c_EqualU x.catch_ y.catch_) rfl), ?_⟩
  conv => whnf
  (repeat' (refine AWp_ret ?_; conv => whnf))
  refine ⟨_, rfl, Rel.bool ?_⟩
  obtain ⟨a1, a2, a3, a4⟩ := x
  obtain ⟨b1, b2, b3, b4⟩ := y
  rw [Bool.eq_iff_iff]
  simp [and_assoc]
end Go.Proofs.Ytmanpbgaihdalaa
namespace Go.Proofs.Ytmanpbgaihdalaa
open Go Dv
set_option maxRecDepth 10000
set_option linter.unusedSimpArgs false
theorem ins_eq (u x : Ins) : u = x ↔ x.op = u.op ∧ x.dst = u.dst ∧ x.a = u.a ∧ x.b = u.b ∧ x.k = u.k ∧ x.f = u.f ∧ x.args = u.args := by
  rw [eq_comm (a := u)]; cases u; cases x; simp
set_option maxHeartbeats 4000000 in
theorem c_lins (m : Module) (f : Func) (x : Ins) : FC Try.prog 159 [.agg (encL m f), .agg (encIns x)] (.bool (decide (InsP m f x))) := by
  refine FC_intro tok Try.func159 rfl (by decide +kernel) (Nat.le_of_ble_eq_true rfl) ?_
  (repeat' ((fail_if_success (show AWp _ _ _ (Code.region 3 _ _) _ _)); first | refine AWp_seq ?_ | (refine AWp_reg tok (by rfl) ?_; conv => whnf)))
  refine AWp_reg tok (by rfl) ?_
  conv => whnf
  refine AWp_meet (fun q : Ins × Bool => mkS [(2, .bp (2, 0, 0) 0), (3, .bp (3, 0, 0) 0), (4, .bool false), (5, .bp (5, 0, 0) 0), (6, .bool q.2)] [((2, 0, 0), boxed (encL m f)), ((3, 0, 0), boxed (encIns x)), ((5, 0, 0), .row true 7 1 (fun _ => encIns q.1))]) (fun q => (q.2 && decide (q.1 = x)) = decide (InsP m f x)) ?_ ?_
  · (repeat' first | refine AWp_seq ?_ | (refine AWp_reg tok (by rfl) ?_; conv => whnf) | (refine AWp_any tok mix (by rfl) ?_; conv => whnf) | refine AWp_block ?_ | (refine AWp_skip ?_; conv => whnf) | (refine AWp_ret ?_; conv => whnf) | refine AWp_cond rfl (fun hb => ?_) (fun hb => ?_))
    all_goals (try (exfalso; simp only [decide_eq_true_eq, decide_eq_false_iff_not] at *; omega))
    all_goals (repeat' first | (refine .inl ⟨_, _, _, uG (QC.fc (c_place m f x.dst) rfl), ?_⟩; conv => whnf) | (refine .inl ⟨_, _, _, uG (QC.fc (c_place m f x.a) rfl), ?_⟩; conv => whnf) | (refine .inl ⟨_, _, _, uG (QC.fc (c_place m f x.b) rfl), ?_⟩; conv => whnf) | (refine .inl ⟨_, _, _, uG (QC.fc (c_lcall m f x.f x.args) rfl), ?_⟩; conv => whnf))
    skip
    all_goals (have hop := hb; simp only [decide_eq_true_eq, decide_eq_false_iff_not] at hop)
    all_goals (try (first | (refine ⟨(⟨x.op, x.dst, 0, 0, x.k, 0, []⟩, inn x.dst f.regs), ?hp, Weak.list [((2, 0, 0), .old (2, 0, 0), boxed (encL m f)), ((3, 0, 0), .old (3, 0, 0), boxed (encIns x)), ((5, 0, 0), .old (5, 0, 0), .row true 7 1 (fun _ => encIns ⟨x.op, x.dst, 0, 0, x.k, 0, []⟩))] rfl (by rfl) (.cons (.eq rfl) (.cons (.eq rfl) (.cons (.eq rfl) (.cons (.eq rfl) (.cons (.eq rfl) .nil))))) (.old rfl (BLe.refl _) (.old rfl (BLe.refl _) (.old rfl (BLe.rowW (Nat.le_refl _) (fun z hz => ?row)) .nil)))⟩; (case row => (match z, hz with | 0, _ => (repeat' ((conv => arg 1; whnf); (conv => arg 2; whnf); first | refine Wks.cons .refl ?_ | refine Wks.cons (.nsl rfl) ?_ | exact Wks.nil)))); (case hp => (rw [Bool.eq_iff_iff]; simp [InsP, ins_eq, hop, and_assoc, and_comm, and_left_comm]; done))) | (refine ⟨(⟨x.op, x.dst, x.a, 0, 0, 0, []⟩, bif inn x.dst f.regs then inn x.a f.regs else false), ?hp, Weak.list [((2, 0, 0), .old (2, 0, 0), boxed (encL m f)), ((3, 0, 0), .old (3, 0, 0), boxed (encIns x)), ((5, 0, 0), .old (5, 0, 0), .row true 7 1 (fun _ => encIns ⟨x.op, x.dst, x.a, 0, 0, 0, []⟩))] rfl (by rfl) (.cons (.eq rfl) (.cons (.eq rfl) (.cons (.eq rfl) (.cons (.eq rfl) (.cons (.eq rfl) .nil))))) (.old rfl (BLe.refl _) (.old rfl (BLe.refl _) (.old rfl (BLe.rowW (Nat.le_refl _) (fun z hz => ?row)) .nil)))⟩; (case row => (match z, hz with | 0, _ => (repeat' ((conv => arg 1; whnf); (conv => arg 2; whnf); first | refine Wks.cons .refl ?_ | refine Wks.cons (.nsl rfl) ?_ | exact Wks.nil)))); (case hp => (rw [Bool.eq_iff_iff]; simp [InsP, ins_eq, hop, and_assoc, and_comm, and_left_comm]; done))) | (refine ⟨(⟨x.op, x.dst, x.a, x.b, 0, 0, []⟩, bif bif inn x.dst f.regs then inn x.a f.regs else false then inn x.b f.regs else false), ?hp, Weak.list [((2, 0, 0), .old (2, 0, 0), boxed (encL m f)), ((3, 0, 0), .old (3, 0, 0), boxed (encIns x)), ((5, 0, 0), .old (5, 0, 0), .row true 7 1 (fun _ => encIns ⟨x.op, x.dst, x.a, x.b, 0, 0, []⟩))] rfl (by rfl) (.cons (.eq rfl) (.cons (.eq rfl) (.cons (.eq rfl) (.cons (.eq rfl) (.cons (.eq rfl) .nil))))) (.old rfl (BLe.refl _) (.old rfl (BLe.refl _) (.old rfl (BLe.rowW (Nat.le_refl _) (fun z hz => ?row)) .nil)))⟩; (case row => (match z, hz with | 0, _ => (repeat' ((conv => arg 1; whnf); (conv => arg 2; whnf); first | refine Wks.cons .refl ?_ | refine Wks.cons (.nsl rfl) ?_ | exact Wks.nil)))); (case hp => (rw [Bool.eq_iff_iff]; simp [InsP, ins_eq, hop, and_assoc, and_comm, and_left_comm]; done))) | (refine ⟨(⟨x.op, 0, x.a, x.b, 0, 0, []⟩, bif inn x.a f.regs then inn x.b f.regs else false), ?hp, Weak.list [((2, 0, 0), .old (2, 0, 0), boxed (encL m f)), ((3, 0, 0), .old (3, 0, 0), boxed (encIns x)), ((5, 0, 0), .old (5, 0, 0), .row true 7 1 (fun _ => encIns ⟨x.op, 0, x.a, x.b, 0, 0, []⟩))] rfl (by rfl) (.cons (.eq rfl) (.cons (.eq rfl) (.cons (.eq rfl) (.cons (.eq rfl) (.cons (.eq rfl) .nil))))) (.old rfl (BLe.refl _) (.old rfl (BLe.refl _) (.old rfl (BLe.rowW (Nat.le_refl _) (fun z hz => ?row)) .nil)))⟩; (case row => (match z, hz with | 0, _ => (repeat' ((conv => arg 1; whnf); (conv => arg 2; whnf); first | refine Wks.cons .refl ?_ | refine Wks.cons (.nsl rfl) ?_ | exact Wks.nil)))); (case hp => (rw [Bool.eq_iff_iff]; simp [InsP, ins_eq, hop, and_assoc, and_comm, and_left_comm]; done))) | (refine ⟨(⟨x.op, x.dst, 0, 0, 0, x.f, x.args⟩, bif inn x.dst f.regs then argsB m f x.f x.args else false), ?hp, Weak.list [((2, 0, 0), .old (2, 0, 0), boxed (encL m f)), ((3, 0, 0), .old (3, 0, 0), boxed (encIns x)), ((5, 0, 0), .old (5, 0, 0), .row true 7 1 (fun _ => encIns ⟨x.op, x.dst, 0, 0, 0, x.f, x.args⟩))] rfl (by rfl) (.cons (.eq rfl) (.cons (.eq rfl) (.cons (.eq rfl) (.cons (.eq rfl) (.cons (.eq rfl) .nil))))) (.old rfl (BLe.refl _) (.old rfl (BLe.refl _) (.old rfl (BLe.rowW (Nat.le_refl _) (fun z hz => ?row)) .nil)))⟩; (case row => (match z, hz with | 0, _ => (repeat' ((conv => arg 1; whnf); (conv => arg 2; whnf); first | refine Wks.cons .refl ?_ | exact Wks.nil)))); (case hp => (rw [Bool.eq_iff_iff]; simp [InsP, ins_eq, hop, and_assoc, and_comm, and_left_comm]; done))) | (refine ⟨(⟨x.op, 0, x.a, 0, 0, 0, []⟩, inn x.a f.regs), ?hp, Weak.list [((2, 0, 0), .old (2, 0, 0), boxed (encL m f)), ((3, 0, 0), .old (3, 0, 0), boxed (encIns x)), ((5, 0, 0), .old (5, 0, 0), .row true 7 1 (fun _ => encIns ⟨x.op, 0, x.a, 0, 0, 0, []⟩))] rfl (by rfl) (.cons (.eq rfl) (.cons (.eq rfl) (.cons (.eq rfl) (.cons (.eq rfl) (.cons (.eq rfl) .nil))))) (.old rfl (BLe.refl _) (.old rfl (BLe.refl _) (.old rfl (BLe.rowW (Nat.le_refl _) (fun z hz => ?row)) .nil)))⟩; (case row => (match z, hz with | 0, _ => (repeat' ((conv => arg 1; whnf); (conv => arg 2; whnf); first | refine Wks.cons .refl ?_ | refine Wks.cons (.nsl rfl) ?_ | exact Wks.nil)))); (case hp => (rw [Bool.eq_iff_iff]; simp [InsP, ins_eq, hop, and_assoc, and_comm, and_left_comm]; done))) | (refine ⟨(⟨x.op, x.dst, 0, 0, 0, 0, []⟩, inn x.dst f.regs), ?hp, Weak.list [((2, 0, 0), .old (2, 0, 0), boxed (encL m f)), ((3, 0, 0), .old (3, 0, 0), boxed (encIns x)), ((5, 0, 0), .old (5, 0, 0), .row true 7 1 (fun _ => encIns ⟨x.op, x.dst, 0, 0, 0, 0, []⟩))] rfl (by rfl) (.cons (.eq rfl) (.cons (.eq rfl) (.cons (.eq rfl) (.cons (.eq rfl) (.cons (.eq rfl) .nil))))) (.old rfl (BLe.refl _) (.old rfl (BLe.refl _) (.old rfl (BLe.rowW (Nat.le_refl _) (fun z hz => ?row)) .nil)))⟩; (case row => (match z, hz with | 0, _ => (repeat' ((conv => arg 1; whnf); (conv => arg 2; whnf); first | refine Wks.cons .refl ?_ | refine Wks.cons (.nsl rfl) ?_ | exact Wks.nil)))); (case hp => (rw [Bool.eq_iff_iff]; simp [InsP, ins_eq, hop, and_assoc, and_comm, and_left_comm]; done)))))
    refine ⟨_, rfl, Rel.bool ?_⟩
    simp only [decide_eq_true_eq, decide_eq_false_iff_not] at *
    symm; rw [decide_eq_false_iff_not]
    rintro (h | h | h | h | h | h | h) <;> omega
  rintro q hq τ hτ
  refine AWp_weak hτ ?_
  conv => whnf
  (repeat' first | refine AWp_seq ?_ | (refine AWp_reg tok (by rfl) ?_; conv => whnf))
  refine .inl ⟨_, _, _, uG (QC.fc (c_sameIns q.1 x) rfl), ?_⟩
  conv => whnf
  (repeat' (refine AWp_ret ?_; conv => whnf))
  refine ⟨_, rfl, Rel.bool ?_⟩
  rw [← hq]
  cases q.2 <;> rfl
end Go.Proofs.Ytmanpbgaihdalaa
namespace Go.Proofs.Ytmanpbgaihdalaa
open Go Dv
set_option maxRecDepth 10000
set_option linter.unusedSimpArgs false
theorem end_eq (u x : End) : u = x ↔ x.kind = u.kind ∧ x.a = u.a ∧ x.dst = u.dst ∧ x.f = u.f ∧ x.args = u.args ∧ x.to = u.to ∧ x.els = u.els ∧ x.pad = u.pad := by
  rw [eq_comm (a := u)]; cases u; cases x; simp
set_option maxHeartbeats 4000000 in
theorem c_lend (m : Module) (f : Func) (x : End) : FC Try.prog 157 [.agg (encL m f), .agg (encEnd x)] (.bool (decide (EndP m f x))) := by
  refine FC_intro tok Try.func157 rfl (by decide +kernel) (Nat.le_of_ble_eq_true rfl) ?_
  (repeat' ((fail_if_success (show AWp _ _ _ (Code.region 3 _ _) _ _)); first | refine AWp_seq ?_ | (refine AWp_reg tok (by rfl) ?_; conv => whnf)))
  refine AWp_reg tok (by rfl) ?_
  conv => whnf
  refine AWp_meet (fun q : End × Bool => mkS [(2, .bp (2, 0, 0) 0), (3, .bp (3, 0, 0) 0), (4, .bool false), (5, .bp (5, 0, 0) 0), (6, .bool q.2)] [((2, 0, 0), boxed (encL m f)), ((3, 0, 0), boxed (encEnd x)), ((5, 0, 0), .row true 8 1 (fun _ => encEnd q.1))]) (fun q => (q.2 && decide (q.1 = x)) = decide (EndP m f x)) ?_ ?_
  · (repeat' first | refine AWp_seq ?_ | (refine AWp_reg tok (by rfl) ?_; conv => whnf) | (refine AWp_any tok mix (by rfl) ?_; conv => whnf) | refine AWp_block ?_ | (refine AWp_skip ?_; conv => whnf) | (refine AWp_ret ?_; conv => whnf) | refine AWp_cond rfl (fun hb => ?_) (fun hb => ?_))
    all_goals (try (exfalso; simp only [decide_eq_true_eq, decide_eq_false_iff_not] at *; omega))
    all_goals (repeat' first | (refine .inl ⟨_, _, _, uG (QC.fc (c_place m f x.dst) rfl), ?_⟩; conv => whnf) | (refine .inl ⟨_, _, _, uG (QC.fc (c_place m f x.a) rfl), ?_⟩; conv => whnf) | (refine .inl ⟨_, _, _, uG (QC.fc (c_lgoal m f x.to) rfl), ?_⟩; conv => whnf) | (refine .inl ⟨_, _, _, uG (QC.fc (c_lgoal m f x.els) rfl), ?_⟩; conv => whnf) | (refine .inl ⟨_, _, _, uG (QC.fc (c_landing m f x.pad) rfl), ?_⟩; conv => whnf) | (refine .inl ⟨_, _, _, uG (QC.fc (c_lcall m f x.f x.args) rfl), ?_⟩; conv => whnf))
    skip
    all_goals (have hop := hb; simp only [decide_eq_true_eq, decide_eq_false_iff_not] at hop)
    all_goals (try (first | (refine ⟨(⟨x.kind, x.a, 0, 0, [], 0, 0, 0⟩, inn x.a f.regs), ?hp, Weak.list [((2, 0, 0), .old (2, 0, 0), boxed (encL m f)), ((3, 0, 0), .old (3, 0, 0), boxed (encEnd x)), ((5, 0, 0), .old (5, 0, 0), .row true 8 1 (fun _ => encEnd ⟨x.kind, x.a, 0, 0, [], 0, 0, 0⟩))] rfl (by rfl) (.cons (.eq rfl) (.cons (.eq rfl) (.cons (.eq rfl) (.cons (.eq rfl) (.cons (.eq rfl) .nil))))) (.old rfl (BLe.refl _) (.old rfl (BLe.refl _) (.old rfl (BLe.rowW (Nat.le_refl _) (fun z hz => ?row)) .nil)))⟩; (case row => (match z, hz with | 0, _ => (repeat' ((conv => arg 1; whnf); (conv => arg 2; whnf); first | refine Wks.cons .refl ?_ | refine Wks.cons (.nsl rfl) ?_ | exact Wks.nil)))); (case hp => (rw [Bool.eq_iff_iff]; simp [EndP, end_eq, hop, landB, and_assoc, and_comm, and_left_comm]; done))) | (refine ⟨(⟨x.kind, 0, 0, 0, [], x.to, 0, 0⟩, goalB f x.to), ?hp, Weak.list [((2, 0, 0), .old (2, 0, 0), boxed (encL m f)), ((3, 0, 0), .old (3, 0, 0), boxed (encEnd x)), ((5, 0, 0), .old (5, 0, 0), .row true 8 1 (fun _ => encEnd ⟨x.kind, 0, 0, 0, [], x.to, 0, 0⟩))] rfl (by rfl) (.cons (.eq rfl) (.cons (.eq rfl) (.cons (.eq rfl) (.cons (.eq rfl) (.cons (.eq rfl) .nil))))) (.old rfl (BLe.refl _) (.old rfl (BLe.refl _) (.old rfl (BLe.rowW (Nat.le_refl _) (fun z hz => ?row)) .nil)))⟩; (case row => (match z, hz with | 0, _ => (repeat' ((conv => arg 1; whnf); (conv => arg 2; whnf); first | refine Wks.cons .refl ?_ | refine Wks.cons (.nsl rfl) ?_ | exact Wks.nil)))); (case hp => (rw [Bool.eq_iff_iff]; simp [EndP, end_eq, hop, landB, and_assoc, and_comm, and_left_comm]; done))) | (refine ⟨(⟨x.kind, x.a, 0, 0, [], x.to, x.els, 0⟩, bif bif inn x.a f.regs then goalB f x.to else false then goalB f x.els else false), ?hp, Weak.list [((2, 0, 0), .old (2, 0, 0), boxed (encL m f)), ((3, 0, 0), .old (3, 0, 0), boxed (encEnd x)), ((5, 0, 0), .old (5, 0, 0), .row true 8 1 (fun _ => encEnd ⟨x.kind, x.a, 0, 0, [], x.to, x.els, 0⟩))] rfl (by rfl) (.cons (.eq rfl) (.cons (.eq rfl) (.cons (.eq rfl) (.cons (.eq rfl) (.cons (.eq rfl) .nil))))) (.old rfl (BLe.refl _) (.old rfl (BLe.refl _) (.old rfl (BLe.rowW (Nat.le_refl _) (fun z hz => ?row)) .nil)))⟩; (case row => (match z, hz with | 0, _ => (repeat' ((conv => arg 1; whnf); (conv => arg 2; whnf); first | refine Wks.cons .refl ?_ | refine Wks.cons (.nsl rfl) ?_ | exact Wks.nil)))); (case hp => (rw [Bool.eq_iff_iff]; simp [EndP, end_eq, hop, landB, and_assoc, and_comm, and_left_comm]; done))) | (refine ⟨(⟨x.kind, 0, x.dst, x.f, x.args, x.to, 0, x.pad⟩, bif bif bif inn x.dst f.regs then argsB m f x.f x.args else false then goalB f x.to else false then landB f x.pad else false), ?hp, Weak.list [((2, 0, 0), .old (2, 0, 0), boxed (encL m f)), ((3, 0, 0), .old (3, 0, 0), boxed (encEnd x)), ((5, 0, 0), .old (5, 0, 0), .row true 8 1 (fun _ => encEnd ⟨x.kind, 0, x.dst, x.f, x.args, x.to, 0, x.pad⟩))] rfl (by rfl) (.cons (.eq rfl) (.cons (.eq rfl) (.cons (.eq rfl) (.cons (.eq rfl) (.cons (.eq rfl) .nil))))) (.old rfl (BLe.refl _) (.old rfl (BLe.refl _) (.old rfl (BLe.rowW (Nat.le_refl _) (fun z hz => ?row)) .nil)))⟩; (case row => (match z, hz with | 0, _ => (repeat' ((conv => arg 1; whnf); (conv => arg 2; whnf); first | refine Wks.cons .refl ?_ | exact Wks.nil)))); (case hp => (rw [Bool.eq_iff_iff]; simp [EndP, end_eq, hop, landB, and_assoc, and_comm, and_left_comm]; done))) | (refine ⟨(⟨x.kind, 0, 0, 0, [], 0, 0, 0⟩, true), ?hp, Weak.list [((2, 0, 0), .old (2, 0, 0), boxed (encL m f)), ((3, 0, 0), .old (3, 0, 0), boxed (encEnd x)), ((5, 0, 0), .old (5, 0, 0), .row true 8 1 (fun _ => encEnd ⟨x.kind, 0, 0, 0, [], 0, 0, 0⟩))] rfl (by rfl) (.cons (.eq rfl) (.cons (.eq rfl) (.cons (.eq rfl) (.cons (.eq rfl) (.cons (.eq rfl) .nil))))) (.old rfl (BLe.refl _) (.old rfl (BLe.refl _) (.old rfl (BLe.rowW (Nat.le_refl _) (fun z hz => ?row)) .nil)))⟩; (case row => (match z, hz with | 0, _ => (repeat' ((conv => arg 1; whnf); (conv => arg 2; whnf); first | refine Wks.cons .refl ?_ | refine Wks.cons (.nsl rfl) ?_ | exact Wks.nil)))); (case hp => (rw [Bool.eq_iff_iff]; simp [EndP, end_eq, hop, landB, and_assoc, and_comm, and_left_comm]; done)))))
    refine ⟨_, rfl, Rel.bool ?_⟩
    simp only [decide_eq_true_eq, decide_eq_false_iff_not] at *
    symm; rw [decide_eq_false_iff_not]
    rintro (h | h | h | h | h) <;> omega
  rintro q hq τ hτ
  refine AWp_weak hτ ?_
  conv => whnf
  (repeat' first | refine AWp_seq ?_ | (refine AWp_reg tok (by rfl) ?_; conv => whnf))
  refine .inl ⟨_, _, _, uG (QC.fc (c_sameEnd q.1 x) rfl), ?_⟩
  conv => whnf
  (repeat' (refine AWp_ret ?_; conv => whnf))
  refine ⟨_, rfl, Rel.bool ?_⟩
  rw [← hq]
  cases q.2 <;> rfl
end Go.Proofs.Ytmanpbgaihdalaa
namespace Go.Proofs.Ytmanpbgaihdalaa
open Go Dv
set_option maxRecDepth 10000
set_option linter.unusedSimpArgs false
theorem c_IdxInsM {g : FuncId} {cap : List AV} {p : Ins → Bool} (hi : immDs cap = true) (l : List Ins) (hg : ∀ i, i < l.length → FC Try.prog g (.agg (encIns (l.getD i default)) :: cap) (.bool (p (l.getD i default)))) : FC Try.prog 122 [inss l, .fn g cap] (iv (idxG p l)) := by
  refine FC_intro tok Try.func122 rfl (by decide +kernel) (Nat.le_of_ble_eq_true rfl) ?_
  refine AWp_facts 0 (fun hl => ?_)
  have hl0 : l.length ≤ maxL := hl.1
  (repeat' first | refine AWp_seq ?_ | (refine AWp_reg tok (by rfl) ?_; conv => whnf) | refine AWp_block ?_)
  refine AWp_loop (fun i : Nat => mkS [(0, inss l), (1, .fn g cap), (7, iv l.length), (8, iv i)] [])
    (fun i => i ≤ l.length ∧ ∀ j, j < i → p (l.getD j default) = false) (fun i => l.length - i) 0 ⟨Nat.zero_le _, by simp⟩ ?_ ?_
  · refine Weak.list [] rfl (by rfl) ?_ .nil
    ((repeat' first | exact TLes.nil | refine TLes.cons (TLe.eq rfl) ?_ | refine TLes.cons (TLe.fn (by assumption)) ?_); skip)
  rintro i ⟨hi2, hc⟩
  ((repeat' first | refine AWp_seq ?_ | (refine AWp_reg tok (by rfl) ?_; conv => whnf) | refine AWp_block ?_ | (refine AWp_skip ?_; conv => whnf) | (refine AWp_exit ?_; conv => whnf) | (refine AWp_ret ?_; conv => whnf) | (refine (forceL_eq _ _).mpr ?_; conv => whnf) | refine AWp_cond rfl (fun hb => ?_) (fun hb => ?_) | (refine @And.intro (underG _ _ _ _) _ ?_ ?_; rotate_left; (conv => whnf); rotate_right)); all_goals (try ((guard_target = underG _ _ _ _); refine underG_none ?_; (all_goals (try simp only [underG, kz1, kz2, kz3, kz4, kz5, kz6, kz7, kz8, kz9, kz10, kz11, kz12, kz13, kz14, kz15, kz16, kz17, kz18, kz19, kz20, maxL, inn_iff] at *)); all_goals omega)))
  · have hlt : i < l.length := by simp only [underG, kz1, kz2, kz3, kz4, kz5, kz6, kz7, kz8, kz9, kz10, kz11, kz12, kz13, kz14, kz15, kz16, kz17, kz18, kz19, kz20, maxL, inn_iff] at *; omega
    refine .inl ⟨_, _, _, uG (QC.fc (hg (i : Int).toNat hlt) (immDs_app (xs := [.agg (encIns (l.getD (i : Int).toNat default))]) rfl hi)), ?_⟩
    conv => whnf
    (repeat' first | refine AWp_seq ?_ | (refine AWp_reg tok (by rfl) ?_; conv => whnf) | (refine AWp_skip ?_; conv => whnf) | (refine AWp_ret ?_; conv => whnf) | refine AWp_cond rfl (fun hb => ?_) (fun hb => ?_))
    · refine ⟨_, rfl, Rel.int ?_⟩
      exact (idxG_at default hlt hc (by simpa using hb)).symm
    · refine ⟨i + 1, ⟨hlt, fun j hj => ?_⟩, by omega, ?_⟩
      · by_cases e : j = i
        · subst e; simpa using hb
        · exact hc j (by omega)
      refine Weak.list [] rfl (by rfl) ?_ .nil
      ((repeat' first | exact TLes.nil | refine TLes.cons (TLe.eq rfl) ?_ | refine TLes.cons (TLe.int ?_) ?_ | refine TLes.cons (TLe.fn (by assumption)) ?_); (all_goals first | ((try (simp only [underG, kz1, kz2, kz3, kz4, kz5, kz6, kz7, kz8, kz9, kz10, kz11, kz12, kz13, kz14, kz15, kz16, kz17, kz18, kz19, kz20, maxL, inn_iff] at *)); exact wrap64 (by omega) (by omega)) | skip))
  · refine ⟨_, rfl, Rel.int ?_⟩
    exact (idxG_none default (fun j hj => hc j (by simp only [underG, kz1, kz2, kz3, kz4, kz5, kz6, kz7, kz8, kz9, kz10, kz11, kz12, kz13, kz14, kz15, kz16, kz17, kz18, kz19, kz20, maxL, inn_iff] at *; omega))).symm
theorem c_HasInsM {g : FuncId} {cap : List AV} {p : Ins → Bool} (hi : immDs cap = true) (l : List Ins) (hg : ∀ i, i < l.length → FC Try.prog g (.agg (encIns (l.getD i default)) :: cap) (.bool (p (l.getD i default)))) : FC Try.prog 85 [inss l, .fn g cap] (.bool (l.any p)) := by
  refine FC_intro tok Try.func85 rfl (by decide +kernel) (Nat.le_of_ble_eq_true rfl) ?_
  (repeat' first | refine AWp_seq ?_ | (refine AWp_reg tok (by rfl) ?_; conv => whnf) | (refine (forceL_eq _ _).mpr ?_; conv => whnf))
  refine .inl ⟨_, _, _, uG (QC.fc (c_IdxInsM hi l hg) (show immDs [inss l, AV.fn g cap] = true from by simp [immDs, immD, inss, hi])), ?_⟩
  conv => whnf
  (repeat' (refine AWp_ret ?_; conv => whnf))
  refine ⟨_, rfl, Rel.bool ?_⟩
  rw [← idxG_any]
theorem c_IdxBlockM {g : FuncId} {cap : List AV} {p : Block → Bool} (hi : immDs cap = true) (l : List Block) (hg : ∀ i, i < l.length → FC Try.prog g (.agg (encBlock (l.getD i default)) :: cap) (.bool (p (l.getD i default)))) : FC Try.prog 137 [blockss l, .fn g cap] (iv (idxG p l)) := by
  refine FC_intro tok Try.func137 rfl (by decide +kernel) (Nat.le_of_ble_eq_true rfl) ?_
  refine AWp_facts 0 (fun hl => ?_)
  have hl0 : l.length ≤ maxL := hl.1
  (repeat' first | refine AWp_seq ?_ | (refine AWp_reg tok (by rfl) ?_; conv => whnf) | refine AWp_block ?_)
  refine AWp_loop (fun i : Nat => mkS [(0, blockss l), (1, .fn g cap), (7, iv l.length), (8, iv i)] [])
    (fun i => i ≤ l.length ∧ ∀ j, j < i → p (l.getD j default) = false) (fun i => l.length - i) 0 ⟨Nat.zero_le _, by simp⟩ ?_ ?_
  · refine Weak.list [] rfl (by rfl) ?_ .nil
    ((repeat' first | exact TLes.nil | refine TLes.cons (TLe.eq rfl) ?_ | refine TLes.cons (TLe.fn (by assumption)) ?_); skip)
  rintro i ⟨hi2, hc⟩
  ((repeat' first | refine AWp_seq ?_ | (refine AWp_reg tok (by rfl) ?_; conv => whnf) | refine AWp_block ?_ | (refine AWp_skip ?_; conv => whnf) | (refine AWp_exit ?_; conv => whnf) | (refine AWp_ret ?_; conv => whnf) | (refine (forceL_eq _ _).mpr ?_; conv => whnf) | refine AWp_cond rfl (fun hb => ?_) (fun hb => ?_) | (refine @And.intro (underG _ _ _ _) _ ?_ ?_; rotate_left; (conv => whnf); rotate_right)); all_goals (try ((guard_target = underG _ _ _ _); refine underG_none ?_; (all_goals (try simp only [underG, kz1, kz2, kz3, kz4, kz5, kz6, kz7, kz8, kz9, kz10, kz11, kz12, kz13, kz14, kz15, kz16, kz17, kz18, kz19, kz20, maxL, inn_iff] at *)); all_goals omega)))
  · have hlt : i < l.length := by simp only [underG, kz1, kz2, kz3, kz4, kz5, kz6, kz7, kz8, kz9, kz10, kz11, kz12, kz13, kz14, kz15, kz16, kz17, kz18, kz19, kz20, maxL, inn_iff] at *; omega
    refine .inl ⟨_, _, _, uG (QC.fc (hg (i : Int).toNat hlt) (immDs_app (xs := [.agg (encBlock (l.getD (i : Int).toNat default))]) rfl hi)), ?_⟩
    conv => whnf
    (repeat' first | refine AWp_seq ?_ | (refine AWp_reg tok (by rfl) ?_; conv => whnf) | (refine AWp_skip ?_; conv => whnf) | (refine AWp_ret ?_; conv => whnf) | refine AWp_cond rfl (fun hb => ?_) (fun hb => ?_))
    · refine ⟨_, rfl, Rel.int ?_⟩
      exact (idxG_at default hlt hc (by simpa using hb)).symm
    · refine ⟨i + 1, ⟨hlt, fun j hj => ?_⟩, by omega, ?_⟩
      · by_cases e : j = i
        · subst e; simpa using hb
        · exact hc j (by omega)
      refine Weak.list [] rfl (by rfl) ?_ .nil
      ((repeat' first | exact TLes.nil | refine TLes.cons (TLe.eq rfl) ?_ | refine TLes.cons (TLe.int ?_) ?_ | refine TLes.cons (TLe.fn (by assumption)) ?_); (all_goals first | ((try (simp only [underG, kz1, kz2, kz3, kz4, kz5, kz6, kz7, kz8, kz9, kz10, kz11, kz12, kz13, kz14, kz15, kz16, kz17, kz18, kz19, kz20, maxL, inn_iff] at *)); exact wrap64 (by omega) (by omega)) | skip))
  · refine ⟨_, rfl, Rel.int ?_⟩
    exact (idxG_none default (fun j hj => hc j (by simp only [underG, kz1, kz2, kz3, kz4, kz5, kz6, kz7, kz8, kz9, kz10, kz11, kz12, kz13, kz14, kz15, kz16, kz17, kz18, kz19, kz20, maxL, inn_iff] at *; omega))).symm
theorem c_HasBlockM {g : FuncId} {cap : List AV} {p : Block → Bool} (hi : immDs cap = true) (l : List Block) (hg : ∀ i, i < l.length → FC Try.prog g (.agg (encBlock (l.getD i default)) :: cap) (.bool (p (l.getD i default)))) : FC Try.prog 108 [blockss l, .fn g cap] (.bool (l.any p)) := by
  refine FC_intro tok Try.func108 rfl (by decide +kernel) (Nat.le_of_ble_eq_true rfl) ?_
  (repeat' first | refine AWp_seq ?_ | (refine AWp_reg tok (by rfl) ?_; conv => whnf) | (refine (forceL_eq _ _).mpr ?_; conv => whnf))
  refine .inl ⟨_, _, _, uG (QC.fc (c_IdxBlockM hi l hg) (show immDs [blockss l, AV.fn g cap] = true from by simp [immDs, immD, blockss, hi])), ?_⟩
  conv => whnf
  (repeat' (refine AWp_ret ?_; conv => whnf))
  refine ⟨_, rfl, Rel.bool ?_⟩
  rw [← idxG_any]
theorem c_IdxFuncM {g : FuncId} {cap : List AV} {p : Func → Bool} (hi : immDs cap = true) (l : List Func) (hg : ∀ i, i < l.length → FC Try.prog g (.agg (encFunc (l.getD i default)) :: cap) (.bool (p (l.getD i default)))) : FC Try.prog 128 [funcss l, .fn g cap] (iv (idxG p l)) := by
  refine FC_intro tok Try.func128 rfl (by decide +kernel) (Nat.le_of_ble_eq_true rfl) ?_
  refine AWp_facts 0 (fun hl => ?_)
  have hl0 : l.length ≤ maxL := hl.1
  (repeat' first | refine AWp_seq ?_ | (refine AWp_reg tok (by rfl) ?_; conv => whnf) | refine AWp_block ?_)
  refine AWp_loop (fun i : Nat => mkS [(0, funcss l), (1, .fn g cap), (7, iv l.length), (8, iv i)] [])
    (fun i => i ≤ l.length ∧ ∀ j, j < i → p (l.getD j default) = false) (fun i => l.length - i) 0 ⟨Nat.zero_le _, by simp⟩ ?_ ?_
  · refine Weak.list [] rfl (by rfl) ?_ .nil
    ((repeat' first | exact TLes.nil | refine TLes.cons (TLe.eq rfl) ?_ | refine TLes.cons (TLe.fn (by assumption)) ?_); skip)
  rintro i ⟨hi2, hc⟩
  ((repeat' first | refine AWp_seq ?_ | (refine AWp_reg tok (by rfl) ?_; conv => whnf) | refine AWp_block ?_ | (refine AWp_skip ?_; conv => whnf) | (refine AWp_exit ?_; conv => whnf) | (refine AWp_ret ?_; conv => whnf) | (refine (forceL_eq _ _).mpr ?_; conv => whnf) | refine AWp_cond rfl (fun hb => ?_) (fun hb => ?_) | (refine @And.intro (underG _ _ _ _) _ ?_ ?_; rotate_left; (conv => whnf); rotate_right)); all_goals (try ((guard_target = underG _ _ _ _); refine underG_none ?_; (all_goals (try simp only [underG, kz1, kz2, kz3, kz4, kz5, kz6, kz7, kz8, kz9, kz10, kz11, kz12, kz13, kz14, kz15, kz16, kz17, kz18, kz19, kz20, maxL, inn_iff] at *)); all_goals omega)))
  · have hlt : i < l.length := by simp only [underG, kz1, kz2, kz3, kz4, kz5, kz6, kz7, kz8, kz9, kz10, kz11, kz12, kz13, kz14, kz15, kz16, kz17, kz18, kz19, kz20, maxL, inn_iff] at *; omega
    refine .inl ⟨_, _, _, uG (QC.fc (hg (i : Int).toNat hlt) (immDs_app (xs := [.agg (encFunc (l.getD (i : Int).toNat default))]) rfl hi)), ?_⟩
    conv => whnf
    (repeat' first | refine AWp_seq ?_ | (refine AWp_reg tok (by rfl) ?_; conv => whnf) | (refine AWp_skip ?_; conv => whnf) | (refine AWp_ret ?_; conv => whnf) | refine AWp_cond rfl (fun hb => ?_) (fun hb => ?_))
    · refine ⟨_, rfl, Rel.int ?_⟩
      exact (idxG_at default hlt hc (by simpa using hb)).symm
    · refine ⟨i + 1, ⟨hlt, fun j hj => ?_⟩, by omega, ?_⟩
      · by_cases e : j = i
        · subst e; simpa using hb
        · exact hc j (by omega)
      refine Weak.list [] rfl (by rfl) ?_ .nil
      ((repeat' first | exact TLes.nil | refine TLes.cons (TLe.eq rfl) ?_ | refine TLes.cons (TLe.int ?_) ?_ | refine TLes.cons (TLe.fn (by assumption)) ?_); (all_goals first | ((try (simp only [underG, kz1, kz2, kz3, kz4, kz5, kz6, kz7, kz8, kz9, kz10, kz11, kz12, kz13, kz14, kz15, kz16, kz17, kz18, kz19, kz20, maxL, inn_iff] at *)); exact wrap64 (by omega) (by omega)) | skip))
  · refine ⟨_, rfl, Rel.int ?_⟩
    exact (idxG_none default (fun j hj => hc j (by simp only [underG, kz1, kz2, kz3, kz4, kz5, kz6, kz7, kz8, kz9, kz10, kz11, kz12, kz13, kz14, kz15, kz16, kz17, kz18, kz19, kz20, maxL, inn_iff] at *; omega))).symm
theorem c_HasFuncM {g : FuncId} {cap : List AV} {p : Func → Bool} (hi : immDs cap = true) (l : List Func) (hg : ∀ i, i < l.length → FC Try.prog g (.agg (encFunc (l.getD i default)) :: cap) (.bool (p (l.getD i default)))) : FC Try.prog 103 [funcss l, .fn g cap] (.bool (l.any p)) := by
  refine FC_intro tok Try.func103 rfl (by decide +kernel) (Nat.le_of_ble_eq_true rfl) ?_
  (repeat' first | refine AWp_seq ?_ | (refine AWp_reg tok (by rfl) ?_; conv => whnf) | (refine (forceL_eq _ _).mpr ?_; conv => whnf))
  refine .inl ⟨_, _, _, uG (QC.fc (c_IdxFuncM hi l hg) (show immDs [funcss l, AV.fn g cap] = true from by simp [immDs, immD, funcss, hi])), ?_⟩
  conv => whnf
  (repeat' (refine AWp_ret ?_; conv => whnf))
  refine ⟨_, rfl, Rel.bool ?_⟩
  rw [← idxG_any]
theorem c_HasIns {g : FuncId} {cap : List AV} {p : Ins → Bool} (hi : immDs cap = true) (hg : ∀ x, FC Try.prog g (.agg (encIns x) :: cap) (.bool (p x))) (l : List Ins) : FC Try.prog 85 [inss l, .fn g cap] (.bool (l.any p)) := c_HasInsM hi l (fun i _ => hg _)
theorem c_HasFunc {g : FuncId} {cap : List AV} {p : Func → Bool} (hi : immDs cap = true) (hg : ∀ x, FC Try.prog g (.agg (encFunc x) :: cap) (.bool (p x))) (l : List Func) : FC Try.prog 103 [funcss l, .fn g cap] (.bool (l.any p)) := c_HasFuncM hi l (fun i _ => hg _)
end Go.Proofs.Ytmanpbgaihdalaa
namespace Go.Proofs.Ytmanpbgaihdalaa
open Go Dv
set_option maxRecDepth 10000
set_option linter.unusedSimpArgs false
theorem c_lblk1 (m : Module) (f : Func) (x : Ins) : FC Try.prog 158 [.agg (encIns x), .ip (encL m f)] (.bool (!decide (InsP m f x))) := by
  refine FC_intro tok Try.func158 rfl (by decide +kernel) (Nat.le_of_ble_eq_true rfl) ?_
  (repeat' first | refine AWp_seq ?_ | (refine AWp_reg tok (by rfl) ?_; conv => whnf))
  refine .inl ⟨_, _, _, uG (QC.fc (c_lins m f x) rfl), ?_⟩
  conv => whnf
  (repeat' (refine AWp_ret ?_; conv => whnf))
  exact ⟨_, rfl, Rel.imm rfl⟩
def LPad : Prop := ∀ (m : Module) (f : Func) (b : Block), FC Try.prog 156 [.agg (encL m f), .agg (encBlock b)] (.bool (decide (PadP f b)))
theorem c_lblock (hpad : LPad) (m : Module) (f : Func) (n : Nat) (hn : n < f.blocks.length) : FC Try.prog 134 [.agg (encL m f), iv n] (.bool (blkB m f (f.blocks.getD n default))) := by
  refine FC_intro tok Try.func134 rfl (by decide +kernel) (Nat.le_of_ble_eq_true rfl) ?_
  ((repeat' ((fail_if_success (show AWp _ _ _ (Code.region 2 _ _) _ _)); first | refine AWp_seq ?_ | (refine AWp_reg tok (by rfl) ?_; conv => whnf) | (refine @And.intro (underG _ _ _ _) _ ?_ ?_; rotate_left; (conv => whnf); rotate_right))); all_goals (try ((guard_target = underG _ _ _ _); refine underG_none ?_; all_goals omega)))
  have hget : f.blocks.getD (n : Int).toNat default = f.blocks.getD n default := by simp
  generalize f.blocks.getD n default = b at hget ⊢
  refine AWp_weak (Weak.list (tl := [(2, .bp (2, 0, 0) 0), (4, .bool false), (5, .bp (5, 0, 0) 0)]) [((2, 0, 0), .old (2, 0, 0), boxed (encL m f)), ((5, 0, 0), .old (5, 0, 0), .row true 14 1 (fun _ => encBlock b))] rfl (by rfl) ?_ (.old rfl (BLe.refl _) (.old rfl (BLe.rowW (Nat.le_refl _) (fun z hz => ?_)) .nil))) ?_
  · ((repeat' first | exact TLes.nil | refine TLes.cons (TLe.eq rfl) ?_); skip)
  · match z, hz with
    | 0, _ => rw [← hget]; exact Wks.of rfl
  (repeat' (refine AWp_reg tok (by rfl) ?_; conv => whnf))
  refine .inl ⟨_, _, _, uG (QC.fc (hpad m f b) rfl), ?_⟩
  conv => whnf
  skip
  refine .inl ⟨_, _, _, uG (QC.fc (c_lend m f b.fin) rfl), ?_⟩
  conv => whnf
  skip
  have hh := c_HasIns (g := 158) (cap := [.ip (encL m f)]) (p := fun x => !decide (InsP m f x)) rfl (fun x => c_lblk1 m f x) b.ins
  refine .inl ⟨_, _, _, uG (QC.sc (rd := [(2, 0, 0)]) hh (.cons (.imm rfl) (.cons (.fn (.cons (.ip rfl (List.mem_singleton.2 rfl) (by decide) (Ress.imms rfl)) .nil)) .nil)) rfl), ?_⟩
  conv => whnf
  (repeat' (refine AWp_ret ?_; conv => whnf))
  refine ⟨_, rfl, Rel.bool ?_⟩
  unfold blkB
  rw [List.not_any_eq_all_not, Bool.eq_iff_iff]
  have hc : decide ((b.ins.length : Int) ≤ 64) = decide (b.ins.length ≤ 64) := by rw [decide_eq_decide]; omega
  rw [hc]
  simp [and_assoc]
end Go.Proofs.Ytmanpbgaihdalaa
namespace Go.Proofs.Ytmanpbgaihdalaa
open Go Dv
set_option maxRecDepth 10000
set_option linter.unusedSimpArgs false
theorem c_lFunc (hpad : LPad) (m : Module) (f : Func) : FC Try.prog 105 [.agg (encMod m), .agg (encFunc f)] (.bool (funcB m f)) := by
  refine FC_intro tok Try.func105 rfl (by decide +kernel) (Nat.le_of_ble_eq_true rfl) ?_
  refine AWp_facts 1 (fun hl => ?_)
  have hl0 : f.blocks.length ≤ maxL := hl.2.2.1.1
  ((repeat' first | refine AWp_seq ?_ | (refine AWp_reg tok (by rfl) ?_; conv => whnf) | refine AWp_block ?_ | (refine AWp_skip ?_; conv => whnf) | (refine AWp_ret ?_; conv => whnf) | refine AWp_cond rfl (fun hb => ?_) (fun hb => ?_) | (refine @And.intro (underG _ _ _ _) _ ?_ ?_; rotate_left; (conv => whnf); rotate_right)); all_goals (try ((guard_target = underG _ _ _ _); ((refine underG_some ?_; intro hgd; (conv at hgd => whnf))); (all_goals (try simp only [underG, kz1, kz2, kz3, kz4, kz5, kz6, kz7, kz8, kz9, kz10, kz11, kz12, kz13, kz14, kz15, kz16, kz17, kz18, kz19, kz20, maxL, inn_iff] at *)); all_goals omega)))
  · refine ⟨_, rfl, Rel.bool ?_⟩
    rw [show Int.toNat 0 = 0 from rfl] at hb
    unfold funcB
    have hF : decide (FunP f) = false := by
      rw [decide_eq_false_iff_not]; intro h; unfold FunP at h
      rw [h.2.2.2.2.2.2] at hb; simp [-List.length_eq_zero_iff] at hb; omega
    rw [hF]; rfl
  have hF : FunP f := by
    rw [show Int.toNat 0 = 0 from rfl] at hb
    unfold FunP
    cases hland : (f.blocks.getD 0 default).landing with
    | true => rw [hland] at hb; simp at hb
    | false => rw [hland] at hb; simp [-List.length_eq_zero_iff] at hb; refine ⟨?_, ?_, ?_, ?_, ?_, ?_, rfl⟩ <;> omega
  clear hb
  refine AWp_loop (fun i : Nat => mkS [(4, .bool false), (5, .bp (5, 0, 0) 0), (51, iv f.blocks.length), (52, iv i)] [((5, 0, 0), .row true 4 1 (fun _ => encL m f))])
    (fun i => i ≤ f.blocks.length ∧ ∀ j, j < i → blkB m f (f.blocks.getD j default) = true) (fun i => f.blocks.length - i) 0 ⟨Nat.zero_le _, by simp⟩ ?_ ?_
  · refine Weak.list [((5, 0, 0), .old (5, 0, 0), .row true 4 1 (fun _ => encL m f))] rfl (by rfl) ?_ (.old rfl (BLe.rowW (Nat.le_refl _) (fun z hz => ?_)) .nil)
    · ((repeat' first | exact TLes.nil | refine TLes.cons (TLe.eq rfl) ?_); skip)
    · match z, hz with
      | 0, _ => exact Wks.of rfl
  rintro i ⟨hi, hc⟩
  (repeat' first | refine AWp_seq ?_ | (refine AWp_reg tok (by rfl) ?_; conv => whnf) | refine AWp_block ?_ | (refine AWp_skip ?_; conv => whnf) | (refine AWp_exit ?_; conv => whnf) | (refine AWp_ret ?_; conv => whnf) | refine AWp_cond rfl (fun hb => ?_) (fun hb => ?_))
  · have hlt : i < f.blocks.length := by simp only [underG, kz1, kz2, kz3, kz4, kz5, kz6, kz7, kz8, kz9, kz10, kz11, kz12, kz13, kz14, kz15, kz16, kz17, kz18, kz19, kz20, maxL, inn_iff] at *; omega
    refine .inl ⟨_, _, _, uG (QC.fc (c_lblock hpad m f i hlt) rfl), ?_⟩
    conv => whnf
    (repeat' first | refine AWp_seq ?_ | (refine AWp_reg tok (by rfl) ?_; conv => whnf) | (refine AWp_skip ?_; conv => whnf) | (refine AWp_ret ?_; conv => whnf) | refine AWp_cond rfl (fun hb => ?_) (fun hb => ?_))
    · refine ⟨_, rfl, Rel.bool ?_⟩
      unfold funcB
      rw [all_no default hlt (p := blkB m f) (by simpa using hb)]
      simp
    · refine ⟨i + 1, ⟨hlt, fun j hj => ?_⟩, by omega, ?_⟩
      · by_cases e : j = i
        · subst e; simpa using hb
        · exact hc j (by omega)
      refine Weak.list [((5, 0, 0), .old (5, 0, 0), .row true 4 1 (fun _ => encL m f))] rfl (by rfl) ?_ (.old rfl (BLe.refl _) .nil)
      ((repeat' first | exact TLes.nil | refine TLes.cons (TLe.eq rfl) ?_ | refine TLes.cons (TLe.int ?_) ?_); (all_goals first | ((try (simp only [underG, kz1, kz2, kz3, kz4, kz5, kz6, kz7, kz8, kz9, kz10, kz11, kz12, kz13, kz14, kz15, kz16, kz17, kz18, kz19, kz20, maxL, inn_iff] at *)); exact wrap64 (by omega) (by omega)) | skip))
  · refine ⟨_, rfl, Rel.bool ?_⟩
    unfold funcB
    rw [decide_eq_true hF, all_yes default (fun j hj => hc j (by simp only [underG, kz1, kz2, kz3, kz4, kz5, kz6, kz7, kz8, kz9, kz10, kz11, kz12, kz13, kz14, kz15, kz16, kz17, kz18, kz19, kz20, maxL, inn_iff] at *; omega))]; rfl
theorem c_lRight1 (hpad : LPad) (m : Module) (f : Func) : FC Try.prog 104 [.agg (encFunc f), .ip (encMod m)] (.bool (!funcB m f)) := by
  refine FC_intro tok Try.func104 rfl (by decide +kernel) (Nat.le_of_ble_eq_true rfl) ?_
  (repeat' first | refine AWp_seq ?_ | (refine AWp_reg tok (by rfl) ?_; conv => whnf))
  refine .inl ⟨_, _, _, uG (QC.fc (c_lFunc hpad m f) rfl), ?_⟩
  conv => whnf
  (repeat' (refine AWp_ret ?_; conv => whnf))
  exact ⟨_, rfl, Rel.imm rfl⟩
theorem c_lRight (hpad : LPad) (m : Module) : FC Try.prog 62 [.agg (encMod m)] (.bool (rightB m)) := by
  refine FC_intro tok Try.func62 rfl (by decide +kernel) (Nat.le_of_ble_eq_true rfl) ?_
  refine AWp_facts 0 (fun hl => ?_)
  have hl0 : m.funcs.length ≤ maxL := hl.1.1
  ((repeat' first | refine AWp_seq ?_ | (refine AWp_reg tok (by rfl) ?_; conv => whnf) | (refine AWp_skip ?_; conv => whnf) | (refine AWp_ret ?_; conv => whnf) | refine AWp_cond rfl (fun hb => ?_) (fun hb => ?_) | (refine @And.intro (underG _ _ _ _) _ ?_ ?_; rotate_left; (conv => whnf); rotate_right)); all_goals (try ((guard_target = underG _ _ _ _); ((refine underG_some ?_; intro hgd; (conv at hgd => whnf))); (all_goals (try simp only [underG, kz1, kz2, kz3, kz4, kz5, kz6, kz7, kz8, kz9, kz10, kz11, kz12, kz13, kz14, kz15, kz16, kz17, kz18, kz19, kz20, maxL, inn_iff] at *)); all_goals omega)))
  · refine ⟨_, rfl, Rel.bool ?_⟩
    rw [show Int.toNat 0 = 0 from rfl] at hb
    unfold rightB
    rw [decide_eq_false]
    · rfl
    · rintro ⟨h1, h2, h3⟩
      rw [h3] at hb; simp [-List.length_eq_zero_iff] at hb; omega
  have hF : 1 ≤ m.funcs.length ∧ m.funcs.length ≤ 16 ∧ (m.funcs.getD 0 default).params = 0 := by
    rw [show Int.toNat 0 = 0 from rfl] at hb
    simp only [Bool.cond_true_left, Bool.or_eq_false_iff] at hb
    refine ⟨?_, ?_, by simpa using hb.2⟩ <;> simp only [underG, kz1, kz2, kz3, kz4, kz5, kz6, kz7, kz8, kz9, kz10, kz11, kz12, kz13, kz14, kz15, kz16, kz17, kz18, kz19, kz20, maxL, inn_iff] at * <;> omega
  clear hb
  refine .inl ⟨_, _, _, uG (QC.sc (rd := [(1, 0, 0)]) (c_HasFunc (g := 104) (cap := [.ip (encMod m)]) (p := fun f => !funcB m f) rfl (fun f => c_lRight1 hpad m f) m.funcs) (.cons (.imm rfl) (.cons (.fn (.cons (.ip rfl (List.mem_singleton.2 rfl) (by decide) (Ress.imms rfl)) .nil)) .nil)) rfl), ?_⟩
  conv => whnf
  (repeat' (refine AWp_ret ?_; conv => whnf))
  refine ⟨_, rfl, Rel.bool ?_⟩
  unfold rightB
  rw [List.not_any_eq_all_not, decide_eq_true hF]
  simp
end Go.Proofs.Ytmanpbgaihdalaa
namespace Go.Proofs.Ytmanpbgaihdalaa
open Go Dv Go.RowKit Go.Maps Go.Sort Go.Shelf
set_option linter.unusedSimpArgs false
@[go_sem, reducible] def encU (k : Int) : Value := .int .u16 k
def SeqU (F : Fence) (n : Nat) (g : Nat) (lb : Array Value) (S : List Int → Prop) (N : Nat) (w : World) : Prop :=
  ∀ (l : Nat) (J : List Int → World → Prop) (W : World), RowKit.Below w.heap.size w W → (∀ pre W', J pre W' → RowKit.Below w.heap.size w W') →
    (∀ pre x W', J pre W' → pre.length < N → YieldAt F (n - 1) Try.prog l #[encU x] W' fun e W2 => e = .returned (.bool true) ∧ J (pre ++ [x]) W2 ∧ KeepsWalks W' W2) → J [] W →
    CallsIn F n Try.prog g (#[.func (.yield l) #[] #[]] ++ lb) W fun e W' => (∃ v, e = .returned v) ∧ ∃ ss, S ss ∧ J ss W'
def Sq.apAssign : Code := (Code.region 2 #[{ dst := some 5, op := Op.assign (Operand.tmp 7), type := 55, pos := "iter.go:51", after := #[], guard := none }] false)
def Sq.apBody : Code := (Code.block 1 (Code.region 3 #[{ dst := some 8, op := Op.load 37 (Operand.tmp 2), type := 37, pos := "iter.go:52", after := #[], guard := none }, { dst := some 9, op := Op.move (Operand.tmp 5), type := 55, pos := "iter.go:52", after := #[], guard := none }, { dst := some 10, op := Op.buildSlice 37 1 #[(0, Operand.tmp 9)], type := 37, pos := "iter.go:52", after := #[{ on := 1, ground := Ground.data }], guard := none }, { dst := some 11, op := Op.call { callee := Callee.builtin Builtin.append, args := #[Operand.tmp 8, Operand.tmp 10], argTypes := #[37, 37] }, type := 37, pos := "iter.go:52", after := #[{ on := 0, ground := Ground.data }, { on := 2, ground := Ground.data }], guard := none }, { dst := none, op := Op.store 37 (Operand.tmp 2) (Operand.tmp 11), type := 0, pos := "iter.go:52", after := #[{ on := 3, ground := Ground.data }, { on := 3, ground := Ground.chain }, { on := 0, ground := Ground.phase }, { on := 1, ground := Ground.phase }, { on := 2, ground := Ground.phase }, { on := 3, ground := Ground.phase }], guard := none }] false))
def Sq.apRec (fn : FuncId) (sv : Value) (Bs D : Nat) (st : LoopState) (pend : Option Code) : Loop :=
  { state := st, pending := pend, fn, tmps := #[.slice none 0 0, sv, .pointer (some ⟨Bs, 0, none⟩), undef, .slice none 0 0, undef, sv, undef, undef, undef, undef, undef, undef], params := #[7], assign := Sq.apAssign, body := Sq.apBody, defers := D }
structure Sq.ApAt (w0 : World) (fn : FuncId) (sv : Value) (Bs l D : Nat) (ss : List Int) (W : World) : Prop where
  box : ∃ v, W.heap[Bs]? = some (.cells #[v] 37 (0, 0)) ∧ W.ownsRow w0.heap.size 55 1 v ss.length (ss.map encU) ∧ (v = .slice none 0 0 ↔ ss = [])
  L : W.heap[l]? = some (.loop (Sq.apRec fn sv Bs D .ready none))
  K : W.heap[D]? = some (.deferred (some []))
  below : Below w0.heap.size w0 W
theorem grownBy_putObj (W : World) (l : Nat) (o : Obj) : W.grownBy (W.putObj l o) (some l) :=
  ⟨rfl, rfl, rfl, by simp, fun k _ hk => World.putObj_heap_other (fun e => hk (by rw [e]))⟩
theorem grownBy_setCell0 (W : World) (b : Nat) (v : Value) : W.grownBy (W.setCell ⟨b, 0, none⟩ v) (some b) :=
  ⟨rfl, rfl, rfl, (KeepsWalks.setCell W _ v).size, fun k _ hk => Below.heap_setCell _ _ _ k (fun e => hk (by rw [e]))⟩
theorem ownsRow_ne {W : World} {base : Nat} {e : TypeId} {size : Nat} {v : Value} {k : Nat} {xs : List Value} (h : W.ownsRow base e size v k xs) {j : Nat} {o : Obj} (hj : W.heap[j]? = some o) (hno : ∀ cur, o ≠ .cells cur e (0, 0)) :
    v.ownBlock = none ∨ v.ownBlock ≠ some j := by
  rcases h.2 with ⟨rfl, _⟩ | ⟨g, cap, cur, rfl, _, hgb, _⟩
  · exact .inl rfl
  · refine .inr fun e' => ?_
    have : g = j := by simpa [Value.ownBlock] using e'
    subst this; rw [hgb] at hj; cases hj; exact hno cur rfl
theorem cell_of_box {W : World} {B : Nat} {v : Value} {t : TypeId} (h : W.heap[B]? = some (.cells #[v] t (0, 0))) : W.cell? ⟨B, 0, none⟩ = some v ∧ W.frozen? ⟨B, 0, none⟩ = false := by
  constructor <;> simp [World.cell?, World.frozen?, h]
theorem heap_setCell_box {W : World} {B : Nat} {v : Value} {t : TypeId} (v' : Value) (h : W.heap[B]? = some (.cells #[v] t (0, 0))) : (W.setCell ⟨B, 0, none⟩ v').heap[B]? = some (.cells #[v'] t (0, 0)) := by
  obtain ⟨hlt, hk⟩ := Array.getElem?_eq_some_iff.1 h
  show (W.heap.modify B _)[B]? = _
  rw [Array.getElem?_eq_getElem (by rw [Array.size_modify]; exact hlt), Array.getElem_modify_self, hk]
  rfl
theorem ownsRow_not_walk {W : World} {base : Nat} {e : TypeId} {size : Nat} {v : Value} {k : Nat} {xs : List Value} (h : W.ownsRow base e size v k xs) : ∀ (j : Nat) (o : Obj), v.ownBlock = some j → W.heap[j]? = some o → o.isWalk = false := by
  intro j o hj ho
  rcases h.2 with ⟨rfl, _⟩ | ⟨g, cap, cur, rfl, _, hgb, _⟩
  · simp [Value.ownBlock] at hj
  · have : g = j := by simpa [Value.ownBlock] using hj
    subst this; rw [hgb] at ho; cases ho; rfl
theorem Sq.info55 : (Try.prog.info? 55).map (fun i => (i.zero, i.size, i.bytes)) = some (some (.int .u16 0), 1, 2) := by kernel_rfl
set_option maxRecDepth 100000 in
set_option maxHeartbeats 2000000 in
theorem Sq.apYield (F : Fence) (m : Nat) (w0 : World) (fn : FuncId) (hfn : F.fn fn) (sv : Value) (Bs l D : Nat) (hBl : Bs ≠ l) (hDl : D ≠ l) (hDB : D ≠ Bs) (h0B : w0.heap.size ≤ Bs) (h0l : w0.heap.size ≤ l)
    (N : Nat) (hN : N ≤ maxLen) (hNb : N * 2 ≤ 140737488355328) (ss : List Int) (x : Int) (W : World) (h : Sq.ApAt w0 fn sv Bs l D ss W) (hlen : ss.length < N) :
    YieldAt F m Try.prog l #[encU x] W fun e W' => e = .returned (.bool true) ∧ Sq.ApAt w0 fn sv Bs l D (ss ++ [x]) W' ∧ KeepsWalks W W' := by
  obtain ⟨i0, hi, hz0, hz1, hz2⟩ := info_parts Sq.info55
  obtain ⟨v, hv, hrow, _⟩ := h.box
  refine ⟨fn, #[.slice none 0 0, sv, .pointer (some ⟨Bs, 0, none⟩), undef, .slice none 0 0, undef, sv, encU x, undef, undef, undef, undef, undef], Sq.apAssign, Sq.apBody, by simpa [Sq.apRec] using run_yield (P := Try.prog) (args := #[encU x]) h.L rfl, roundIn_of_wpIn hfn ?_⟩
  have hl : l < W.heap.size := (Array.getElem?_eq_some_iff.1 h.L).1
  have hbr := run_beginRound (P := Try.prog) h.L rfl
  obtain ⟨W2, hW2⟩ : ∃ W2, W.putObj l (.loop { Sq.apRec fn sv Bs D .ready none with state := .busy }) = W2 := ⟨_, rfl⟩
  rw [hW2] at hbr
  have hg2 : W.grownBy W2 (some l) := by rw [← hW2]; exact grownBy_putObj _ _ _
  have hk2 : KeepsWalks W W2 := by rw [← hW2]; exact KeepsWalks.putObj _ h.L rfl
  have hv2 : W2.heap[Bs]? = some (.cells #[v] 37 (0, 0)) := by rw [← hW2]; exact (World.putObj_heap_other hBl).trans hv
  have hK2 : W2.heap[D]? = some (.deferred (some [])) := by rw [← hW2]; exact (World.putObj_heap_other hDl).trans h.K
  have hL2 : W2.heap[l]? = some (.loop { Sq.apRec fn sv Bs D .ready none with state := .busy }) := by rw [← hW2]; exact World.putObj_heap_same hl
  have hrow2 : W2.ownsRow w0.heap.size 55 1 v ss.length (ss.map encU) := hrow.kept hg2 (ownsRow_ne hrow h.L (fun cur e => by cases e))
  have hb2 : Below w0.heap.size w0 W2 := h.below.grown hg2 h.below.size (fun k e => by cases e; exact h0l)
  obtain ⟨hc2, hf2⟩ := cell_of_box hv2
  have hBlt : Bs < W2.heap.size := (Array.getElem?_eq_some_iff.1 hv2).1
  have hl2 : l < W2.heap.size := (Array.getElem?_eq_some_iff.1 hL2).1
  have hDlt : D < W2.heap.size := (Array.getElem?_eq_some_iff.1 hK2).1
  have ne_of : ∀ {j : Nat} {o : Obj}, W2.heap[j]? = some o → (∀ cur, o ≠ .cells cur 55 (0, 0)) → some j ≠ v.ownBlock := fun hj hno => by
    rcases ownsRow_ne hrow2 hj hno with e | e
    · rw [e]; simp
    · exact fun e' => e e'.symm
  clear hW2
  unfold Sq.apAssign
  gi_wp2_with (rw [Oper.semAt_eq _ _ _ (fun c h => by cases h)]; go_simp; try go_bits)
  unfold Sq.apBody
  gi_wp2_with (first
    | (gi_at_builtin; refine wpListIn_append_own _ rfl _ _ 37 rfl w0.heap.size 55 i0 (.int .u16 0) 1 2 Try.underlying37 hi hz0 hz1 hz2 rfl (by decide) _ _ _ rfl (hrow2.alloc _) ⟨W2.heap.size, 0, none⟩ 1 1 [encU x] rfl rfl (cell_one_new _ _ _) (by simp [Value.oneCell', encU]) (by omega) (by omega) (by have := hb2.size; simp; omega) ?_; intro v' w3 hown' hg3 hnil3
       have hv3 : w3.heap[Bs]? = some (.cells #[v] 37 (0, 0)) := (hg3.block Bs (by simp; omega) (ne_of hv2 (fun cur e => by cases e))).trans ((Below.heap_alloc _ _ Bs hBlt).trans hv2)
       obtain ⟨hc3, hf3⟩ := cell_of_box hv3
       obtain ⟨g', cap', cur', rfl, hbase', hgb', hr1, hr2, hr3, hr4⟩ : ∃ g' cap' cur', v' = .slice (some ⟨g', 0, none⟩) (ss.length + 1) cap' ∧ w0.heap.size ≤ g' ∧ w3.heap[g']? = some (.cells cur' 55 (0, 0)) ∧ ss.length + 1 ≤ cap' ∧ cap' ≤ maxLen ∧ cur'.size = cap' * 1 ∧ cur'.toList.take ((ss.length + 1) * 1) = ss.map encU ++ [encU x] := by
         rcases hown'.2 with ⟨_, h0⟩ | h'
         · exact absurd h0 (by omega)
         · exact h'
       go_frame)
    | (rw [Oper.semAt_eq _ _ _ (fun c h => by cases h)]; go_simp; try go_bits))
  have hg3' : (W2.alloc (.cells #[encU x] 55)).grownBy w3 v.ownBlock := hg3
  have hL3 : w3.heap[l]? = some (.loop { Sq.apRec fn sv Bs D .ready none with state := .busy }) := (hg3'.block l (by simp; omega) (ne_of hL2 (fun cur e => by cases e))).trans ((Below.heap_alloc _ _ l hl2).trans hL2)
  have hK3 : w3.heap[D]? = some (.deferred (some [])) := (hg3'.block D (by simp; omega) (ne_of hK2 (fun cur e => by cases e))).trans ((Below.heap_alloc _ _ D hDlt).trans hK2)
  obtain ⟨w4, hw4⟩ : ∃ w4, w3.setCell ⟨Bs, 0, none⟩ (.slice (some ⟨g', 0, none⟩) (ss.length + 1) cap') = w4 := ⟨_, rfl⟩
  rw [hw4]
  have hg4 : w3.grownBy w4 (some Bs) := by rw [← hw4]; exact grownBy_setCell0 _ _ _
  have hv4 : w4.heap[Bs]? = some (.cells #[.slice (some ⟨g', 0, none⟩) (ss.length + 1) cap'] 37 (0, 0)) := by rw [← hw4]; exact heap_setCell_box _ hv3
  have hL4 : w4.heap[l]? = some (.loop { Sq.apRec fn sv Bs D .ready none with state := .busy }) := (hg4.block l (Array.getElem?_eq_some_iff.1 hL3).1 (fun e => hBl (by cases e; rfl))).trans hL3
  have hK4 : w4.heap[D]? = some (.deferred (some [])) := (hg4.block D (Array.getElem?_eq_some_iff.1 hK3).1 (fun e => hDB (by cases e; rfl))).trans hK3
  have hrow4 := hown'.kept hg4 (ownsRow_ne hown' hv3 (fun cur e => by cases e))
  have hl4 : l < w4.heap.size := (Array.getElem?_eq_some_iff.1 hL4).1
  have hb3 : Below w0.heap.size w0 w3 := (hb2.alloc hb2.size _).grown hg3' (by have := hb2.size; simp; omega) (fun k e => (hrow2.lt k e).1)
  have hb4 : Below w0.heap.size w0 w4 := hb3.grown hg4 hb3.size (fun k e => by cases e; exact h0B)
  have hk4 : KeepsWalks W w4 := ((hk2.trans (KeepsWalks.alloc _ _)).trans (KeepsWalks.of_grownBy hg3' (ownsRow_not_walk (hrow2.alloc _)))).trans (by rw [← hw4]; exact KeepsWalks.setCell _ _ _)
  clear hw4
  refine ⟨_, _, run_endRound none hL4, rfl, ⟨⟨_, (World.putObj_heap_other hBl).trans hv4, ?_, by simp⟩, World.putObj_heap_same hl4, (World.putObj_heap_other hDl).trans hK4, hb4.grown (grownBy_putObj _ _ _) hb4.size (fun k e => by cases e; exact h0l)⟩, hk4.trans (KeepsWalks.putObj _ hL4 rfl)⟩
  have := hrow4.kept (grownBy_putObj w4 l (.loop { { Sq.apRec fn sv Bs D .ready none with state := .busy } with state := if (none : Option Code).isNone then .ready else .done, pending := none })) (ownsRow_ne hrow4 hL4 (fun cur e => by cases e))
  simpa using this
set_option maxRecDepth 100000 in
set_option maxHeartbeats 2000000 in
theorem Sq.appendSeq_in (F : Fence) (n : Nat) (h11 : F.fn 181) (hro : F.round = none) (hn : 2 ≤ n) (g : Nat) (lb : Array Value) (hFg : F.fn g) (eg : ∀ args w, (callFunc g args).run Try.prog w = .ok (.enter g args) w)
    (S : List Int → Prop) (N : Nat) (hN : N ≤ maxLen) (hNb : N * 2 ≤ 140737488355328) (w : World) (hseq : SeqU F (n - 1) g lb S N w) :
    CallsIn F n Try.prog 181 #[.slice none 0 0, .func (.func g) #[] lb] w fun e w' => ∃ (v : Value) (ss : List Int), e = .returned v ∧ S ss ∧ w'.ownsRow w.heap.size 55 1 v ss.length (ss.map encU) ∧ (v = .slice none 0 0 ↔ ss = []) ∧ Below w.heap.size w w' := by
  have h1 : 1 ≤ n := by omega
  refine callsIn_of_wp_marks Try.func181 rfl h11 ?_ hro
  simp only [Try.ntmps181, List.size_toArray, List.length_cons, List.length_nil, Nat.reduceAdd, Nat.reduceSub, Array.replicate_succ, Array.replicate_zero, List.push_toArray, List.append_toArray, List.nil_append, List.cons_append]
  gi_wp2
  refine wpIn_rangeFunc ?_
  intro fn hfn
  rw [hro]
  obtain ⟨W0, hW0⟩ : ∃ W0, w.alloc (.cells #[.slice none 0 0] 37) = W0 := ⟨_, rfl⟩
  have hs0 : W0.heap.size = w.heap.size + 1 := by rw [← hW0]; simp
  have hv0 : W0.heap[w.heap.size]? = some (.cells #[.slice none 0 0] 37 (0, 0)) := by rw [← hW0]; exact World.alloc_heap_new w _
  have hb0 : Below w.heap.size w W0 := by rw [← hW0]; exact (Below.refl _ w).alloc (Nat.le_refl _) _
  rw [hW0]
  obtain ⟨W1, hW1⟩ : ∃ W1, (W0.alloc (.deferred (some []))).alloc (.loop (Sq.apRec fn (.func (.func g) #[] lb) w.heap.size W0.heap.size .ready none)) = W1 := ⟨_, rfl⟩
  have hold : ∀ k, k < W0.heap.size → W1.heap[k]? = W0.heap[k]? := fun k hk => by
    rw [← hW1]; exact (Below.heap_alloc _ _ k (by simp; omega)).trans (Below.heap_alloc _ _ k hk)
  have hb1 : Below w.heap.size w W1 := by rw [← hW1]; exact (hb0.alloc hb0.size _).alloc (by have := hb0.size; simp; omega) _
  have hs1 : W1.heap.size = W0.heap.size + 2 := by rw [← hW1]; simp
  have hM : Sq.ApAt w fn (.func (.func g) #[] lb) w.heap.size (W0.heap.size + 1) W0.heap.size [] W1 :=
    ⟨⟨_, (hold w.heap.size (by omega)).trans hv0, ⟨rfl, .inl ⟨rfl, rfl⟩⟩, by simp⟩,
     by rw [← hW1]; have := World.alloc_heap_new (W0.alloc (.deferred (some []))) (.loop (Sq.apRec fn (.func (.func g) #[] lb) w.heap.size W0.heap.size .ready none)); rwa [World.size_alloc] at this,
     by rw [← hW1]; exact (Below.heap_alloc _ _ _ (by simp)).trans (World.alloc_heap_new W0 _), hb1⟩
  refine ⟨W0.heap.size + 1, [{ target := .collected W0.heap.size, args := #[] }], W1, { target := .fn (.func g) lb, args := #[.func (.yield (W0.heap.size + 1)) #[] #[]] }, W1, g,
    #[.func (.yield (W0.heap.size + 1)) #[] #[]] ++ lb, W1, ?_, ?_, ?_, ?_, fun _ => h1, ?_⟩
  · rw [← hW1]; exact run_enterLoop_outer _ _ _ _ _
  · simp [resolve, go_sem]
  · intro f' hf'; simp [Target.leads] at hf'; subst hf'; exact hFg
  · simp [invoke, go_sem, eg]
  · refine (hseq (W0.heap.size + 1) (Sq.ApAt w fn (.func (.func g) #[] lb) w.heap.size (W0.heap.size + 1) W0.heap.size) W1 hb1 (fun _ _ h => h.below)
      (fun pre x W hJ hl => Sq.apYield F (n - 1 - 1) w fn hfn _ w.heap.size (W0.heap.size + 1) W0.heap.size (by omega) (by omega) (by omega) (Nat.le_refl _) (by omega) N hN hNb pre x W hJ hl) hM).mono ?_
    rintro e W2 ⟨⟨v0, rfl⟩, ss, hS, h2⟩
    obtain ⟨v, hv, hrow, hnil⟩ := h2.box
    have hend := run_endLoop (P := Try.prog) h2.L (by simp [Sq.apRec])
    obtain ⟨W3, hW3⟩ : ∃ W3, W2.putObj (W0.heap.size + 1) (.loop { Sq.apRec fn (.func (.func g) #[] lb) w.heap.size W0.heap.size .ready none with state := .exhausted }) = W3 := ⟨_, rfl⟩
    rw [hW3] at hend
    have hg3 : W2.grownBy W3 (some (W0.heap.size + 1)) := by rw [← hW3]; exact grownBy_putObj _ _ _
    have hv3 : W3.heap[w.heap.size]? = some (.cells #[v] 37 (0, 0)) := by rw [← hW3]; exact (World.putObj_heap_other (by omega)).trans hv
    have hK3 : W3.heap[W0.heap.size]? = some (.deferred (some [])) := by rw [← hW3]; exact (World.putObj_heap_other (by omega)).trans h2.K
    have hrow3 := hrow.kept hg3 (ownsRow_ne hrow h2.L (fun cur e => by cases e))
    have hb3 : Below w.heap.size w W3 := h2.below.grown hg3 h2.below.size (fun k e => by cases e; omega)
    obtain ⟨hc3, hf3⟩ := cell_of_box hv3
    clear hW3
    refine ⟨none, W3, hend, ?_⟩
    gi_wp2
    rw [← hs0]
    refine ⟨by simp, .inl ⟨_, _, rfl, run_takeDeferred hK3, ?_⟩⟩
    exact ⟨_, results_tmp rfl _ _ _, v, ss, rfl, hS, hrow3.kept (grownBy_putObj _ _ _) (ownsRow_ne hrow3 hK3 (fun cur e => by cases e)), hnil, hb3.grown (grownBy_putObj _ _ _) hb3.size (fun k e => by cases e; omega)⟩
end Go.Proofs.Ytmanpbgaihdalaa
namespace Go.Proofs.Ytmanpbgaihdalaa
open Go Dv Go.RowKit Go.Maps Go.Sort Go.Shelf
attribute [local go_sem] Oper.semAt_some
set_option maxRecDepth 100000 in
set_option maxHeartbeats 2000000 in
theorem Sq.values1_in (F : Fence) (n : Nat) (h7 : F.fn 177) (hro : F.round = none) (hn : 1 ≤ n) (Bs bo b off cap : Nat) (zs : List Int) (hreach : zs.length * 2 ≤ 140737488351232) (w : World) (hBs0 : Bs < w.heap.size) (hb : b < w.heap.size)
    (hBs : w.cell? ⟨Bs, bo, none⟩ = some (.slice (some ⟨b, off, none⟩) zs.length cap)) (hc : ∀ j, j < zs.length → w.cell? ⟨b, off + j, none⟩ = some (.int .u16 (zs[j]?.getD 0))) :
    SeqU F n 177 #[.pointer (some ⟨Bs, bo, none⟩)] (fun ss => ss = zs) zs.length w := by
  intro l J W hW hJB hY h0
  have hBsW := (hW.cell (p := ⟨Bs, bo, none⟩) hBs0).trans hBs
  have hcW : ∀ W', RowKit.Below w.heap.size w W' → ∀ k, k < zs.length → W'.cell? ⟨b, off + k, none⟩ = some (.int .u16 (zs[k]?.getD 0)) := fun W' h k hk => (h.cell (p := ⟨b, off + k, none⟩) hb).trans (hc k hk)
  refine callsIn_of_wp Try.func177 rfl h7 ?_ hro
  simp only [Try.ntmps177, List.size_toArray, List.length_cons, List.length_nil, Nat.reduceAdd, Nat.reduceSub, Array.replicate_succ, Array.replicate_zero, List.push_toArray, List.append_toArray, List.nil_append, List.cons_append]
  gi_wp2
  gi_loopw [7] (fun i wr => ∃ k : Nat, k ≤ zs.length ∧ i = .int .i64 k ∧ J (zs.take k) wr)
    (fun i _ => zs.length - (intOf i).toNat)
  case atStart => exact ⟨0, Nat.zero_le _, rfl, by simpa using h0⟩
  case round =>
    obtain ⟨k, hk, rfl, hJs⟩ := hrel
    by_cases hlt : k < zs.length
    · have hcx' := hcW wr (hJB _ _ hJs) k hlt
      have hJx : ∀ W', J (zs.take k ++ [zs[k]?.getD 0]) W' → J (zs.take (k + 1)) W' := fun W' h => by rw [List.take_add_one]; simpa [List.getElem?_eq_getElem hlt] using h
      generalize zs[k]?.getD 0 = x at hcx' hJx
      obtain ⟨fn, tmps, assign, body, hy, hR⟩ := hY _ x wr hJs (by rw [List.length_take]; omega)
      unfold encU at hy
      gi_wp2
      refine hR.mono ?_
      rintro e W3 ⟨rfl, hJ3, _⟩
      gi_wp2
      go_roundw
      case rel => exact ⟨k + 1, by omega, by simp, hJx _ hJ3⟩
      case measure => simp [intOf]; omega
    · obtain rfl : k = zs.length := by omega
      gi_wp2
      go_end0
      exact ⟨⟨_, rfl⟩, _, rfl, by simpa using hJs⟩
set_option maxRecDepth 100000 in
set_option maxHeartbeats 1000000 in
theorem Sq.values1_nil (F : Fence) (n : Nat) (h7 : F.fn 177) (hro : F.round = none) (Bs bo cap : Nat) (p : Option Addr) (w : World) (hBs0 : Bs < w.heap.size)
    (hBs : w.cell? ⟨Bs, bo, none⟩ = some (.slice p 0 cap)) :
    SeqU F n 177 #[.pointer (some ⟨Bs, bo, none⟩)] (fun ss => ss = []) 0 w := by
  intro l J W hW hJB hY h0
  have hBsW := (hW.cell (p := ⟨Bs, bo, none⟩) hBs0).trans hBs
  refine callsIn_of_wp Try.func177 rfl h7 ?_ hro
  simp only [Try.ntmps177, List.size_toArray, List.length_cons, List.length_nil, Nat.reduceAdd, Nat.reduceSub, Array.replicate_succ, Array.replicate_zero, List.push_toArray, List.append_toArray, List.nil_append, List.cons_append]
  gi_wp2
  gi_loopw [7] (fun i wr => i = .int .i64 0 ∧ J [] wr) (fun _ _ => 0)
  case atStart => exact ⟨rfl, h0⟩
  case round =>
    obtain ⟨rfl, hJs⟩ := hrel
    gi_wp2
    go_end0
    exact ⟨⟨_, rfl⟩, _, rfl, hJs⟩
end Go.Proofs.Ytmanpbgaihdalaa
namespace Go.Proofs.Ytmanpbgaihdalaa
open Go Dv Go.RowKit Go.Maps Go.Sort Go.Shelf
set_option linter.unusedSimpArgs false
theorem fr_below {w w' : World} (h : RowKit.Below w.heap.size w w') : Fr (fun _ => False) w w' :=
  ⟨h.os, h.tape, h.output, h.size, fun b hb _ => h.block b hb, fun a ha => by simp only [World.frozen?, h.block a.block ha]⟩
theorem c_AppendSeq (l : List Int) (hl : l.length ≤ maxL) : FO Try.prog 181 [.nsl, .fn 177 [.ip [u16s l]]] 1 l.length (fun i => [.int .u16 (l.getD i 0)]) := by
  refine ⟨⟨_, Try.func181, rfl, by decide +kernel⟩, fun X w vals hX hv => ?_⟩
  simp only [Vs, V, Vc, u16s] at hv
  obtain ⟨_, _, rfl, rfl, _, _, rfl, ⟨a, rfl, _, _, rfl, ⟨Bs, bo, rfl, hBs, hnX, ⟨v, hcell, _, p, c, rfl, hnc, _, hrow⟩, _⟩, rfl⟩, rfl⟩ := hv
  have hu : ∀ i, i < l.length → IntKind.u16.min ≤ l.getD i 0 ∧ l.getD i 0 ≤ IntKind.u16.max := fun i hi => by
    rcases hrow with h0 | ⟨b, o, _, _, _, hc⟩
    · omega
    · exact (hc i hi).2.1.choose_spec.2.2.2
  have key : ∃ N, SeqU Fence.wide 1 177 #[.pointer (some ⟨Bs, bo, none⟩)] (fun ss => ss = l) N w ∧ N ≤ maxLen ∧ N * 2 ≤ 140737488355328 := by
    rcases hrow with h0 | ⟨b, o, rfl, hb, _, hc⟩
    · have : l = [] := List.length_eq_zero_iff.1 h0
      subst this
      exact ⟨0, Sq.values1_nil Fence.wide 1 trivial rfl Bs bo c p w hBs hcell, by decide, by decide⟩
    · refine ⟨l.length, Sq.values1_in Fence.wide 1 trivial rfl (by omega) Bs bo b o c l (by simp only [maxL] at hl; omega) w hBs hb hcell (fun j hj => ?_), by simp only [maxL] at hl; simp only [maxLen]; omega, by simp only [maxL] at hl; omega⟩
      obtain ⟨_, ⟨v, h1, _, h2, _⟩, _⟩ := hc j hj
      rw [Nat.mul_one] at h1
      rw [h1, h2]; simp
  obtain ⟨N, hseq, hN, hN2⟩ := key
  refine (callsIn_wide.1 (Sq.appendSeq_in Fence.wide 2 trivial rfl (by omega) 177 #[.pointer (some ⟨Bs, bo, none⟩)] trivial (fun args w => run_callFunc ⟨_, Try.func177, rfl, by decide +kernel⟩ args w) (fun ss => ss = l) N hN hN2 w hseq)).mono ?_
  rintro e w' ⟨v, ss, rfl, rfl, hown, hnil, hb⟩
  refine ⟨v, rfl, fr_below hb, hl, ?_⟩
  rcases hown.2 with ⟨h1, h2⟩ | ⟨g, cap, cur, h1, h2, h3, h4, h5, h6, h7⟩
  · exact .inl ⟨h1, h2⟩
  · refine .inr ⟨_, g, cap, h1, h2, .inr rfl, cur, 55, h3, h4, h6, fun i hi => ⟨rfl, ?_⟩⟩
    simp only [Vc, V]
    have hg : cur[i]? = some (.int .u16 (ss.getD i 0)) := by
      have := congrArg (fun l => l[i]?) h7
      simp only [Nat.mul_one, List.getElem?_take, hi, if_true, List.getElem?_map] at this
      rw [← Array.getElem?_toList, this, List.getElem?_eq_getElem hi, List.getD_eq_getElem?_getD, List.getElem?_eq_getElem hi]; rfl
    refine ⟨⟨_, ?_, rfl, rfl, ?_⟩, trivial⟩
    · simp [World.cell?, h3, hg]
    · exact hu i hi
theorem Rel.bp {h : AHeap} {id : Dv.Id} {imm : Bool} {sz k : Nat} {f : Nat → List AV} {g : List AV} (hh : h id = some (.row imm sz k f)) (hk : 0 < k) (hm : Rels h (f 0) g) : Rel h (.bp id 0) (.ip g) := fun X ι w v s hv => by
  simp only [V] at hv ⊢
  cases hl : ι id with
  | none => simp [hl] at hv
  | some l =>
    cases l with
    | ghost => simp [hl] at hv
    | nil => simp [hl] at hv
    | «at» b c =>
      simp only [hl] at hv
      obtain ⟨arr, TT, hc, h4, h5, h6⟩ := s.rel id _ _ hh hl
      refine ⟨b, 0, hv, s.lt hl, s.apart id b c hl, ?_⟩
      obtain ⟨h7, h8⟩ := h6 0 hk
      have h9 := Vc_weak' imm _ _ _ h8
      rw [Nat.zero_mul] at h9
      obtain ⟨vs, hvl, hvc, hvV, hv1⟩ := Vc_read h9
      exact Vc_of_Vs (hm X ι w vs s hvV) hvc hv1
theorem c_Values (l : List Int) : FC Try.prog 166 [u16s l] (.fn 177 [.ip [u16s l]]) := by
  refine FC_intro tok Try.func166 rfl (by decide +kernel) (Nat.le_of_ble_eq_true rfl) ?_
  (repeat' first | refine AWp_seq ?_ | (refine AWp_reg tok (by rfl) ?_; conv => whnf) | (refine AWp_ret ?_; conv => whnf))
  exact ⟨_, rfl, Rel.fn (Rels.cons (Rel.bp rfl Nat.zero_lt_one (Rels.imm rfl)) Rels.nil)⟩
theorem c_Collect (l : List Int) (hl : l.length ≤ maxL) : FO Try.prog 175 [.fn 177 [.ip [u16s l]]] 1 l.length (fun i => [.int .u16 (l.getD i 0)]) := by
  refine FO_intro tok Try.func175 rfl (by decide +kernel) (Nat.le_of_ble_eq_true rfl) ?_
  (repeat' first | refine AWp_seq ?_ | (refine AWp_reg tok (by rfl) ?_; conv => whnf))
  refine .inl ⟨_, _, _, uG (QC.fo (rd := []) (c_AppendSeq l hl) (Ress.imms rfl) (.inl rfl) rfl), ?_⟩
  conv => whnf
  (repeat' (refine AWp_ret ?_; conv => whnf))
  exact ⟨_, rfl, .rs rfl (Nat.le_refl _) rfl (fun _ _ => rfl)⟩
theorem c_Sorted (l : List Int) (hl : l.length ≤ maxL) : FO Try.prog 165 [.fn 177 [.ip [u16s l]]] 1 l.length (fun i => [.int .u16 ((sorted l).getD i 0)]) := by
  refine FO_intro tok Try.func165 rfl (by decide +kernel) (Nat.le_of_ble_eq_true rfl) ?_
  (repeat' first | refine AWp_seq ?_ | (refine AWp_reg tok (by rfl) ?_; conv => whnf))
  refine .inl ⟨_, _, _, uG (QC.fo (rd := []) (c_Collect l hl) (Ress.imms rfl) (.inl rfl) rfl), ?_⟩
  conv => whnf
  (repeat' first | refine AWp_seq ?_ | (refine AWp_reg tok (by rfl) ?_; conv => whnf))
  have hS := c_Sort l.length l.toArray (by simp)
  refine .inr ⟨_, _, _, uG (QH.of (dead := []) [(i0, .old (5, 0, 0), arow l.length l.toArray)] hS rfl (.old rfl (BLe.row rfl (fun x h2 => ?_)) .nil) (.cons (.eq rfl) .nil) [(i0, (5, 0, 0))] rfl (.cons (b' := .row true 1 l.length (fun i => [.int .u16 ((sorted l).getD i 0)])) rfl (BLe.row rfl (fun x h2 => ?_)) .nil) rfl), ?_⟩
  · show [AV.int .u16 (l.getD x 0)] = [.int .u16 l.toArray[x]!]
    rw [bang_list]
  · show [AV.int .u16 (Go.Sort.sort ltInt l.toArray)[x]!] = [.int .u16 ((sorted l).getD x 0)]
    rw [← bang_list]; simp [sorted]
  conv => whnf
  (repeat' first | refine AWp_seq ?_ | (refine AWp_reg tok (by rfl) ?_; conv => whnf) | (refine AWp_ret ?_; conv => whnf))
  exact ⟨_, rfl, .rs rfl (Nat.le_refl _) rfl (fun _ _ => rfl)⟩
end Go.Proofs.Ytmanpbgaihdalaa
namespace Go.Proofs.Ytmanpbgaihdalaa
open Go Dv
set_option maxRecDepth 10000
set_option linter.unusedSimpArgs false
theorem sorted_perm (l : List Int) : (sorted l).Perm l := by rw [sorted_eq]; exact List.mergeSort_perm l _
theorem sorted_asc (l : List Int) : ∀ i j, i < j → j < (sorted l).length → (sorted l).getD i 0 ≤ (sorted l).getD j 0 := by
  have h : (sorted l).Pairwise (fun x y => decide (x ≤ y) = true) := by
    rw [sorted_eq]
    exact List.pairwise_mergeSort (fun a b c h1 h2 => by simp at *; omega) (fun a b => by simp; omega) l
  intro i j hij hj
  rw [List.pairwise_iff_getElem] at h
  have := h i j (by omega) hj hij
  rw [getD_lt _ (by omega), getD_lt _ hj]; simpa using this
theorem runs_sorted (l : List Int) : runs (sorted l).toArray l.length = l.length ↔ l.Nodup := by
  have h := runs_all (sorted_asc l) l.length (by rw [sorted_len]; omega)
  rw [h, ← (sorted_perm l).nodup_iff]
  constructor
  · intro hh; exact nodup_getD (fun i hi k hk => hh i (by rw [sorted_len] at hi; exact hi) k hk)
  · intro hn x hx y hy he
    exact not_nodup (by rw [sorted_len]; exact hx) hy he hn
theorem c_lpad : LPad := by
  intro m f b
  refine FC_intro tok Try.func156 rfl (by decide +kernel) (Nat.le_of_ble_eq_true rfl) ?_
  refine AWp_facts 1 (fun hl => ?_)
  have hl0 : b.pad.catch_.length ≤ maxL := hl.2.2.1.1
  (repeat' first | refine AWp_seq ?_ | (refine AWp_reg tok (by rfl) ?_; conv => whnf) | (refine AWp_skip ?_; conv => whnf) | refine AWp_cond rfl (fun hb => ?_) (fun hb => ?_))
  · refine .inl ⟨_, _, _, uG (QC.sc (rd := []) (c_samePad b.pad ⟨0, [], false, false⟩) (.cons (.imm rfl) (.cons (.agg (.cons (.imm rfl) (.cons .nsl (.cons (.imm rfl) (.cons (.imm rfl) .nil))))) .nil)) rfl), ?_⟩
    conv => whnf
    (repeat' (refine AWp_ret ?_; conv => whnf))
    refine ⟨_, rfl, Rel.bool ?_⟩
    rw [decide_eq_decide]
    obtain ⟨land, ⟨d, c, al, cl⟩, _, _⟩ := b
    simp at hb
    simp [PadP, hb, and_assoc]
  refine .inl ⟨_, _, _, uG (QC.fc (c_Values b.pad.catch_) rfl), ?_⟩
  conv => whnf
  skip
  refine .inl ⟨_, _, _, uG (QC.fo (rd := []) (c_Sorted b.pad.catch_ hl0) (Ress.imms rfl) (.inl rfl) rfl), ?_⟩
  conv => whnf
  (repeat' first | refine AWp_seq ?_ | (refine AWp_any tok mix (by rfl) ?_; conv => whnf))
  refine .inl ⟨_, _, _, uG (QC.fc (c_place m f b.pad.dst) rfl), ?_⟩
  conv => whnf
  skip
  have hC := c_Compact b.pad.catch_.length (sorted b.pad.catch_).toArray (by simp [sorted_len])
  refine .inl ⟨_, _, _, uG (QC.turn (i := (18, 0, 0)) (rd := [(18, 0, 0)]) (b := .row true 1 0 (fun _ => [])) (List.mem_singleton.2 rfl) (fun h' hh => QH.of (dead := []) [(i0, .old (18, 0, 0), arow b.pad.catch_.length (sorted b.pad.catch_).toArray)] hC rfl (.old (hh _ (List.mem_singleton.2 rfl)) (BLe.row rfl (fun x h2 => ?_)) .nil) (.cons (.eq rfl) .nil) [(i0, (18, 0, 0))] rfl (.cons (b' := .row true 1 0 (fun _ => [])) rfl (BLe.rowW (Nat.zero_le _) (fun x h2 => absurd h2 (Nat.not_lt_zero x))) .nil) rfl)), ?_⟩
  · show [AV.int .u16 ((sorted b.pad.catch_).getD x 0)] = [.int .u16 (sorted b.pad.catch_).toArray[x]!]
    rw [bang_list]
  conv => whnf
  (repeat' (refine AWp_ret ?_; conv => whnf))
  refine ⟨_, rfl, Rel.bool ?_⟩
  have h1 := runs_sorted b.pad.catch_
  generalize runs (sorted b.pad.catch_).toArray b.pad.catch_.length = rr at h1 ⊢
  have hland : b.landing = true := by simpa using hb
  rw [Bool.eq_iff_iff]
  have e1 : ((rr : Int) = (b.pad.catch_.length : Int)) ↔ b.pad.catch_.Nodup := by rw [← h1]; omega
  have e2 : ((b.pad.catch_.length : Int) ≤ 8) ↔ b.pad.catch_.length ≤ 8 := by omega
  have e3 : (0 : Int) < (b.pad.catch_.length : Int) ↔ b.pad.catch_ ≠ [] := by
    rw [← List.length_pos_iff]; omega
  simp only [cond_eq_ite, Bool.if_false_right, Bool.if_true_left, Bool.and_eq_true, Bool.or_eq_true, decide_eq_true_eq, e1, e2, e3, PadP, hland, Bool.decide_eq_true]
  simp
  constructor
  · rintro ⟨⟨⟨h2, h3⟩, h4⟩, h5⟩
    refine ⟨h3, h4, h2, ?_⟩
    rcases h5 with (h5 | h5) | h5 <;> simp [h5]
  · rintro ⟨h3, h4, h2, h5⟩
    refine ⟨⟨⟨h2, h3⟩, h4⟩, ?_⟩
    rcases h5 with h5 | h5 | h5 <;> simp [h5]
end Go.Proofs.Ytmanpbgaihdalaa
namespace Go.Proofs.Ytmanpbgaihdalaa
open Go Dv
set_option maxRecDepth 10000
set_option linter.unusedSimpArgs false
def blkR1 (l : List Block) : ABlock := .row true 14 l.length (fun q => encBlock (l.getD q default))
def funR1 (l : List Func) (c : Nat → AV) : ABlock := .row false 3 l.length (fun j => [iv (l.getD j default).params, iv (l.getD j default).regs, c j])
def blkF1 (l : List Func) (p : Nat → Bool) : AHeap := famC 1000 (fun j z => bif Nat.beq z 0 && (Nat.blt j l.length && p j) then some (blkR1 (l.getD j default).blocks) else none)
def mem1 (l : List Func) (j : Nat) : AV := .rs (1000, j, 0) 14 0 (l.getD j default).blocks.length
def modH1 (l : List Func) : AHeap := orH (lookH [((900, 0, 0), funR1 l (mem1 l))]) (blkF1 l (fun _ => true))
theorem blkF1_some {l : List Func} {p : Nat → Bool} {j : Dv.Id} {b : ABlock} (h : blkF1 l p j = some b) : ∃ i, j = (1000, i, 0) ∧ i < l.length ∧ p i = true ∧ b = blkR1 (l.getD i default).blocks := by
  obtain ⟨a, z, rfl, h3⟩ := famC_some h
  cases e : (Nat.beq z 0 && (Nat.blt a l.length && p a)) with
  | false => rw [e] at h3; cases h3
  | true =>
    rw [e] at h3
    rw [Bool.and_eq_true, Bool.and_eq_true, Nat.blt_eq] at e
    have := Nat.eq_of_beq_eq_true e.1
    subst this
    exact ⟨a, rfl, e.2.1, e.2.2, (Option.some.inj h3).symm⟩
theorem blkF1_at {l : List Func} {p : Nat → Bool} {i : Nat} (h : i < l.length) (hp : p i = true) : blkF1 l p (1000, i, 0) = some (blkR1 (l.getD i default).blocks) := by
  show (bif (Nat.beq 0 0 && (Nat.blt i l.length && p i)) then _ else none) = _
  have : (Nat.beq 0 0 && (Nat.blt i l.length && p i)) = true := by
    rw [Bool.and_eq_true, Bool.and_eq_true, Nat.blt_eq]; exact ⟨rfl, h, hp⟩
  rw [this]; rfl
theorem copyH_sub (fs : List Func) (j : Dv.Id) (b : ABlock) (e : modH1 fs j = some b) : (j = (900, 0, 0) ∧ b = funR1 fs (mem1 fs)) ∨ ∃ i, j = (1000, i, 0) ∧ i < fs.length ∧ b = blkR1 (fs.getD i default).blocks := by
  rcases orH_some e with e | ⟨_, e⟩
  · simp only [lookH] at e
    cases e2 : idEq (900, 0, 0) j with
    | false => rw [e2] at e; cases e
    | true => have := idEq_iff.1 e2; subst this; rw [e2] at e; cases e; exact .inl ⟨rfl, rfl⟩
  · obtain ⟨i, rfl, h1, _, h2⟩ := blkF1_some e
    exact .inr ⟨i, rfl, h1, h2⟩
theorem modH1_at {l : List Func} {i : Nat} (h : i < l.length) : modH1 l (1000, i, 0) = some (blkR1 (l.getD i default).blocks) := (show blkF1 l (fun _ => true) (1000, i, 0) = _ from blkF1_at h rfl)
theorem c_Copy1 (fs : List Func) : HF Try.prog 26 [.agg (encMod ⟨fs⟩)] (.agg [.rs (900, 0, 0) 3 0 fs.length]) (modH1 fs) := by
  refine (c_Copy fs).weak (fun j => some j) (fun j j' i _ _ h1 h2 => some_inj j j' i h1 h2) (fun j b e => ?_) (.agg (.cons (.rs (b := funR1 fs (mem1 fs)) rfl rfl rfl rfl) .nil))
  rcases copyH_sub fs j b e with ⟨rfl, rfl⟩ | ⟨i, rfl, hi, rfl⟩
  · refine HOk.mk rfl (b0 := funR fs fs.length (fun _ => .any)) rfl (GB.row (Nat.le_refl _) (fun j hj => .cons (.imm rfl) (.cons (.imm rfl) (.cons ?_ .nil))) (fun e => by cases e))
    exact .cc (sel_lt hj) rfl (.rs (modH1_at hj) rfl rfl rfl)
  · refine HOk.mk rfl (b0 := blkR i (fs.getD i default).blocks (fs.getD i default).blocks.length (fun _ => .any)) (show treeF fs fs.length 0 (1000, i, 0) = _ from treeF_blk hi) (GB.row (Nat.le_refl _) (fun q hq => ?_) (fun _ _ _ => rfl))
    refine .cons (.imm rfl) (.cons (.imm rfl) (.cons (.imm rfl) (.cons (.imm rfl) (.cons (.imm rfl) (.cons ?_ (GVs.imm rfl))))))
    refine .cc (sel_lt hq) rfl (.frz (k := ((fs.getD i default).blocks.getD q default).ins.length) (f := fun j => encIns (((fs.getD i default).blocks.getD q default).ins.getD j default)) (imm := true) (fun j hj e => ?_) (show treeF fs fs.length 0 (1001, i, q) = _ from treeF_ins (.inl ⟨hi, hq⟩)) (Nat.le_of_eq (Nat.zero_add _)) rfl (fun x hx => GVs.eqI rfl (by rw [Nat.zero_add])) (fun _ _ => rfl))
    cases e
    cases hj
theorem rel_mod1 (l : List Func) : Rel (modH1 l) (.agg [.rs (900, 0, 0) 3 0 l.length]) (.agg (encMod ⟨l⟩)) := by
  refine Rel.agg (Rels.cons (Rel.rs (imm := false) (k := l.length) (f := fun j => [iv (l.getD j default).params, iv (l.getD j default).regs, mem1 l j]) rfl (Nat.le_of_eq (Nat.zero_add _)) (fun i hi => ?_)) Rels.nil)
  rw [Nat.zero_add]
  refine Rels.cons (Rel.imm rfl) (Rels.cons (Rel.imm rfl) (Rels.cons (Rel.rs (imm := true) (k := (l.getD i default).blocks.length) (f := fun q => encBlock ((l.getD i default).blocks.getD q default)) (modH1_at hi) (Nat.le_of_eq (Nat.zero_add _)) (fun q hq => ?_)) Rels.nil))
  rw [Nat.zero_add]
  exact Rels.imm rfl
theorem c_CopyF (m : Module) : FC Try.prog 26 [.agg (encMod m)] (.agg (encMod m)) := (c_Copy1 m.funcs).fc (rel_mod1 m.funcs)
end Go.Proofs.Ytmanpbgaihdalaa
namespace Go.Proofs.Ytmanpbgaihdalaa
open Go Dv
set_option maxRecDepth 10000
set_option linter.unusedSimpArgs false
def twoO (op : Int) : Bool := bif decide (2 < op) then decide (op ≤ 8) else false
def turnsO (op : Int) : Bool := decide (op = 3 ∨ op = 5 ∨ op = 7)
end Go.Proofs.Ytmanpbgaihdalaa
namespace Go.Proofs.Ytmanpbgaihdalaa
open Go Dv
set_option maxRecDepth 10000
set_option linter.unusedSimpArgs false
structure Deed where
  op : Int
  a : Int
  b : Int
deriving DecidableEq, Inhabited
def Deed.l (d : Deed) : List Int := [d.op, d.a, d.b]
def ofD (x : Ins) : Deed := if turnsO x.op = true ∧ x.b < x.a then ⟨x.op, x.b, x.a⟩ else ⟨x.op, x.a, x.b⟩
abbrev κS : MK := ⟨true, 3, .i64, .i64⟩
def hit (p : Int) (q : List Int × Int) : Bool := decide (q.1.getD 1 0 = p) || decide (q.1.getD 2 0 = p) || decide (q.2 = p)
def forgetM (m : List (List Int × Int)) (p : Int) : List (List Int × Int) := m.filter fun q => !hit p q
structure FInv (m : List (List Int × Int)) (p : Int) (clock : Nat) (es : Array MapEntry) (seen : Array Nat) (m' : List (List Int × Int)) : Prop where
  ok : MOk κS m' es clock
  same : forgetM m' p = forgetM m p
  past : ∀ e ∈ es.toList, seen.contains e.born = true → ∀ k v, (k, v) ∈ m' → e.key = keyV κS k → hit p (k, v) = false
theorem FInv.done {m : List (List Int × Int)} {p : Int} {clock : Nat} {es : Array MapEntry} {seen : Array Nat} {m' : List (List Int × Int)} (h : FInv m p clock es seen m') (h0 : (leftOf es seen).size = 0) : MOk κS (forgetM m p) es clock := by
  rw [← h.same]
  have : forgetM m' p = m' := List.filter_eq_self.2 (fun q hq => by
    have h1 : (keyV κS q.1, Value.int .i64 q.2) ∈ m'.map (fun p => (keyV κS p.1, Value.int κS.vk p.2)) := List.mem_map.2 ⟨q, hq, rfl⟩
    rw [← h.ok.kv] at h1
    obtain ⟨e, he, h2⟩ := List.mem_map.1 h1
    have h3 := Prod.mk.inj h2
    rw [h.past e he (all_seen es seen h0 e he) q.1 q.2 hq h3.1]; rfl)
  rw [this]; exact h.ok
abbrev Mp := List (List Int × Int)
def sameHit (m : Mp) (x : Ins) : Bool := bif twoO x.op then (mlook m (ofD x).l).isSome else false
def sameY (m : Mp) (x : Ins) : Ins := if sameHit m x = true then ⟨2, x.dst, (mlook m (ofD x).l).getD 0, 0, 0, 0, []⟩ else x
def sameOk (m : Mp) (x : Ins) : Bool := twoO x.op && !(mlook m (ofD x).l).isSome
def sameM (m : Mp) (x : Ins) : Mp := if (sameY m x).op = 10 ∨ (sameY m x).op = 12 then m else
  if sameOk m x = true ∧ (sameY m x).dst ≠ (ofD x).a ∧ (sameY m x).dst ≠ (ofD x).b then mput (forgetM m (sameY m x).dst) (ofD x).l (sameY m x).dst else forgetM m (sameY m x).dst
def sameIns : Mp → List Ins → List Ins × Mp
  | m, [] => ([], m)
  | m, x :: r => (sameY m x :: (sameIns (sameM m x) r).1, (sameIns (sameM m x) r).2)
def sameAt (l : List Ins) (i : Nat) : List Ins := (sameIns [] (l.take i)).1 ++ l.drop i
end Go.Proofs.Ytmanpbgaihdalaa
namespace Go.Proofs.Ytmanpbgaihdalaa
open Go Dv
set_option maxRecDepth 10000
set_option linter.unusedSimpArgs false
section
variable (B : Block → Block)
def mapB (l : List Block) (k : Nat) : List Block := (List.range l.length).map fun q => if q < k then B (l.getD q default) else l.getD q default
def mapF (f : Func) (k : Nat) : Func := { f with blocks := mapB B f.blocks k }
def curL (l : List Func) (n : Nat) : List Func := (List.range l.length).map fun j => if j < n then mapF B (l.getD j default) (l.getD j default).blocks.length else l.getD j default
def passM (m : Module) : Module := ⟨m.funcs.map fun f => { f with blocks := f.blocks.map B }⟩
end
theorem range_getD {α : Type} (d : α) (f : Nat → α) {n i : Nat} (h : i < n) : ((List.range n).map f).getD i d = f i := by
  simp [List.getD_eq_getElem?_getD, h]
theorem mapB_len {B : Block → Block} (l : List Block) (k : Nat) : (mapB B l k).length = l.length := by simp [mapB]
theorem mapB_at {B : Block → Block} {l : List Block} {k q : Nat} (h : q < l.length) : (mapB B l k).getD q default = if q < k then B (l.getD q default) else l.getD q default := range_getD _ _ h
theorem curL_len {B : Block → Block} (l : List Func) (k : Nat) : (curL B l k).length = l.length := by simp [curL]
theorem curL_at {B : Block → Block} {l : List Func} {k q : Nat} (h : q < l.length) : (curL B l k).getD q default = if q < k then mapF B (l.getD q default) (l.getD q default).blocks.length else l.getD q default := range_getD _ _ h
theorem mapB_all {B : Block → Block} (l : List Block) : mapB B l l.length = l.map B := by
  refine list_ext_getD default (by simp [mapB]) (fun i hi => ?_)
  rw [mapB_len] at hi
  rw [mapB_at hi, if_pos hi, getD_lt (d := default) (l := l.map B) (by simpa using hi), getD_lt _ hi]; simp
theorem curL_all {B : Block → Block} (l : List Func) : curL B l l.length = (passM B ⟨l⟩).funcs := by
  refine list_ext_getD default (by simp [curL, passM]) (fun i hi => ?_)
  rw [curL_len] at hi
  rw [curL_at hi, if_pos hi]
  simp only [passM]
  rw [getD_lt (d := default) (l := l.map _) (by simpa using hi), List.getElem_map, mapF, mapB_all, getD_lt _ hi]
theorem curL_zero {B : Block → Block} (l : List Func) : curL B l 0 = l := by
  refine list_ext_getD default (by simp [curL]) (fun i hi => ?_)
  rw [curL_len] at hi
  rw [curL_at hi, if_neg (Nat.not_lt_zero i)]
theorem GB_fun1 {src : Dv.Id → Option Dv.Id} {h h' : AHeap} {l : List Func} {c c' : Nat → AV} (hc : ∀ q, q < l.length → GV src h h' (c q) (c' q)) : GB src h h' (funR1 l c) (funR1 l c') :=
  GB.row (Nat.le_refl _) (fun q hq => .cons (.imm rfl) (.cons (.imm rfl) (.cons (hc q hq) .nil))) (fun e => by cases e)
def errM (m : Module) : Int := if rightB m = true then 0 else 1
def doneM (B : Block → Block) (m : Module) : Module := if rightB m = true then passM B m else m
end Go.Proofs.Ytmanpbgaihdalaa
namespace Go.Proofs.Ytmanpbgaihdalaa
open Go Dv
set_option maxRecDepth 10000
set_option linter.unusedSimpArgs false
theorem c_rInts (a b : List Int) : FC Try.prog 83 [ints a, ints b] (.bool (decide (a = b))) := by
  refine FC_intro tok Try.func83 rfl (by decide +kernel) (Nat.le_of_ble_eq_true rfl) ?_
  refine AWp_facts 0 (fun hl => ?_)
  have hl0 : a.length ≤ maxL := hl.1
  (repeat' first | refine AWp_seq ?_ | (refine AWp_reg tok (by rfl) ?_; conv => whnf) | refine AWp_block ?_ | (refine AWp_skip ?_; conv => whnf) | (refine AWp_ret ?_; conv => whnf) | refine AWp_cond rfl (fun hb => ?_) (fun hb => ?_))
  · refine ⟨_, rfl, Rel.bool ?_⟩
    symm; rw [decide_eq_false_iff_not]
    intro e; subst e; simp at hb
  have hlen : a.length = b.length := by simp at hb; omega
  clear hb
  refine AWp_loop (fun i : Nat => mkS [(0, ints a), (1, ints b), (5, iv i)] [])
    (fun i => i ≤ a.length ∧ ∀ j, j < i → a.getD j 0 = b.getD j 0) (fun i => a.length - i) 0 ⟨Nat.zero_le _, by simp⟩ ?_ ?_
  · refine Weak.list [] rfl (by rfl) ?_ .nil
    ((repeat' first | exact TLes.nil | refine TLes.cons (TLe.eq rfl) ?_); skip)
  rintro i ⟨hi2, hc⟩
  ((repeat' first | refine AWp_seq ?_ | (refine AWp_reg tok (by rfl) ?_; conv => whnf) | (refine AWp_any tok mix (by rfl) ?_; conv => whnf) | refine AWp_block ?_ | (refine AWp_skip ?_; conv => whnf) | (refine AWp_exit ?_; conv => whnf) | (refine AWp_ret ?_; conv => whnf) | refine AWp_cond rfl (fun hb => ?_) (fun hb => ?_) | (refine @And.intro (underG _ _ _ _) _ ?_ ?_; rotate_left; (conv => whnf); rotate_right)); all_goals (try ((guard_target = underG _ _ _ _); refine underG_none ?_; (all_goals (try simp only [underG, kz1, kz2, kz3, kz4, kz5, kz6, kz7, kz8, kz9, kz10, kz11, kz12, kz13, kz14, kz15, kz16, kz17, kz18, kz19, kz20, maxL, inn_iff] at *)); all_goals omega)))
  · have hlt : i < a.length := by rename_i h; simp only [underG, kz1, kz2, kz3, kz4, kz5, kz6, kz7, kz8, kz9, kz10, kz11, kz12, kz13, kz14, kz15, kz16, kz17, kz18, kz19, kz20, maxL, inn_iff] at *; omega
    refine ⟨_, rfl, Rel.bool ?_⟩
    symm; rw [decide_eq_false_iff_not]
    intro e; subst e; simp at hb
  · have hlt : i < a.length := by rename_i h; simp only [underG, kz1, kz2, kz3, kz4, kz5, kz6, kz7, kz8, kz9, kz10, kz11, kz12, kz13, kz14, kz15, kz16, kz17, kz18, kz19, kz20, maxL, inn_iff] at *; omega
    refine ⟨i + 1, ⟨hlt, fun j hj => ?_⟩, by omega, ?_⟩
    · by_cases e : j = i
      · subst e; simpa using hb
      · exact hc j (by omega)
    refine Weak.list [] rfl (by rfl) ?_ .nil
    ((repeat' first | exact TLes.nil | refine TLes.cons (TLe.eq rfl) ?_ | refine TLes.cons (TLe.int ?_) ?_); (all_goals first | ((try (simp only [underG, kz1, kz2, kz3, kz4, kz5, kz6, kz7, kz8, kz9, kz10, kz11, kz12, kz13, kz14, kz15, kz16, kz17, kz18, kz19, kz20, maxL, inn_iff] at *)); exact wrap64 (by omega) (by omega)) | skip))
  · refine ⟨_, rfl, Rel.bool ?_⟩
    symm; rw [decide_eq_true_eq]
    exact list_ext_getD 0 hlen (fun j hj => hc j (by simp only [underG, kz1, kz2, kz3, kz4, kz5, kz6, kz7, kz8, kz9, kz10, kz11, kz12, kz13, kz14, kz15, kz16, kz17, kz18, kz19, kz20, maxL, inn_iff] at *; omega))
theorem c_rSameIns (x y : Ins) : FC Try.prog 38 [.agg (encIns x), .agg (encIns y)] (.bool (decide (x = y))) := by
  refine FC_intro tok Try.func38 rfl (by decide +kernel) (Nat.le_of_ble_eq_true rfl) ?_
  (repeat' first | refine AWp_seq ?_ | (refine AWp_reg tok (by rfl) ?_; conv => whnf))
  refine .inl ⟨_, _, _, uG (QC.fc (c_rInts x.args y.args) rfl), ?_⟩
  conv => whnf
  (repeat' (refine AWp_ret ?_; conv => whnf))
  refine ⟨_, rfl, Rel.bool ?_⟩
  obtain ⟨a1, a2, a3, a4, a5, a6, a7⟩ := x
  obtain ⟨b1, b2, b3, b4, b5, b6, b7⟩ := y
  rw [Bool.eq_iff_iff]
  simp [and_assoc]
theorem c_rSameEnd (x y : End) : FC Try.prog 37 [.agg (encEnd x), .agg (encEnd y)] (.bool (decide (x = y))) := by
  refine FC_intro tok Try.func37 rfl (by decide +kernel) (Nat.le_of_ble_eq_true rfl) ?_
  (repeat' first | refine AWp_seq ?_ | (refine AWp_reg tok (by rfl) ?_; conv => whnf))
  refine .inl ⟨_, _, _, uG (QC.fc (c_rInts x.args y.args) rfl), ?_⟩
  conv => whnf
  (repeat' (refine AWp_ret ?_; conv => whnf))
  refine ⟨_, rfl, Rel.bool ?_⟩
  obtain ⟨a1, a2, a3, a4, a5, a6, a7, a8⟩ := x
  obtain ⟨b1, b2, b3, b4, b5, b6, b7, b8⟩ := y
  rw [Bool.eq_iff_iff]
  simp [and_assoc]
theorem c_rSamePad (x y : Pad) : FC Try.prog 65 [.agg (encPad x), .agg (encPad y)] (.bool (decide (x = y))) := by
  refine FC_intro tok Try.func65 rfl (by decide +kernel) (Nat.le_of_ble_eq_true rfl) ?_
  refine AWp_facts 0 (fun hl => ?_)
  have hl0 : x.catch_.length ≤ maxL := hl.2.1.1
  obtain ⟨a1, a2, a3, a4⟩ := x
  obtain ⟨b1, b2, b3, b4⟩ := y
  simp only at hl0
  (repeat' first | refine AWp_seq ?_ | (refine AWp_reg tok (by rfl) ?_; conv => whnf) | refine AWp_block ?_ | (refine AWp_skip ?_; conv => whnf) | (refine AWp_ret ?_; conv => whnf) | refine AWp_cond rfl (fun hb => ?_) (fun hb => ?_))
  · refine ⟨_, rfl, Rel.bool ?_⟩
    symm; rw [decide_eq_false_iff_not]
    intro e; cases e; simp at hb
  have hall : a1 = b1 ∧ a3 = b3 ∧ a4 = b4 ∧ a2.length = b2.length := by
    simp [and_assoc] at hb
    refine ⟨hb.1, hb.2.1, hb.2.2.1, ?_⟩
    have := hb.2.2.2; omega
  clear hb
  obtain ⟨rfl, rfl, rfl, hlen⟩ := hall
  refine AWp_loop (fun i : Nat => mkS [(2, .bp (2, 0, 0) 0), (3, .bp (3, 0, 0) 0), (5, iv i)] [((2, 0, 0), boxed (encPad ⟨a1, a2, a3, a4⟩)), ((3, 0, 0), boxed (encPad ⟨a1, b2, a3, a4⟩))])
    (fun i => i ≤ a2.length ∧ ∀ j, j < i → a2.getD j 0 = b2.getD j 0) (fun i => a2.length - i) 0 ⟨Nat.zero_le _, by simp⟩ ?_ ?_
  · refine Weak.list [((2, 0, 0), .old (2, 0, 0), boxed (encPad ⟨a1, a2, a3, a4⟩)), ((3, 0, 0), .old (3, 0, 0), boxed (encPad ⟨a1, b2, a3, a4⟩))] rfl (by rfl) ?_ (.old rfl (BLe.refl _) (.old rfl (BLe.refl _) .nil))
    ((repeat' first | exact TLes.nil | refine TLes.cons (TLe.eq rfl) ?_); skip)
  rintro i ⟨hi2, hc⟩
  ((repeat' first | refine AWp_seq ?_ | (refine AWp_reg tok (by rfl) ?_; conv => whnf) | (refine AWp_any tok mix (by rfl) ?_; conv => whnf) | refine AWp_block ?_ | (refine AWp_skip ?_; conv => whnf) | (refine AWp_exit ?_; conv => whnf) | (refine AWp_ret ?_; conv => whnf) | refine AWp_cond rfl (fun hb => ?_) (fun hb => ?_) | (refine @And.intro (underG _ _ _ _) _ ?_ ?_; rotate_left; (conv => whnf); rotate_right)); all_goals (try ((guard_target = underG _ _ _ _); refine underG_none ?_; (all_goals (try simp only [underG, kz1, kz2, kz3, kz4, kz5, kz6, kz7, kz8, kz9, kz10, kz11, kz12, kz13, kz14, kz15, kz16, kz17, kz18, kz19, kz20, maxL, inn_iff] at *)); all_goals omega)))
  · have hlt : i < a2.length := by rename_i h; simp only [underG, kz1, kz2, kz3, kz4, kz5, kz6, kz7, kz8, kz9, kz10, kz11, kz12, kz13, kz14, kz15, kz16, kz17, kz18, kz19, kz20, maxL, inn_iff] at *; omega
    refine ⟨_, rfl, Rel.bool ?_⟩
    symm; rw [decide_eq_false_iff_not]
    intro e; cases e; simp at hb
  · have hlt : i < a2.length := by rename_i h; simp only [underG, kz1, kz2, kz3, kz4, kz5, kz6, kz7, kz8, kz9, kz10, kz11, kz12, kz13, kz14, kz15, kz16, kz17, kz18, kz19, kz20, maxL, inn_iff] at *; omega
    refine ⟨i + 1, ⟨hlt, fun j hj => ?_⟩, by omega, ?_⟩
    · by_cases e : j = i
      · subst e; simpa using hb
      · exact hc j (by omega)
    refine Weak.list [((2, 0, 0), .old (2, 0, 0), boxed (encPad ⟨a1, a2, a3, a4⟩)), ((3, 0, 0), .old (3, 0, 0), boxed (encPad ⟨a1, b2, a3, a4⟩))] rfl (by rfl) ?_ (.old rfl (BLe.refl _) (.old rfl (BLe.refl _) .nil))
    ((repeat' first | exact TLes.nil | refine TLes.cons (TLe.eq rfl) ?_ | refine TLes.cons (TLe.int ?_) ?_); (all_goals first | ((try (simp only [underG, kz1, kz2, kz3, kz4, kz5, kz6, kz7, kz8, kz9, kz10, kz11, kz12, kz13, kz14, kz15, kz16, kz17, kz18, kz19, kz20, maxL, inn_iff] at *)); exact wrap64 (by omega) (by omega)) | skip))
  · refine ⟨_, rfl, Rel.bool ?_⟩
    symm; rw [decide_eq_true_eq]
    rw [list_ext_getD 0 hlen (fun j hj => hc j (by simp only [underG, kz1, kz2, kz3, kz4, kz5, kz6, kz7, kz8, kz9, kz10, kz11, kz12, kz13, kz14, kz15, kz16, kz17, kz18, kz19, kz20, maxL, inn_iff] at *; omega))]
theorem c_rSameFunc (x y : Func) : FC Try.prog 44 [.agg (encFunc x), .agg (encFunc y)] (.bool (decide (x = y))) := by
  refine FC_intro tok Try.func44 rfl (by decide +kernel) (Nat.le_of_ble_eq_true rfl) ?_
  refine AWp_facts 0 (fun hl => ?_)
  have hl0 : x.blocks.length ≤ maxL := hl.2.2.1.1
  have hl1 : ∀ i, i < x.blocks.length → (x.blocks.getD i default).ins.length ≤ maxL := fun i hi => (hl.2.2.1.2 i hi).2.2.2.2.2.1.1
  have hmx : maxL = 4294967296 := rfl
  clear hl
  obtain ⟨a1, a2, a3⟩ := x
  obtain ⟨b1, b2, b3⟩ := y
  simp only at hl0 hl1
  (repeat' first | refine AWp_seq ?_ | (refine AWp_reg tok (by rfl) ?_; conv => whnf) | refine AWp_block ?_ | (refine AWp_skip ?_; conv => whnf) | (refine AWp_ret ?_; conv => whnf) | refine AWp_cond rfl (fun hb => ?_) (fun hb => ?_))
  · refine ⟨_, rfl, Rel.bool ?_⟩
    symm; rw [decide_eq_false_iff_not]
    intro e; cases e; simp at hb
  have hall : a1 = b1 ∧ a2 = b2 ∧ a3.length = b3.length := by
    simp [and_assoc] at hb
    refine ⟨hb.1, hb.2.1, ?_⟩
    have := hb.2.2; omega
  clear hb
  obtain ⟨rfl, rfl, hlen⟩ := hall
  refine AWp_loop (fun i : Nat => mkS [(2, .bp (2, 0, 0) 0), (3, .bp (3, 0, 0) 0), (5, iv i)] [((2, 0, 0), boxed (encFunc ⟨a1, a2, a3⟩)), ((3, 0, 0), boxed (encFunc ⟨a1, a2, b3⟩))])
    (fun i => i ≤ a3.length ∧ ∀ j, j < i → a3.getD j default = b3.getD j default) (fun i => a3.length - i) 0 ⟨Nat.zero_le _, by simp⟩ ?_ ?_
  · refine Weak.list [((2, 0, 0), .old (2, 0, 0), boxed (encFunc ⟨a1, a2, a3⟩)), ((3, 0, 0), .old (3, 0, 0), boxed (encFunc ⟨a1, a2, b3⟩))] rfl (by rfl) ?_ (.old rfl (BLe.refl _) (.old rfl (BLe.refl _) .nil))
    ((repeat' first | exact TLes.nil | refine TLes.cons (TLe.eq rfl) ?_); skip)
  rintro i ⟨hi2, hc⟩
  ((repeat' ((fail_if_success (show AWp _ _ _ (Code.region 7 _ _) _ _)); first | refine AWp_seq ?_ | (refine AWp_reg tok (by rfl) ?_; conv => whnf) | (refine AWp_any tok mix (by rfl) ?_; conv => whnf) | refine AWp_block ?_ | (refine AWp_skip ?_; conv => whnf) | (refine AWp_exit ?_; conv => whnf) | (refine AWp_ret ?_; conv => whnf) | refine AWp_cond rfl (fun hb => ?_) (fun hb => ?_) | (refine @And.intro (underG _ _ _ _) _ ?_ ?_; rotate_left; (conv => whnf); rotate_right))); all_goals (try ((guard_target = underG _ _ _ _); refine underG_none ?_; (all_goals (try simp only [underG, kz1, kz2, kz3, kz4, kz5, kz6, kz7, kz8, kz9, kz10, kz11, kz12, kz13, kz14, kz15, kz16, kz17, kz18, kz19, kz20, maxL, inn_iff] at *)); all_goals omega)))
  · have hlt : i < a3.length := by simp only [decide_eq_true_eq] at hb; omega
    clear hb
    have hil := hl1 i hlt
    have hii : (i : Int).toNat = i := Int.toNat_natCast i
    have hgen : ∃ p, a3.getD i default = p := ⟨_, rfl⟩
    obtain ⟨p, hp⟩ := hgen
    have hgen : ∃ q, b3.getD i default = q := ⟨_, rfl⟩
    obtain ⟨q, hq⟩ := hgen
    refine AWp_weak (Weak.list (tl := [(2, .bp (2, 0, 0) 0), (3, .bp (3, 0, 0) 0), (5, iv i), (6, .bp (6, 0, 0) 0), (7, .bp (7, 0, 0) 0)]) [((2, 0, 0), .old (2, 0, 0), boxed (encFunc ⟨a1, a2, a3⟩)), ((3, 0, 0), .old (3, 0, 0), boxed (encFunc ⟨a1, a2, b3⟩)), ((6, 0, 0), .old (6, 0, 0), .row true 14 1 (fun _ => encBlock p)), ((7, 0, 0), .old (7, 0, 0), .row true 14 1 (fun _ => encBlock q))] rfl (by rfl) ?_ (.old rfl (BLe.refl _) (.old rfl (BLe.refl _) (.old rfl (BLe.rowW (Nat.le_refl _) (ltS (Wks.of (by rw [← hp]; rfl)) lt0)) (.old rfl (BLe.rowW (Nat.le_refl _) (ltS (Wks.of (by rw [← hq]; rfl)) lt0)) .nil))))) ?_
    · (repeat' first | exact TLes.nil | refine TLes.cons (TLe.eq rfl) ?_)
    have hne : p ≠ q → (⟨a1, a2, a3⟩ : Func) ≠ ⟨a1, a2, b3⟩ := fun h e => by cases e; exact h (hp.symm.trans hq)
    rw [hp] at hil
    (repeat' (refine AWp_reg tok (by rfl) ?_; conv => whnf))
    refine .inl ⟨_, _, _, uG (QC.fc (c_rSamePad p.pad q.pad) rfl), ?_⟩
    conv => whnf
    skip
    refine .inl ⟨_, _, _, uG (QC.fc (c_rSameEnd p.fin q.fin) rfl), ?_⟩
    conv => whnf
    (repeat' first | refine AWp_seq ?_ | (refine AWp_reg tok (by rfl) ?_; conv => whnf) | refine AWp_block ?_ | (refine AWp_skip ?_; conv => whnf) | (refine AWp_ret ?_; conv => whnf) | refine AWp_cond rfl (fun hb => ?_) (fun hb => ?_))
    · refine ⟨_, rfl, Rel.bool ?_⟩
      symm; rw [decide_eq_false_iff_not]
      refine hne (fun e => ?_)
      subst e; simp at hb
    have hall : p.landing = q.landing ∧ p.pad = q.pad ∧ p.fin = q.fin ∧ p.ins.length = q.ins.length := by
      simp [and_assoc] at hb
      refine ⟨hb.1, hb.2.1, hb.2.2.1, ?_⟩
      have := hb.2.2.2; omega
    clear hb
    obtain ⟨e1, e2, e3, e4⟩ := hall
    refine AWp_loop (fun k : Nat => mkS [(2, .bp (2, 0, 0) 0), (3, .bp (3, 0, 0) 0), (5, iv i), (6, .bp (6, 0, 0) 0), (7, .bp (7, 0, 0) 0), (8, iv k)] [((2, 0, 0), boxed (encFunc ⟨a1, a2, a3⟩)), ((3, 0, 0), boxed (encFunc ⟨a1, a2, b3⟩)), ((6, 0, 0), .row true 14 1 (fun _ => encBlock p)), ((7, 0, 0), .row true 14 1 (fun _ => encBlock q))])
      (fun k => k ≤ p.ins.length ∧ ∀ j, j < k → p.ins.getD j default = q.ins.getD j default) (fun k => p.ins.length - k) 0 ⟨Nat.zero_le _, by simp⟩ ?_ ?_
    · refine Weak.list [((2, 0, 0), .old (2, 0, 0), boxed (encFunc ⟨a1, a2, a3⟩)), ((3, 0, 0), .old (3, 0, 0), boxed (encFunc ⟨a1, a2, b3⟩)), ((6, 0, 0), .old (6, 0, 0), .row true 14 1 (fun _ => encBlock p)), ((7, 0, 0), .old (7, 0, 0), .row true 14 1 (fun _ => encBlock q))] rfl (by rfl) ?_ (.old rfl (BLe.refl _) (.old rfl (BLe.refl _) (.old rfl (BLe.refl _) (.old rfl (BLe.refl _) .nil))))
      ((repeat' first | exact TLes.nil | refine TLes.cons (TLe.eq rfl) ?_); skip)
    rintro k ⟨hk2, hc2⟩
    ((repeat' first | refine AWp_seq ?_ | (refine AWp_reg tok (by rfl) ?_; conv => whnf) | (refine AWp_any tok mix (by rfl) ?_; conv => whnf) | refine AWp_block ?_ | (refine AWp_skip ?_; conv => whnf) | (refine AWp_exit ?_; conv => whnf) | refine AWp_cond rfl (fun hb => ?_) (fun hb => ?_) | (refine @And.intro (underG _ _ _ _) _ ?_ ?_; rotate_left; (conv => whnf); rotate_right)); all_goals (try ((guard_target = underG _ _ _ _); refine underG_none ?_; (all_goals (try simp only [underG, kz1, kz2, kz3, kz4, kz5, kz6, kz7, kz8, kz9, kz10, kz11, kz12, kz13, kz14, kz15, kz16, kz17, kz18, kz19, kz20, maxL, inn_iff] at *)); all_goals omega)))
    · have hlt2 : k < p.ins.length := by simp only [underG, kz1, kz2, kz3, kz4, kz5, kz6, kz7, kz8, kz9, kz10, kz11, kz12, kz13, kz14, kz15, kz16, kz17, kz18, kz19, kz20, maxL, inn_iff] at *; omega
      refine .inl ⟨_, _, _, uG (QC.fc (c_rSameIns (p.ins.getD (k : Int).toNat default) (q.ins.getD (k : Int).toNat default)) rfl), ?_⟩
      conv => whnf
      (repeat' first | refine AWp_seq ?_ | (refine AWp_reg tok (by rfl) ?_; conv => whnf) | (refine AWp_skip ?_; conv => whnf) | (refine AWp_ret ?_; conv => whnf) | refine AWp_cond rfl (fun hb => ?_) (fun hb => ?_))
      · refine ⟨_, rfl, Rel.bool ?_⟩
        symm; rw [decide_eq_false_iff_not]
        refine hne (fun e => ?_)
        subst e; simp at hb
      · refine ⟨k + 1, ⟨hlt2, fun j hj => ?_⟩, by omega, ?_⟩
        · by_cases e : j = k
          · subst e; simpa using hb
          · exact hc2 j (by omega)
        refine Weak.list [((2, 0, 0), .old (2, 0, 0), boxed (encFunc ⟨a1, a2, a3⟩)), ((3, 0, 0), .old (3, 0, 0), boxed (encFunc ⟨a1, a2, b3⟩)), ((6, 0, 0), .old (6, 0, 0), .row true 14 1 (fun _ => encBlock p)), ((7, 0, 0), .old (7, 0, 0), .row true 14 1 (fun _ => encBlock q))] rfl (by rfl) ?_ (.old rfl (BLe.refl _) (.old rfl (BLe.refl _) (.old rfl (BLe.refl _) (.old rfl (BLe.refl _) .nil))))
        ((repeat' first | exact TLes.nil | refine TLes.cons (TLe.eq rfl) ?_ | refine TLes.cons (TLe.int ?_) ?_); (all_goals first | ((try (simp only [underG, kz1, kz2, kz3, kz4, kz5, kz6, kz7, kz8, kz9, kz10, kz11, kz12, kz13, kz14, kz15, kz16, kz17, kz18, kz19, kz20, maxL, inn_iff] at *)); exact wrap64 (by omega) (by omega)) | skip))
    · have hk3 : k = p.ins.length := by simp only [underG, kz1, kz2, kz3, kz4, kz5, kz6, kz7, kz8, kz9, kz10, kz11, kz12, kz13, kz14, kz15, kz16, kz17, kz18, kz19, kz20, maxL, inn_iff] at *; omega
      have hpq : p = q := by
        have e5 : p.ins = q.ins := list_ext_getD default e4 (fun j hj => hc2 j (by omega))
        obtain ⟨p1, p2, p3, p4⟩ := p
        obtain ⟨q1, q2, q3, q4⟩ := q
        simp only at e1 e2 e3 e5
        subst e1; subst e2; subst e3; subst e5; rfl
      refine ⟨i + 1, ⟨hlt, fun j hj => ?_⟩, by omega, ?_⟩
      · by_cases e : j = i
        · subst e; rw [hp, hq, hpq]
        · exact hc j (by omega)
      refine Weak.list [((2, 0, 0), .old (2, 0, 0), boxed (encFunc ⟨a1, a2, a3⟩)), ((3, 0, 0), .old (3, 0, 0), boxed (encFunc ⟨a1, a2, b3⟩))] rfl (by rfl) ?_ (.old rfl (BLe.refl _) (.old rfl (BLe.refl _) .nil))
      ((repeat' first | exact TLes.nil | refine TLes.cons (TLe.eq rfl) ?_ | refine TLes.cons (TLe.int ?_) ?_); (all_goals first | ((try (simp only [underG, kz1, kz2, kz3, kz4, kz5, kz6, kz7, kz8, kz9, kz10, kz11, kz12, kz13, kz14, kz15, kz16, kz17, kz18, kz19, kz20, maxL, inn_iff] at *)); exact wrap64 (by omega) (by omega)) | skip))
  · refine ⟨_, rfl, Rel.bool ?_⟩
    symm; rw [decide_eq_true_eq]
    rw [list_ext_getD default hlen (fun j hj => hc j (by simp only [underG, kz1, kz2, kz3, kz4, kz5, kz6, kz7, kz8, kz9, kz10, kz11, kz12, kz13, kz14, kz15, kz16, kz17, kz18, kz19, kz20, maxL, inn_iff] at *; omega))]
theorem c_rSame (x y : Module) : FC Try.prog 28 [.agg (encMod x), .agg (encMod y)] (.bool (decide (x = y))) := by
  refine FC_intro tok Try.func28 rfl (by decide +kernel) (Nat.le_of_ble_eq_true rfl) ?_
  refine AWp_facts 0 (fun hl => ?_)
  have hl0 : x.funcs.length ≤ maxL := hl.1.1
  have hmx : maxL = 4294967296 := rfl
  clear hl
  obtain ⟨a⟩ := x
  obtain ⟨b⟩ := y
  simp only at hl0
  (repeat' first | refine AWp_seq ?_ | (refine AWp_reg tok (by rfl) ?_; conv => whnf) | refine AWp_block ?_ | (refine AWp_skip ?_; conv => whnf) | (refine AWp_ret ?_; conv => whnf) | refine AWp_cond rfl (fun hb => ?_) (fun hb => ?_))
  · refine ⟨_, rfl, Rel.bool ?_⟩
    symm; rw [decide_eq_false_iff_not]
    intro e; cases e; simp at hb
  have hlen : a.length = b.length := by simp at hb; omega
  clear hb
  refine AWp_loop (fun i : Nat => mkS [(2, .bp (2, 0, 0) 0), (3, .bp (3, 0, 0) 0), (5, iv i)] [((2, 0, 0), boxed (encMod ⟨a⟩)), ((3, 0, 0), boxed (encMod ⟨b⟩))])
    (fun i => i ≤ a.length ∧ ∀ j, j < i → a.getD j default = b.getD j default) (fun i => a.length - i) 0 ⟨Nat.zero_le _, by simp⟩ ?_ ?_
  · refine Weak.list [((2, 0, 0), .old (2, 0, 0), boxed (encMod ⟨a⟩)), ((3, 0, 0), .old (3, 0, 0), boxed (encMod ⟨b⟩))] rfl (by rfl) ?_ (.old rfl (BLe.refl _) (.old rfl (BLe.refl _) .nil))
    ((repeat' first | exact TLes.nil | refine TLes.cons (TLe.eq rfl) ?_); skip)
  rintro i ⟨hi2, hc⟩
  ((repeat' first | refine AWp_seq ?_ | (refine AWp_reg tok (by rfl) ?_; conv => whnf) | (refine AWp_any tok mix (by rfl) ?_; conv => whnf) | refine AWp_block ?_ | (refine AWp_skip ?_; conv => whnf) | (refine AWp_exit ?_; conv => whnf) | (refine AWp_ret ?_; conv => whnf) | refine AWp_cond rfl (fun hb => ?_) (fun hb => ?_) | (refine @And.intro (underG _ _ _ _) _ ?_ ?_; rotate_left; (conv => whnf); rotate_right)); all_goals (try ((guard_target = underG _ _ _ _); refine underG_none ?_; (all_goals (try simp only [underG, kz1, kz2, kz3, kz4, kz5, kz6, kz7, kz8, kz9, kz10, kz11, kz12, kz13, kz14, kz15, kz16, kz17, kz18, kz19, kz20, maxL, inn_iff] at *)); all_goals omega)))
  · have hlt : i < a.length := by simp only [underG, kz1, kz2, kz3, kz4, kz5, kz6, kz7, kz8, kz9, kz10, kz11, kz12, kz13, kz14, kz15, kz16, kz17, kz18, kz19, kz20, maxL, inn_iff] at *; omega
    refine .inl ⟨_, _, _, uG (QC.fc (c_rSameFunc (a.getD (i : Int).toNat default) (b.getD (i : Int).toNat default)) rfl), ?_⟩
    conv => whnf
    (repeat' first | refine AWp_seq ?_ | (refine AWp_reg tok (by rfl) ?_; conv => whnf) | (refine AWp_skip ?_; conv => whnf) | (refine AWp_ret ?_; conv => whnf) | refine AWp_cond rfl (fun hb => ?_) (fun hb => ?_))
    · refine ⟨_, rfl, Rel.bool ?_⟩
      symm; rw [decide_eq_false_iff_not]
      intro e; cases e; simp at hb
    · refine ⟨i + 1, ⟨hlt, fun j hj => ?_⟩, by omega, ?_⟩
      · by_cases e : j = i
        · subst e; simpa using hb
        · exact hc j (by omega)
      refine Weak.list [((2, 0, 0), .old (2, 0, 0), boxed (encMod ⟨a⟩)), ((3, 0, 0), .old (3, 0, 0), boxed (encMod ⟨b⟩))] rfl (by rfl) ?_ (.old rfl (BLe.refl _) (.old rfl (BLe.refl _) .nil))
      ((repeat' first | exact TLes.nil | refine TLes.cons (TLe.eq rfl) ?_ | refine TLes.cons (TLe.int ?_) ?_); (all_goals first | ((try (simp only [underG, kz1, kz2, kz3, kz4, kz5, kz6, kz7, kz8, kz9, kz10, kz11, kz12, kz13, kz14, kz15, kz16, kz17, kz18, kz19, kz20, maxL, inn_iff] at *)); exact wrap64 (by omega) (by omega)) | skip))
  · refine ⟨_, rfl, Rel.bool ?_⟩
    symm; rw [decide_eq_true_eq]
    rw [list_ext_getD default hlen (fun j hj => hc j (by simp only [underG, kz1, kz2, kz3, kz4, kz5, kz6, kz7, kz8, kz9, kz10, kz11, kz12, kz13, kz14, kz15, kz16, kz17, kz18, kz19, kz20, maxL, inn_iff] at *; omega))]
end Go.Proofs.Ytmanpbgaihdalaa
namespace Go.Proofs.Ytmanpbgaihdalaa
open Go Dv
set_option maxRecDepth 10000
set_option linter.unusedSimpArgs false
def setB (m : Module) (n k : Nat) (b : Block) : Module := ⟨m.funcs.set n { (m.funcs.getD n default) with blocks := (m.funcs.getD n default).blocks.set k b }⟩
theorem c_with (m : Module) (n k : Nat) (b : Block) (hn : n < m.funcs.length) (hk : k < (m.funcs.getD n default).blocks.length) : FC Try.prog 120 [.agg (encMod m), iv n, iv k, .agg (encBlock b)] (.agg (encMod (setB m n k b))) := by
  refine FC_intro tok Try.func120 rfl (by decide +kernel) (Nat.le_of_ble_eq_true rfl) ?_
  refine AWp_facts 0 (fun hl => ?_)
  have hl0 : m.funcs.length ≤ maxL := hl.1.1
  have hl1 : (m.funcs.getD n default).blocks.length ≤ maxL := (hl.1.2 n hn).2.2.1.1
  have hmx : maxL = 4294967296 := rfl
  clear hl
  have hz : 0 + (n : Int).toNat = n := by simp
  have hzk : 0 + (k : Int).toNat = k := by simp
  ((repeat' ((fail_if_success (show AWp _ _ _ (Code.region 5 _ _) _ _)); first | refine AWp_seq ?_ | (refine AWp_reg tok (by rfl) ?_; conv => whnf) | (refine @And.intro (underG _ _ _ _) _ ?_ ?_; rotate_left; (conv => whnf); rotate_right))); all_goals (try ((guard_target = underG _ _ _ _); refine underG_none ?_; (first | refine And.intro srcObl_sl ?_ | skip); (all_goals (try simp only [underG, kz1, kz2, kz3, kz4, kz5, kz6, kz7, kz8, kz9, kz10, kz11, kz12, kz13, kz14, kz15, kz16, kz17, kz18, kz19, kz20, maxL, inn_iff] at *)); all_goals omega)))
  · refine underG_none (And.intro srcObl_sl ?_)
    show 0 ≤ 0 ∧ 0 + (m.funcs.getD (0 + (n : Int).toNat - 0) default).blocks.length ≤ maxL
    rw [Nat.sub_zero, hz, Nat.zero_add]; exact ⟨Nat.le_refl _, hl1⟩
  · refine underG_none ?_
    show (0 : Int) ≤ k ∧ (k : Int) < ((0 + (m.funcs.getD (0 + (n : Int).toNat - 0) default).blocks.length : Nat) : Int)
    rw [Nat.sub_zero, hz, Nat.zero_add]; omega
  refine AWp_weak (Weak.fam (tl := [(4, .bp (4, 0, 0) 0), (8, .bp (8, 0, 0) 0), (9, funcss (setB m n k b).funcs)]) (hl := [((4, 0, 0), .row true 1 1 (fun _ => encMod m)), ((8, 0, 0), boxed [.nsl])]) (F := noH) [] rfl (fun i hi => by cases hi)
    (.cons (.bp rfl rfl) (.cons (.bp rfl rfl) (.cons ?_ .nil))) (.old rfl rfl (GB.one (GVs.imm rfl) (fun _ => rfl)) (.old rfl rfl (GB.one (GVs.imm rfl) (fun _ => rfl)) .nil)) noF (fun i hi => by cases hi)) ?_
  · refine GV.frz (hd_no rfl) rfl (Nat.le_of_eq (Nat.zero_add _)) (by simp [setB]) (fun x hx => GVs.upd (fun e => ?_) (fun e => GVs.eqI rfl ?_)) (fun x hx => rfl)
    · rw [Nat.zero_add, hz] at e; subst e
      have h1 : (setB m x k b).funcs.getD x default = { (m.funcs.getD x default) with blocks := (m.funcs.getD x default).blocks.set k b } := by simp only [setB]; rw [getD_set, if_pos ⟨rfl, hn⟩]
      rw [h1]
      refine .cons (GV.int (by simp)) (.cons (GV.int (by simp)) (.cons (GV.frz (hd_no rfl) rfl (Nat.le_of_eq (Nat.zero_add _)) (by simp) (fun y hy => GVs.upd (fun e => ?_) (fun e => GVs.eqI rfl ?_)) (fun _ _ => rfl)) .nil))
      · rw [Nat.zero_add, hzk] at e; subst e
        rw [getD_set, if_pos ⟨rfl, hk⟩]
        exact GVs.imm rfl
      · rw [getD_set, if_neg (fun h => e (by rw [Nat.zero_add, hzk]; exact h.1.symm))]
        show encBlock ((m.funcs.getD _ default).blocks.getD _ default) = _
        simp
    · have h1 : (setB m n k b).funcs.getD x default = m.funcs.getD x default := by
        simp only [setB]; rw [getD_set, if_neg (fun h => e (by rw [Nat.zero_add, hz]; exact h.1.symm))]
      rw [h1]
      show encFunc (m.funcs.getD _ default) = _
      simp
  (repeat' first | refine AWp_seq ?_ | (refine AWp_reg tok (by rfl) ?_; conv => whnf) | (refine AWp_ret ?_; conv => whnf))
  exact ⟨_, rfl, Rel.agg (Rels.imm rfl)⟩
theorem c_With (m : Module) (n k : Nat) (b : Block) (hn : n < m.funcs.length) (hk : k < (m.funcs.getD n default).blocks.length) : FC Try.prog 81 [.agg (encMod m), iv n, iv k, .agg (encBlock b)] (.agg (encMod (setB m n k b))) := by
  refine FC_intro tok Try.func81 rfl (by decide +kernel) (Nat.le_of_ble_eq_true rfl) ?_
  (repeat' first | refine AWp_seq ?_ | (refine AWp_reg tok (by rfl) ?_; conv => whnf))
  refine .inl ⟨_, _, _, uG (QC.fc (c_with m n k b hn hk) rfl), ?_⟩
  conv => whnf
  (repeat' (refine AWp_ret ?_; conv => whnf))
  exact ⟨_, rfl, Rel.agg (Rels.imm rfl)⟩
end Go.Proofs.Ytmanpbgaihdalaa
namespace Go.Proofs.Ytmanpbgaihdalaa
open Go Dv
set_option linter.unusedSimpArgs false
def setsP (x : Ins) (p : Int) : Prop := x.op ≠ 10 ∧ x.op ≠ 12 ∧ x.dst = p
instance (x : Ins) (p : Int) : Decidable (setsP x p) := by unfold setsP; infer_instance
def alikeP (x y : Ins) : Prop := x.op = y.op ∧ 3 ≤ x.op ∧ x.op ≤ 8 ∧ ((x.a = y.a ∧ x.b = y.b) ∨ ((x.op = 3 ∨ x.op = 5 ∨ x.op = 7) ∧ x.a = y.b ∧ x.b = y.a))
instance (x y : Ins) : Decidable (alikeP x y) := by unfold alikeP; infer_instance
def keptAt (l : List Ins) (i k : Nat) : Prop := ¬ setsP (l.getD k default) (l.getD i default).a ∧ ¬ setsP (l.getD k default) (l.getD i default).b ∧ (i < k → ¬ setsP (l.getD k default) (l.getD i default).dst)
instance (l : List Ins) (i k : Nat) : Decidable (keptAt l i k) := by unfold keptAt; infer_instance
def keptP (l : List Ins) (i : Nat) : Prop := ∀ k, k < l.length → i ≤ k → keptAt l i k
instance (l : List Ins) (i : Nat) : Decidable (keptP l i) := by unfold keptP; infer_instance
theorem twoO_iff {op : Int} : twoO op = true ↔ 3 ≤ op ∧ op ≤ 8 := by
  unfold twoO; cases h : decide (2 < op) <;> simp at h ⊢ <;> omega
theorem hit_of {x : Ins} {p v : Int} : hit p ((ofD x).l, v) = true ↔ x.a = p ∨ x.b = p ∨ v = p := by
  unfold hit ofD Deed.l
  split <;> simp [or_assoc] <;> omega
theorem mlook_mem {m : Mp} {k : List Int} {v : Int} (h : mlook m k = some v) : (k, v) ∈ m := by
  induction m with
  | nil => cases h
  | cons q r ih =>
    obtain ⟨a, b⟩ := q
    simp only [mlook] at h
    split at h
    · rename_i e; subst e; cases h; simp
    · exact List.mem_cons_of_mem _ (ih h)
theorem mem_mlook {m : Mp} (hn : (m.map (·.1)).Nodup) {k : List Int} {v : Int} (h : (k, v) ∈ m) : mlook m k = some v := by
  induction m with
  | nil => cases h
  | cons q r ih =>
    obtain ⟨a, b⟩ := q
    simp only [List.map_cons, List.nodup_cons] at hn
    simp only [mlook]
    rcases List.mem_cons.1 h with e | e
    · cases e; simp
    · split
      · rename_i e2; subst e2; exact absurd (List.mem_map.2 ⟨_, e, rfl⟩) hn.1
      · exact ih hn.2 e
theorem mlook_forget {m : Mp} (hn : (m.map (·.1)).Nodup) {p : Int} {k : List Int} {v : Int} : mlook (forgetM m p) k = some v ↔ mlook m k = some v ∧ hit p (k, v) = false := by
  have hn2 : ((forgetM m p).map (·.1)).Nodup := by
    unfold forgetM
    exact (List.Sublist.map _ List.filter_sublist).nodup hn
  constructor
  · intro h
    have := mlook_mem h
    unfold forgetM at this
    rw [List.mem_filter] at this
    exact ⟨mem_mlook hn this.1, by simpa using this.2⟩
  · rintro ⟨h1, h2⟩
    refine mem_mlook hn2 ?_
    unfold forgetM
    rw [List.mem_filter]
    exact ⟨mlook_mem h1, by simp [h2]⟩
theorem mlook_mput {m : Mp} {k k' : List Int} {v : Int} : mlook (mput m k v) k' = if k = k' then some v else mlook m k' := by
  induction m with
  | nil => simp [mput, mlook]
  | cons q r ih =>
    obtain ⟨a, b⟩ := q
    simp only [mput]
    by_cases e : a = k
    · subst e
      simp only [if_true, mlook]
      by_cases e2 : a = k'
      · simp [e2]
      · simp [e2]
    · simp only [if_neg e, mlook]
      by_cases e2 : a = k'
      · subst e2; simp; exact fun h => absurd h.symm e
      · simp only [if_neg e2]; exact ih
theorem mem_mput {m : Mp} {k : List Int} {v : Int} {q : List Int × Int} (h : q ∈ mput m k v) : q = (k, v) ∨ q ∈ m := by
  induction m with
  | nil => simp [mput] at h; exact .inl h
  | cons p r ih =>
    obtain ⟨a, b⟩ := p
    simp only [mput] at h
    split at h
    · rcases List.mem_cons.1 h with h | h
      · exact .inl h
      · exact .inr (List.mem_cons_of_mem _ h)
    · rcases List.mem_cons.1 h with h | h
      · exact .inr (h ▸ List.mem_cons_self)
      · rcases ih h with h | h
        · exact .inl h
        · exact .inr (List.mem_cons_of_mem _ h)
theorem mput_keys {m : Mp} {k : List Int} {v : Int} (hn : (m.map (·.1)).Nodup) : ((mput m k v).map (·.1)).Nodup := by
  induction m with
  | nil => simp [mput]
  | cons q r ih =>
    obtain ⟨a, b⟩ := q
    simp only [List.map_cons, List.nodup_cons] at hn
    simp only [mput]
    by_cases e : a = k
    · subst e; simp only [if_true, List.map_cons, List.nodup_cons]; exact hn
    · simp only [if_neg e, List.map_cons, List.nodup_cons]
      refine ⟨fun h => ?_, ih hn.2⟩
      rw [List.mem_map] at h
      obtain ⟨⟨c, d⟩, h1, h2⟩ := h
      simp only at h2; subst h2
      rcases mem_mput h1 with h3 | h3
      · cases h3; exact e rfl
      · exact hn.1 (List.mem_map.2 ⟨_, h3, rfl⟩)
theorem snoc_lt {l : List Ins} {y : Ins} {k : Nat} (h : k < l.length) : (l ++ [y]).getD k default = l.getD k default := by rw [getD_append, if_pos h]
theorem snoc_eq {l : List Ins} {y : Ins} : (l ++ [y]).getD l.length default = y := by rw [getD_append, if_neg (Nat.lt_irrefl _), Nat.sub_self]; rfl
theorem kept_old {l : List Ins} {y : Ins} {i : Nat} (hi : i < l.length) : keptP (l ++ [y]) i ↔ keptP l i ∧ ¬ setsP y (l.getD i default).a ∧ ¬ setsP y (l.getD i default).b ∧ ¬ setsP y (l.getD i default).dst := by
  constructor
  · intro h
    refine ⟨fun k hk hik => ?_, ?_⟩
    · have := h k (by simp; omega) hik
      unfold keptAt at this ⊢
      rw [snoc_lt hk, snoc_lt hi] at this; exact this
    · have := h l.length (by simp) (by omega)
      unfold keptAt at this
      rw [snoc_eq, snoc_lt hi] at this
      exact ⟨this.1, this.2.1, this.2.2 hi⟩
  · rintro ⟨h1, h2, h3, h4⟩ k hk hik
    unfold keptAt
    by_cases e : k < l.length
    · have := h1 k e hik
      unfold keptAt at this
      rw [snoc_lt e, snoc_lt hi]; exact this
    · have : k = l.length := by simp at hk; omega
      subst this
      rw [snoc_eq, snoc_lt hi]; exact ⟨h2, h3, fun _ => h4⟩
theorem kept_new {l : List Ins} {y : Ins} : keptP (l ++ [y]) l.length ↔ ¬ setsP y y.a ∧ ¬ setsP y y.b := by
  constructor
  · intro h
    have := h l.length (by simp) (Nat.le_refl _)
    unfold keptAt at this
    rw [snoc_eq] at this; exact ⟨this.1, this.2.1⟩
  · rintro ⟨h1, h2⟩ k hk hik
    have : k = l.length := by simp at hk; omega
    subst this
    unfold keptAt
    rw [snoc_eq]; exact ⟨h1, h2, fun h => absurd h (Nat.lt_irrefl _)⟩
structure PInv (l : List Ins) (m : Mp) : Prop where
  nd : (m.map (·.1)).Nodup
  fwd : ∀ key v, mlook m key = some v → ∃ k, k < l.length ∧ keptP l k ∧ twoO (l.getD k default).op = true ∧ (ofD (l.getD k default)).l = key ∧ (l.getD k default).dst = v
  bwd : ∀ k, k < l.length → keptP l k → twoO (l.getD k default).op = true → mlook m (ofD (l.getD k default)).l = some (l.getD k default).dst
theorem PInv.step {l : List Ins} {m : Mp} (h : PInv l m) (x : Ins) : PInv (l ++ [sameY m x]) (sameM m x) := by
  generalize hy : sameY m x = y
  have hset : ∀ p, setsP y p ↔ ¬ (y.op = 10 ∨ y.op = 12) ∧ y.dst = p := fun p => by unfold setsP; omega
  have htwo : twoO y.op = true → y = x ∧ twoO x.op = true ∧ mlook m (ofD x).l = none := fun ht => by
    unfold sameY at hy
    split at hy
    · subst hy; simp [twoO] at ht
    · rename_i hh
      subst hy
      refine ⟨rfl, ht, ?_⟩
      unfold sameHit at hh
      rw [ht] at hh
      cases hm : mlook m (ofD x).l with
      | none => rfl
      | some v => rw [hm] at hh; simp at hh
  unfold sameM
  rw [hy]
  by_cases h10 : y.op = 10 ∨ y.op = 12
  · rw [if_pos h10]
    have hno : ∀ p, ¬ setsP y p := fun p hp => ((hset p).1 hp).1 h10
    refine ⟨h.nd, fun key v hv => ?_, fun k hk hkp ht => ?_⟩
    · obtain ⟨k, h1, h2, h3, h4, h5⟩ := h.fwd key v hv
      exact ⟨k, by simp; omega, (kept_old h1).2 ⟨h2, hno _, hno _, hno _⟩, by rw [snoc_lt h1]; exact h3, by rw [snoc_lt h1]; exact h4, by rw [snoc_lt h1]; exact h5⟩
    · by_cases e : k < l.length
      · rw [snoc_lt e] at ht ⊢
        exact h.bwd k e ((kept_old e).1 hkp).1 ht
      · have : k = l.length := by simp at hk; omega
        subst this
        rw [snoc_eq, twoO_iff] at ht
        omega
  · rw [if_neg h10]
    have hset2 : ∀ p, setsP y p ↔ y.dst = p := fun p => by rw [hset]; exact ⟨fun a => a.2, fun a => ⟨h10, a⟩⟩
    have hnf : ((forgetM m y.dst).map (·.1)).Nodup := by
      unfold forgetM; exact (List.Sublist.map _ List.filter_sublist).nodup h.nd
    have old1 : ∀ key v, mlook (forgetM m y.dst) key = some v → ∃ k, k < (l ++ [y]).length ∧ keptP (l ++ [y]) k ∧ twoO ((l ++ [y]).getD k default).op = true ∧ (ofD ((l ++ [y]).getD k default)).l = key ∧ ((l ++ [y]).getD k default).dst = v := fun key v hv => by
      obtain ⟨h0, hh⟩ := (mlook_forget h.nd).1 hv
      obtain ⟨k, h1, h2, h3, h4, h5⟩ := h.fwd key v h0
      have h6 : ¬ ((l.getD k default).a = y.dst ∨ (l.getD k default).b = y.dst ∨ v = y.dst) := fun e => by
        have := hit_of.2 e
        rw [h4, hh] at this; cases this
      exact ⟨k, by simp; omega, (kept_old h1).2 ⟨h2, fun e => h6 (.inl ((hset2 _).1 e).symm), fun e => h6 (.inr (.inl ((hset2 _).1 e).symm)), fun e => h6 (.inr (.inr (by rw [← h5]; exact ((hset2 _).1 e).symm)))⟩, by rw [snoc_lt h1]; exact h3, by rw [snoc_lt h1]; exact h4, by rw [snoc_lt h1]; exact h5⟩
    have old2 : ∀ k, k < l.length → keptP (l ++ [y]) k → twoO (l.getD k default).op = true → mlook m (ofD (l.getD k default)).l = some (l.getD k default).dst ∧ mlook (forgetM m y.dst) (ofD (l.getD k default)).l = some (l.getD k default).dst := fun k e hkp ht => by
      obtain ⟨h1, h2, h3, h4⟩ := (kept_old e).1 hkp
      have h5 := h.bwd k e h1 ht
      refine ⟨h5, (mlook_forget h.nd).2 ⟨h5, ?_⟩⟩
      rw [Bool.eq_false_iff]
      intro hh
      rw [hset2] at h2 h3 h4
      rcases hit_of.1 hh with e1 | e1 | e1
      · exact h2 e1.symm
      · exact h3 e1.symm
      · exact h4 e1.symm
    by_cases hput : sameOk m x = true ∧ y.dst ≠ (ofD x).a ∧ y.dst ≠ (ofD x).b
    · rw [if_pos hput]
      obtain ⟨hok, hna, hnb⟩ := hput
      unfold sameOk at hok
      rw [Bool.and_eq_true] at hok
      have hnone : mlook m (ofD x).l = none := by
        cases hm : mlook m (ofD x).l with
        | none => rfl
        | some v => rw [hm] at hok; simp at hok
      have hyx : y = x := by
        unfold sameY sameHit at hy
        rw [hok.1, hnone] at hy; simpa using hy.symm
      subst hyx
      have hab : y.dst ≠ y.a ∧ y.dst ≠ y.b := by
        unfold ofD at hna hnb
        split at hna <;> simp_all
      refine ⟨mput_keys hnf, fun key v hv => ?_, fun k hk hkp ht => ?_⟩
      · rw [mlook_mput] at hv
        split at hv
        · rename_i e
          cases hv
          exact ⟨l.length, by simp, kept_new.2 ⟨fun e => hab.1 ((hset2 _).1 e), fun e => hab.2 ((hset2 _).1 e)⟩, by rw [snoc_eq]; exact hok.1, by rw [snoc_eq]; exact e, by rw [snoc_eq]⟩
        · exact old1 key v hv
      · by_cases e : k < l.length
        · rw [snoc_lt e] at ht ⊢
          obtain ⟨a1, a2⟩ := old2 k e hkp ht
          rw [mlook_mput, if_neg (fun e2 => by rw [← e2, hnone] at a1; cases a1)]
          exact a2
        · have : k = l.length := by simp at hk; omega
          subst this
          rw [snoc_eq, mlook_mput, if_pos rfl]
    · rw [if_neg hput]
      refine ⟨hnf, old1, fun k hk hkp ht => ?_⟩
      by_cases e : k < l.length
      · rw [snoc_lt e] at ht ⊢
        exact (old2 k e hkp ht).2
      · exfalso
        have : k = l.length := by simp at hk; omega
        subst this
        rw [snoc_eq] at ht
        obtain ⟨rfl, h1, h2⟩ := htwo ht
        obtain ⟨h3, h4⟩ := kept_new.1 hkp
        rw [hset2] at h3 h4
        refine hput ⟨by unfold sameOk; rw [h1, h2]; rfl, ?_, ?_⟩
        · unfold ofD; split <;> simp <;> first | exact h4 | exact h3
        · unfold ofD; split <;> simp <;> first | exact h3 | exact h4
theorem PInv.nil : PInv [] [] := ⟨List.nodup_nil, (fun _ _ h => by cases h), (fun k hk => by simp at hk)⟩
end Go.Proofs.Ytmanpbgaihdalaa
namespace Go.Proofs.Ytmanpbgaihdalaa
open Go Dv
set_option maxRecDepth 10000
set_option linter.unusedSimpArgs false
end Go.Proofs.Ytmanpbgaihdalaa
namespace Go.Proofs.Ytmanpbgaihdalaa
open Go Dv
set_option maxRecDepth 10000
set_option linter.unusedSimpArgs false
def curS (B : Block → Block) (l : List Func) (n k : Nat) : List Func := (List.range l.length).map fun j => if j < n then mapF B (l.getD j default) (l.getD j default).blocks.length else if j = n then mapF B (l.getD j default) k else l.getD j default
theorem curS_len {B : Block → Block} (l : List Func) (n k : Nat) : (curS B l n k).length = l.length := by simp [curS]
theorem curS_at {B : Block → Block} {l : List Func} {n k q : Nat} (h : q < l.length) : (curS B l n k).getD q default = if q < n then mapF B (l.getD q default) (l.getD q default).blocks.length else if q = n then mapF B (l.getD q default) k else l.getD q default := range_getD _ _ h
theorem curS_n {B : Block → Block} {l : List Func} {n k : Nat} (h : n < l.length) : (curS B l n k).getD n default = mapF B (l.getD n default) k := by rw [curS_at h, if_neg (Nat.lt_irrefl n), if_pos rfl]
theorem mapB_zero {B : Block → Block} (l : List Block) : mapB B l 0 = l := by
  refine list_ext_getD default (by simp [mapB]) (fun i hi => ?_)
  rw [mapB_len] at hi
  rw [mapB_at hi, if_neg (Nat.not_lt_zero i)]
theorem mapF_zero {B : Block → Block} (f : Func) : mapF B f 0 = f := by unfold mapF; rw [mapB_zero]
theorem curS_zero {B : Block → Block} (l : List Func) (n : Nat) : curS B l n 0 = curL B l n := by
  refine list_ext_getD default (by simp [curS, curL]) (fun i hi => ?_)
  rw [curS_len] at hi
  rw [curS_at hi, curL_at hi, mapF_zero]
  split
  · rfl
  · split <;> rfl
theorem curS_full {B : Block → Block} {l : List Func} {n : Nat} : curS B l n (l.getD n default).blocks.length = curS B l (n + 1) 0 := by
  refine list_ext_getD default (by simp [curS]) (fun i hi => ?_)
  rw [curS_len] at hi
  rw [curS_at hi, curS_at hi, mapF_zero]
  by_cases h1 : i < n
  · rw [if_pos h1, if_pos (by omega)]
  · rw [if_neg h1]
    by_cases h2 : i = n
    · subst h2; rw [if_pos rfl, if_pos (by omega)]
    · rw [if_neg h2, if_neg (by omega)]; split <;> rfl
theorem setB_cur {B : Block → Block} {l : List Func} {n k : Nat} (hn : n < l.length) (hk : k < (l.getD n default).blocks.length) : setB ⟨curS B l n k⟩ n k (B ((l.getD n default).blocks.getD k default)) = ⟨curS B l n (k + 1)⟩ := by
  unfold setB
  congr 1
  refine list_ext_getD default (by simp [curS]) (fun i hi => ?_)
  simp only [List.length_set, curS_len] at hi
  simp only [getD_set]
  rw [curS_len, curS_n hn]
  by_cases h2 : n = i
  · subst h2
    rw [if_pos ⟨rfl, hn⟩, curS_n hn]
    simp only [mapF]
    congr 1
    refine list_ext_getD default (by simp [mapB]) (fun q hq => ?_)
    simp only [List.length_set, mapB_len] at hq
    rw [getD_set, mapB_len, mapB_at hq, mapB_at hq]
    by_cases h3 : k = q
    · subst h3; rw [if_pos ⟨rfl, hk⟩, if_pos (by omega)]
    · rw [if_neg (fun e => h3 e.1)]
      by_cases h4 : q < k
      · rw [if_pos h4, if_pos (by omega)]
      · rw [if_neg h4, if_neg (by omega)]
  · rw [if_neg (fun e => h2 e.1), curS_at hi, curS_at hi]
    by_cases h1 : i < n
    · rw [if_pos h1, if_pos h1]
    · rw [if_neg h1, if_neg h1, if_neg (fun e => h2 e.symm), if_neg (fun e => h2 e.symm)]
end Go.Proofs.Ytmanpbgaihdalaa
namespace Go.Proofs.Ytmanpbgaihdalaa
open Go Dv
def leL (a b : List Bool) : Prop := ∀ i, a.getD i false = true → b.getD i false = true
theorem leL.refl (a : List Bool) : leL a a := fun _ h => h
theorem leL.trans {a b c : List Bool} (h : leL a b) (k : leL b c) : leL a c := fun i e => k i (h i e)
def cnt (a : List Bool) : Nat := a.count true
theorem cnt_le {a : List Bool} : cnt a ≤ a.length := List.count_le_length
theorem cnt_mono : ∀ {a b : List Bool}, a.length = b.length → leL a b → cnt a ≤ cnt b ∧ (cnt b ≤ cnt a → a = b)
  | [], [], _, _ => ⟨Nat.le_refl _, fun _ => rfl⟩
  | x :: a, y :: b, hl, h => by
      have hl' : a.length = b.length := by simpa using hl
      have h' : leL a b := fun i e => by have := h (i + 1) (by simpa using e); simpa using this
      have h0 : x = true → y = true := fun e => by have := h 0 (by simpa using e); simpa using this
      obtain ⟨h1, h2⟩ := cnt_mono hl' h'
      unfold cnt at h1 h2 ⊢
      cases x <;> cases y
      · refine ⟨by simpa using h1, fun k => ?_⟩
        rw [h2 (by simpa using k)]
      · refine ⟨by simp; omega, fun k => ?_⟩
        simp at k; omega
      · exact absurd (h0 rfl) (by simp)
      · refine ⟨by simpa using h1, fun k => ?_⟩
        rw [h2 (by simpa using k)]
theorem set_get {a : List Bool} {n i : Nat} (hn : n < a.length) : (a.set n true).getD i false = (decide (n = i) || a.getD i false) := by
  rw [getD_set]
  by_cases h : n = i
  · subst h; simp [hn]
  · simp [h]
theorem leL_set (a : List Bool) (n : Nat) : leL a (a.set n true) := fun i h => by
  by_cases hn : n < a.length
  · rw [set_get hn, h]; simp
  · rw [List.set_eq_of_length_le (by omega)]; exact h
theorem cnt_set {a : List Bool} {n : Nat} (hn : n < a.length) (h : a.getD n false = false) : cnt a < cnt (a.set n true) := by
  rcases Nat.lt_or_ge (cnt a) (cnt (a.set n true)) with k | k
  · exact k
  · have := (cnt_mono (by simp) (leL_set a n)).2 k
    rw [this, set_get hn] at h; simp at h
section
variable (len : Nat) (D : Nat → List Bool → Bool)
def MonoD : Prop := ∀ n a b, leL a b → D n a = true → D n b = true
structure Closed (a : List Bool) : Prop where
  sz : a.length = len
  cl : ∀ n, n < len → D n a = true → a.getD n false = true
def Beneath (a : List Bool) : Prop := ∀ c, Closed len D c → leL a c
def nxt (a : List Bool) : List Bool := (List.range len).map fun n => a.getD n false || D n a
def iterN : Nat → List Bool → List Bool
  | 0, a => a
  | k + 1, a => iterN k (nxt len D a)
def lfp : List Bool := iterN len D (len + 1) (List.replicate len false)
variable {len D}
theorem nxt_len (a : List Bool) : (nxt len D a).length = len := by simp [nxt]
theorem nxt_get (a : List Bool) {i : Nat} (hi : i < len) : (nxt len D a).getD i false = (a.getD i false || D i a) := by simp [nxt, List.getD_eq_getElem?_getD, hi]
theorem getD_ge {a : List Bool} {i : Nat} (h : a.length ≤ i) : a.getD i false = false := by simp [List.getD_eq_getElem?_getD, h]
theorem nxt_le {a : List Bool} (hl : a.length = len) : leL a (nxt len D a) := fun i h => by
  by_cases hi : i < len
  · rw [nxt_get a hi, h]; rfl
  · rw [getD_ge (by omega)] at h; cases h
theorem nxt_beneath (hD : MonoD D) {a : List Bool} (h : Beneath len D a) : Beneath len D (nxt len D a) := fun c hc i e => by
  by_cases hi : i < len
  · rw [nxt_get a hi, Bool.or_eq_true] at e
    rcases e with e | e
    · exact h c hc i e
    · exact hc.cl i hi (hD i a c (h c hc) e)
  · rw [getD_ge (by rw [nxt_len]; omega)] at e; cases e
theorem nxt_same {a : List Bool} (hl : a.length = len) (h : cnt (nxt len D a) ≤ cnt a) : Closed len D a := by
  have e := (cnt_mono (by rw [hl, nxt_len]) (nxt_le hl)).2 h
  refine ⟨hl, fun n hn hd => ?_⟩
  rw [e, nxt_get a hn, hd]; simp
theorem nxt_closed {a : List Bool} (h : Closed len D a) : nxt len D a = a := by
  refine list_ext_getD false (by rw [nxt_len, h.sz]) (fun i hi => ?_)
  rw [nxt_len] at hi
  rw [nxt_get a hi]
  cases e : D i a with
  | false => simp
  | true => rw [h.cl i hi e]; rfl
theorem iterN_ok (hD : MonoD D) : ∀ (k : Nat) (a : List Bool), a.length = len → Beneath len D a → (iterN len D k a).length = len ∧ Beneath len D (iterN len D k a) ∧ (Closed len D (iterN len D k a) ∨ k + cnt a ≤ cnt (iterN len D k a))
  | 0, a, hl, hb => ⟨hl, hb, .inr (by simp [iterN])⟩
  | k + 1, a, hl, hb => by
      have ih := iterN_ok hD k (nxt len D a) (nxt_len a) (nxt_beneath hD hb)
      simp only [iterN]
      refine ⟨ih.1, ih.2.1, ?_⟩
      by_cases hc : cnt (nxt len D a) ≤ cnt a
      · have h0 := nxt_same hl hc
        left
        have : ∀ k, iterN len D k a = a := fun k => by
          induction k with
          | zero => rfl
          | succ k ih => rw [iterN, nxt_closed h0, ih]
        rw [nxt_closed h0, this k]; exact h0
      · rcases ih.2.2 with h | h
        · exact .inl h
        · right; omega
theorem lfp_ok (hD : MonoD D) : Closed len D (lfp len D) ∧ Beneath len D (lfp len D) := by
  have h0 : Beneath len D (List.replicate len false) := fun c _ i e => by
    exfalso; simp only [List.getD_eq_getElem?_getD, List.getElem?_replicate] at e; split at e <;> simp at e
  have := iterN_ok hD (len + 1) (List.replicate len false) (by simp) h0
  refine ⟨?_, this.2.1⟩
  rcases this.2.2 with h | h
  · exact h
  · have h2 : cnt (iterN len D (len + 1) (List.replicate len false)) ≤ (iterN len D (len + 1) (List.replicate len false)).length := cnt_le
    rw [this.1] at h2; omega
theorem lfp_uniq (hD : MonoD D) {a : List Bool} (h1 : Closed len D a) (h2 : Beneath len D a) : a = lfp len D := by
  obtain ⟨h3, h4⟩ := lfp_ok hD (len := len)
  refine list_ext_getD false (by rw [h1.sz, h3.sz]) (fun i _ => ?_)
  have e1 := h2 _ h3 i
  have e2 := h4 _ h1 i
  cases hx : a.getD i false <;> cases hy : (lfp len D).getD i false
  · rfl
  · rw [e2 hy] at hx; cases hx
  · rw [e1 hx] at hy; cases hy
  · rfl
end
end Go.Proofs.Ytmanpbgaihdalaa
namespace Go.Proofs.Ytmanpbgaihdalaa
open Go Dv
set_option maxRecDepth 10000
set_option linter.unusedSimpArgs false
def isAt (is : List Bool) (n : Int) : Bool := is.getD n.toNat false
def callsB (b : Block) (is : List Bool) : Bool := b.ins.any fun x => bif decide (x.op = 11) then isAt is x.f else false
def outB (f : Func) (b : Block) (is : List Bool) : Bool := decide (b.fin.kind = 5) || (decide (b.fin.kind = 6) || ((bif decide (b.fin.kind = 4) then bif isAt is b.fin.f then !(f.blocks.getD b.fin.pad.toNat default).pad.all else false else false) || callsB b is))
structure OkB (nf nb : Nat) (b : Block) : Prop where
  fn : b.fin.kind = 4 → 0 ≤ b.fin.f ∧ b.fin.f < nf
  pad : b.fin.kind = 4 → 0 ≤ b.fin.pad ∧ b.fin.pad < nb
  ins : ∀ i, i < b.ins.length → (b.ins.getD i default).op = 11 → 0 ≤ (b.ins.getD i default).f ∧ (b.ins.getD i default).f < nf
theorem all_at {α : Type} (d : α) {p : α → Bool} {l : List α} (h : l.all p = true) {i : Nat} (hi : i < l.length) : p (l.getD i d) = true := by
  rw [List.all_eq_true] at h; rw [getD_lt d hi]; exact h _ (List.getElem_mem hi)
theorem args_in {m : Module} {f : Func} {n : Int} {l : List Int} (h : argsB m f n l = true) : 0 ≤ n ∧ n < m.funcs.length := by
  unfold argsB at h
  cases h1 : inn n m.funcs.length with
  | true => exact (inn_iff _ _).1 h1
  | false => rw [h1] at h; simp at h
theorem right_funcs {m : Module} (h : rightB m = true) {n : Nat} (hn : n < m.funcs.length) : funcB m (m.funcs.getD n default) = true := by
  unfold rightB at h; rw [Bool.and_eq_true] at h
  exact all_at default h.2 hn
theorem func_blocks {m : Module} {f : Func} (h : funcB m f = true) {i : Nat} (hi : i < f.blocks.length) : blkB m f (f.blocks.getD i default) = true := by
  unfold funcB at h; rw [Bool.and_eq_true] at h
  exact all_at default h.2 hi
theorem blk_ok {m : Module} {f : Func} {b : Block} (h : blkB m f b = true) : OkB m.funcs.length f.blocks.length b := by
  unfold blkB at h; rw [Bool.and_eq_true, decide_eq_true_eq] at h
  obtain ⟨⟨_, _, he⟩, hi⟩ := h
  have k4 : b.fin.kind = 4 → argsB m f b.fin.f b.fin.args = true ∧ inn b.fin.pad f.blocks.length = true := fun k => by
    rcases he with h | h | h | h | h
    · omega
    · omega
    · omega
    · exact ⟨h.2.2.2.1, h.2.2.2.2.2.2.1⟩
    · omega
  refine ⟨fun k => args_in (k4 k).1, fun k => (inn_iff _ _).1 (k4 k).2, fun i hi' k => ?_⟩
  have := all_at default hi hi'
  rw [decide_eq_true_eq] at this
  rcases this with h | h | h | h | h | h | h
  · omega
  · omega
  · omega
  · omega
  · exact args_in h.2.2.2.2.2
  · omega
  · omega
theorem c_called1 (x : Ins) (is : List Bool) (h : x.op = 11 → 0 ≤ x.f ∧ x.f < is.length) : FC Try.prog 110 [.agg (encIns x), .ip [bools is]] (.bool (bif decide (x.op = 11) then isAt is x.f else false)) := by
  refine FC_intro tok Try.func110 rfl (by decide +kernel) (Nat.le_of_ble_eq_true rfl) ?_
  ((repeat' first | refine AWp_seq ?_ | (refine AWp_reg tok (by rfl) ?_; conv => whnf) | (refine AWp_ret ?_; conv => whnf) | (refine @And.intro (underG _ _ _ _) _ ?_ ?_; rotate_left; (conv => whnf); rotate_right)); all_goals (try ((guard_target = underG _ _ _ _); ((refine underG_some ?_; intro hgd; (conv at hgd => whnf))); (all_goals (try simp only [underG, kz1, kz2, kz3, kz4, kz5, kz6, kz7, kz8, kz9, kz10, kz11, kz12, kz13, kz14, kz15, kz16, kz17, kz18, kz19, kz20, maxL, inn_iff] at *)); all_goals omega)))
  exact ⟨_, rfl, Rel.imm rfl⟩
theorem c_called (b : Block) (is : List Bool) {nf nb : Nat} (h : OkB nf nb b) (hn : is.length = nf) : FC Try.prog 68 [.agg (encBlock b), bools is] (.bool (callsB b is)) := by
  refine FC_intro tok Try.func68 rfl (by decide +kernel) (Nat.le_of_ble_eq_true rfl) ?_
  (repeat' first | refine AWp_seq ?_ | (refine AWp_reg tok (by rfl) ?_; conv => whnf))
  refine .inl ⟨_, _, _, uG (QC.sc (rd := [(3, 0, 0)]) (c_HasInsM (g := 110) (cap := [.ip [bools is]]) (p := fun x => bif decide (x.op = 11) then isAt is x.f else false) rfl b.ins (fun i hi => c_called1 _ is (by subst hn; exact h.ins i hi))) (.cons (.imm rfl) (.cons (.fn (.cons (.ip rfl (List.mem_singleton.2 rfl) (by decide) (Ress.imms rfl)) .nil)) .nil)) rfl), ?_⟩
  conv => whnf
  (repeat' (refine AWp_ret ?_; conv => whnf))
  exact ⟨_, rfl, Rel.imm rfl⟩
theorem c_Out1 (f : Func) (b : Block) (is : List Bool) {nf : Nat} (h : OkB nf f.blocks.length b) (hn : is.length = nf) : FC Try.prog 67 [.agg (encFunc f), .agg (encBlock b), bools is] (.bool (outB f b is)) := by
  refine FC_intro tok Try.func67 rfl (by decide +kernel) (Nat.le_of_ble_eq_true rfl) ?_
  have h1 := h.fn
  have h2 := h.pad
  subst hn
  ((repeat' first | refine AWp_seq ?_ | (refine AWp_reg tok (by rfl) ?_; conv => whnf) | refine AWp_block ?_ | (refine AWp_skip ?_; conv => whnf) | (refine AWp_ret ?_; conv => whnf) | refine AWp_cond rfl (fun hb => ?_) (fun hb => ?_) | (refine @And.intro (underG _ _ _ _) _ ?_ ?_; rotate_left; (conv => whnf); rotate_right)); all_goals (try ((guard_target = underG _ _ _ _); (first | refine underG_none ?_ | (refine underG_some ?_; intro hgd; (conv at hgd => whnf))); (all_goals (try simp only [underG, kz1, kz2, kz3, kz4, kz5, kz6, kz7, kz8, kz9, kz10, kz11, kz12, kz13, kz14, kz15, kz16, kz17, kz18, kz19, kz20, maxL, inn_iff] at *)); all_goals omega)))
  all_goals (try (refine .inl ⟨_, _, _, uG (QC.fc (c_called b is h rfl) rfl), ?_⟩; conv => whnf))
  (repeat' (refine AWp_ret ?_; conv => whnf))
  all_goals (refine ⟨_, rfl, Rel.bool ?_⟩)
  all_goals (unfold outB isAt)
  all_goals first
    | (exfalso; simp only [decide_eq_true_eq, decide_eq_false_iff_not] at *; omega)
    | (rename_i k5 k6 k4; rw [k5, k6, k4]; simp only [cond_true]; rw [hb]; rfl)
    | (simp only [decide_eq_true_eq, decide_eq_false_iff_not] at *; simp [*]; done)
theorem c_spread1 {g : FuncId} {cap : List AV} {r : Bool} (f : Func) (b : Block) (is : List Bool) (hi : immDs cap = true) (hg : FC Try.prog g (.agg (encFunc f) :: .agg (encBlock b) :: bools is :: cap) (.bool r)) : FC Try.prog 109 [.agg (encBlock b), .ip [.fn g cap], .ip (encFunc f), .ip [bools is]] (.bool r) := by
  refine FC_intro tok Try.func109 rfl (by decide +kernel) (Nat.le_of_ble_eq_true rfl) ?_
  (repeat' first | refine AWp_seq ?_ | (refine AWp_reg tok (by rfl) ?_; conv => whnf) | (refine (forceL_eq _ _).mpr ?_; conv => whnf))
  refine .inl ⟨_, _, _, uG (QC.fc hg (immDs_app (xs := [.agg (encFunc f), .agg (encBlock b), bools is]) rfl hi)), ?_⟩
  conv => whnf
  (repeat' (refine AWp_ret ?_; conv => whnf))
  exact ⟨_, rfl, Rel.imm rfl⟩
def ruleOf (does : Func → Block → List Bool → Bool) (m : Module) (n : Nat) (is : List Bool) : Bool := (m.funcs.getD n default).blocks.any fun b => does (m.funcs.getD n default) b is
def spreadL (does : Func → Block → List Bool → Bool) (m : Module) : List Bool := if rightB m = true then lfp m.funcs.length (ruleOf does m) else []
theorem c_spread {g : FuncId} {cap : List AV} (does : Func → Block → List Bool → Bool) (m : Module) (hi : immDs cap = true)
    (hg : rightB m = true → ∀ n, n < m.funcs.length → ∀ i, i < (m.funcs.getD n default).blocks.length → ∀ is : List Bool, is.length = m.funcs.length →
      FC Try.prog g (.agg (encFunc (m.funcs.getD n default)) :: .agg (encBlock ((m.funcs.getD n default).blocks.getD i default)) :: bools is :: cap) (.bool (does (m.funcs.getD n default) ((m.funcs.getD n default).blocks.getD i default) is)))
    (hmono : ∀ f b, ∀ is js, leL is js → does f b is = true → does f b js = true) :
    FO Try.prog 66 [.agg (encMod m), .fn g cap] 1 (spreadL does m).length (fun i => [.bool ((spreadL does m).getD i false)]) := by
  refine FO_intro tok Try.func66 rfl (by decide +kernel) (Nat.le_of_ble_eq_true rfl) ?_
  refine AWp_facts 0 (fun hl => ?_)
  have hl0 : m.funcs.length ≤ maxL := hl.1.1
  (repeat' first | refine AWp_seq ?_ | (refine AWp_reg tok (by rfl) ?_; conv => whnf) | (refine (forceL_eq _ _).mpr ?_; conv => whnf))
  refine .inl ⟨_, _, _, uG (QC.fc (c_lRight c_lpad m) rfl), ?_⟩
  conv => whnf
  ((repeat' first | refine AWp_seq ?_ | (refine AWp_reg tok (by rfl) ?_; conv => whnf) | refine AWp_block ?_ | (refine AWp_skip ?_; conv => whnf) | (refine AWp_ret ?_; conv => whnf) | refine AWp_cond rfl (fun hb => ?_) (fun hb => ?_) | (refine @And.intro (underG _ _ _ _) _ ?_ ?_; rotate_left; (conv => whnf); rotate_right)); all_goals (try ((guard_target = underG _ _ _ _); refine underG_none ?_; (all_goals (try simp only [underG, kz1, kz2, kz3, kz4, kz5, kz6, kz7, kz8, kz9, kz10, kz11, kz12, kz13, kz14, kz15, kz16, kz17, kz18, kz19, kz20, maxL, inn_iff] at *)); all_goals omega)))
  · refine ⟨_, rfl, RelO.nsl' ?_⟩
    have : rightB m = false := by simpa using hb
    simp [spreadL, this]
  have hr : rightB m = true := by simpa using hb
  have hsp : spreadL does m = lfp m.funcs.length (ruleOf does m) := by simp [spreadL, hr]
  have hD : MonoD (ruleOf does m) := fun n a b h k => by
    unfold ruleOf at k ⊢
    rw [List.any_eq_true] at k ⊢
    obtain ⟨x, hx, hk⟩ := k
    exact ⟨x, hx, hmono _ _ _ _ h hk⟩
  rw [hsp]
  replace hg := hg hr
  generalize hDe : ruleOf does m = D at *
  clear hb
  refine AWp_loop (fun q : Bool × List Bool => mkS [(2, .bp (2, 0, 0) 0), (3, .bp (3, 0, 0) 0), (5, .bp (5, 0, 0) 0), (6, .bool q.1)]
      [((2, 0, 0), boxed (encMod m)), ((3, 0, 0), boxed [.fn g cap]), ((5, 0, 0), .row false 1 1 (fun _ => [.rs (15, 0, 0) 1 0 m.funcs.length])), ((15, 0, 0), .row true 1 m.funcs.length (fun i => [.bool (q.2.getD i false)]))])
    (fun q => q.2.length = m.funcs.length ∧ Beneath m.funcs.length D q.2 ∧ (q.1 = true ∨ Closed m.funcs.length D q.2)) (fun q => 2 * (m.funcs.length - cnt q.2) + (if q.1 = true then 1 else 0)) (true, List.replicate m.funcs.length false)
      ⟨by simp, fun c _ i e => by exfalso; simp only [List.getD_eq_getElem?_getD, List.getElem?_replicate] at e; split at e <;> simp at e, .inl rfl⟩ ?_ ?_
  · refine Weak.list [((2, 0, 0), .old (2, 0, 0), boxed (encMod m)), ((3, 0, 0), .old (3, 0, 0), boxed [.fn g cap]), ((5, 0, 0), .old (5, 0, 0), .row false 1 1 (fun _ => [.rs (15, 0, 0) 1 0 m.funcs.length])), ((15, 0, 0), .old (15, 0, 0), .row true 1 m.funcs.length (fun i => [.bool ((List.replicate m.funcs.length false).getD i false)]))] rfl (by rfl) ?_ (.old rfl (BLe.refl _) (.old rfl (BLe.boxI (by simp [immDs, immD, hi])) (.old rfl (BLe.rowO rfl) (.old rfl (BLe.rowW (Nat.le_refl _) (fun z hz => ?_)) .nil))))
    · ((repeat' first | exact TLes.nil | refine TLes.cons (TLe.eq rfl) ?_); skip)
    · exact Wks.of (by simp [List.getD_eq_getElem?_getD, List.getElem?_replicate]; split <;> rfl)
  rintro ⟨more, is⟩ ⟨hlen, hbe, hmc⟩
  simp only at hlen hbe hmc ⊢
  (repeat' ((fail_if_success (show AWp _ _ _ (Code.region 8 _ _) _ _)); first | refine AWp_seq ?_ | (refine AWp_reg tok (by rfl) ?_; conv => whnf) | refine AWp_block ?_ | (refine AWp_skip ?_; conv => whnf) | (refine AWp_exit ?_; conv => whnf) | (refine AWp_ret ?_; conv => whnf) | refine AWp_cond rfl (fun hb => ?_) (fun hb => ?_)))
  · have hm : more = true := hb
    subst hm
    refine AWp_loop (fun q : Nat × Bool × List Bool => mkS [(2, .bp (2, 0, 0) 0), (3, .bp (3, 0, 0) 0), (5, .bp (5, 0, 0) 0), (6, .bool q.2.1), (18, funcss m.funcs), (19, iv m.funcs.length), (20, iv q.1)]
        [((2, 0, 0), boxed (encMod m)), ((3, 0, 0), boxed [.fn g cap]), ((5, 0, 0), .row false 1 1 (fun _ => [.rs (15, 0, 0) 1 0 m.funcs.length])), ((15, 0, 0), .row true 1 m.funcs.length (fun i => [.bool (q.2.2.getD i false)]))])
      (fun q => q.1 ≤ m.funcs.length ∧ q.2.2.length = m.funcs.length ∧ Beneath m.funcs.length D q.2.2 ∧ ((q.2.1 = true ∧ cnt is < cnt q.2.2) ∨ (q.2.1 = false ∧ q.2.2 = is ∧ ∀ j, j < q.1 → D j is = true → is.getD j false = true)))
      (fun q => m.funcs.length - q.1) (0, false, is) ⟨Nat.zero_le _, hlen, hbe, .inr ⟨rfl, rfl, fun j hj => absurd hj (Nat.not_lt_zero j)⟩⟩ ?_ ?_
    · refine Weak.list [((2, 0, 0), .old (2, 0, 0), boxed (encMod m)), ((3, 0, 0), .old (3, 0, 0), boxed [.fn g cap]), ((5, 0, 0), .old (5, 0, 0), .row false 1 1 (fun _ => [.rs (15, 0, 0) 1 0 m.funcs.length])), ((15, 0, 0), .old (15, 0, 0), .row true 1 m.funcs.length (fun i => [.bool (is.getD i false)]))] rfl (by rfl) ?_ (.old rfl (BLe.refl _) (.old rfl (BLe.boxI (by simp [immDs, immD, hi])) (.old rfl (BLe.refl _) (.old rfl (BLe.refl _) .nil))))
      ((repeat' first | exact TLes.nil | refine TLes.cons (TLe.eq rfl) ?_); skip)
    rintro ⟨n, mo, js⟩ ⟨hn, hl2, hb2, hcase⟩
    simp only at hn hl2 hb2 hcase ⊢
    ((repeat' ((fail_if_success (show AWp _ _ _ (Code.region 11 _ _) _ _)); first | refine AWp_seq ?_ | (refine AWp_reg tok (by rfl) ?_; conv => whnf) | refine AWp_block ?_ | (refine AWp_skip ?_; conv => whnf) | (refine AWp_exit ?_; conv => whnf) | refine AWp_cond rfl (fun hb => ?_) (fun hb => ?_) | (refine @And.intro (underG _ _ _ _) _ ?_ ?_; rotate_left; (conv => whnf); rotate_right))); all_goals (try ((guard_target = underG _ _ _ _); refine underG_none ?_; (all_goals (try simp only [underG, kz1, kz2, kz3, kz4, kz5, kz6, kz7, kz8, kz9, kz10, kz11, kz12, kz13, kz14, kz15, kz16, kz17, kz18, kz19, kz20, maxL, inn_iff] at *)); all_goals omega)))
    · have hlt : n < m.funcs.length := by simp only [decide_eq_true_eq] at hb; omega
      have hnn : (n : Int).toNat = n := Int.toNat_natCast n
      have hrule : ruleOf does m n js = D n js := by rw [← hDe]
      refine .inl ⟨_, _, _, uG (QC.sc (rd := [(3, 0, 0), (8, 0, 0), (5, 0, 0), (15, 0, 0)]) (r := .bool (ruleOf does m n js)) (c_HasBlockM (g := 109) (cap := [.ip [.fn g cap], .ip (encFunc (m.funcs.getD n default)), .ip [bools js]]) (p := fun b => does (m.funcs.getD n default) b js) rfl (m.funcs.getD n default).blocks (fun i hi2 => c_spread1 _ _ js hi (hg n hlt i hi2 js hl2))) ?_ rfl), ?_⟩
      · refine .cons (.imm rfl) (.cons (.fn (.cons (.ip rfl (memI_iff.1 rfl) Nat.zero_lt_one (Ress.imms (by simp [immDs, immD, hi]))) (.cons (.ip rfl (memI_iff.1 rfl) Nat.zero_lt_one (Ress.imms rfl)) (.cons (.ip rfl (memI_iff.1 rfl) Nat.zero_lt_one (.cons (.row rfl (memI_iff.1 rfl) rfl hl2.symm (fun _ _ => rfl)) .nil)) .nil)))) .nil)
      conv => whnf
      rw [hrule]
      ((repeat' first | (refine AWp_reg tok (by rfl) ?_; conv => whnf) | (refine AWp_skip ?_; conv => whnf) | refine AWp_cond rfl (fun hb => ?_) (fun hb => ?_) | (refine @And.intro (underG _ _ _ _) _ ?_ ?_; rotate_left; (conv => whnf); rotate_right)); all_goals (try ((guard_target = underG _ _ _ _); refine underG_none ?_; (all_goals (try simp only [underG, kz1, kz2, kz3, kz4, kz5, kz6, kz7, kz8, kz9, kz10, kz11, kz12, kz13, kz14, kz15, kz16, kz17, kz18, kz19, kz20, maxL, inn_iff] at *)); all_goals omega)))
      · have hz : js.getD n false = false ∧ D n js = true := by
          rw [hnn, Nat.zero_add] at hb
          cases h1 : js.getD n false <;> cases h2 : D n js <;> rw [h1, h2] at hb <;> simp at hb ⊢
        refine ⟨(n + 1, true, js.set n true), ⟨by simp; omega, by simp [hl2], fun c hc i e => ?_, .inl ⟨rfl, ?_⟩⟩, by simp; omega, ?_⟩
        · simp only at e
          rw [set_get (by omega), Bool.or_eq_true] at e
          rcases e with e | e
          · have : n = i := by simpa using e
            subst this
            exact hc.cl n hlt (hD n js c (hb2 c hc) hz.2)
          · exact hb2 c hc i e
        · have := cnt_set (a := js) (n := n) (by omega) hz.1
          rcases hcase with h | h
          · simp only; omega
          · rw [h.2.1] at this; simp only; rw [h.2.1]; exact this
        refine Weak.list [((2, 0, 0), .old (2, 0, 0), boxed (encMod m)), ((3, 0, 0), .old (3, 0, 0), boxed [.fn g cap]), ((5, 0, 0), .old (5, 0, 0), .row false 1 1 (fun _ => [.rs (15, 0, 0) 1 0 m.funcs.length])), ((15, 0, 0), .old (15, 0, 0), .row true 1 m.funcs.length (fun i => [.bool ((js.set n true).getD i false)]))] rfl (by rfl) ?_ (.old rfl (BLe.refl _) (.old rfl (BLe.boxI (by simp [immDs, immD, hi])) (.old rfl (BLe.refl _) (.old rfl (BLe.rowW (Nat.le_refl _) (fun z hz2 => Wks.of ?_)) .nil))))
        · ((repeat' first | exact TLes.nil | refine TLes.cons (TLe.eq rfl) ?_ | refine TLes.cons (TLe.int ?_) ?_); (all_goals first | ((try (simp only [underG, kz1, kz2, kz3, kz4, kz5, kz6, kz7, kz8, kz9, kz10, kz11, kz12, kz13, kz14, kz15, kz16, kz17, kz18, kz19, kz20, maxL, inn_iff] at *)); exact wrap64 (by omega) (by omega)) | skip))
        · exact upd_row' (fun b => [AV.bool b]) false js (by omega) (by simp) rfl z
      · refine ⟨(n + 1, mo, js), ⟨by simp; omega, hl2, hb2, ?_⟩, by simp; omega, ?_⟩
        · rcases hcase with h | ⟨h1, h2, h3⟩
          · exact .inl h
          · refine .inr ⟨h1, h2, fun j hj hd => ?_⟩
            by_cases e : j = n
            · subst e
              rw [hnn, Nat.zero_add, h2, hd] at hb
              cases h4 : is.getD j false with
              | true => rfl
              | false => rw [h4] at hb; simp at hb
            · exact h3 j (by simp at hj; omega) hd
        refine Weak.list [((2, 0, 0), .old (2, 0, 0), boxed (encMod m)), ((3, 0, 0), .old (3, 0, 0), boxed [.fn g cap]), ((5, 0, 0), .old (5, 0, 0), .row false 1 1 (fun _ => [.rs (15, 0, 0) 1 0 m.funcs.length])), ((15, 0, 0), .old (15, 0, 0), .row true 1 m.funcs.length (fun i => [.bool (js.getD i false)]))] rfl (by rfl) ?_ (.old rfl (BLe.refl _) (.old rfl (BLe.boxI (by simp [immDs, immD, hi])) (.old rfl (BLe.refl _) (.old rfl (BLe.refl _) .nil))))
        ((repeat' first | exact TLes.nil | refine TLes.cons (TLe.eq rfl) ?_ | refine TLes.cons (TLe.int ?_) ?_); (all_goals first | ((try (simp only [underG, kz1, kz2, kz3, kz4, kz5, kz6, kz7, kz8, kz9, kz10, kz11, kz12, kz13, kz14, kz15, kz16, kz17, kz18, kz19, kz20, maxL, inn_iff] at *)); exact wrap64 (by omega) (by omega)) | skip))
    · have hn2 : n = m.funcs.length := by simp only [decide_eq_false_iff_not] at hb; omega
      refine ⟨(mo, js), ⟨hl2, hb2, ?_⟩, ?_, ?_⟩
      · rcases hcase with h | ⟨h1, h2, h3⟩
        · exact .inl h.1
        · exact .inr ⟨hl2, fun j hj hd => by simp only at hd ⊢; rw [h2] at hd ⊢; exact h3 j (by omega) hd⟩
      · have hle := cnt_le (a := js)
        rcases hcase with ⟨h1, h2⟩ | ⟨h1, h2, h3⟩
        · simp only [h1, if_true]; omega
        · simp only [h1, h2]; simp
      refine Weak.list [((2, 0, 0), .old (2, 0, 0), boxed (encMod m)), ((3, 0, 0), .old (3, 0, 0), boxed [.fn g cap]), ((5, 0, 0), .old (5, 0, 0), .row false 1 1 (fun _ => [.rs (15, 0, 0) 1 0 m.funcs.length])), ((15, 0, 0), .old (15, 0, 0), .row true 1 m.funcs.length (fun i => [.bool (js.getD i false)]))] rfl (by rfl) ?_ (.old rfl (BLe.refl _) (.old rfl (BLe.boxI (by simp [immDs, immD, hi])) (.old rfl (BLe.refl _) (.old rfl (BLe.refl _) .nil))))
      ((repeat' first | exact TLes.nil | refine TLes.cons (TLe.eq rfl) ?_); skip)
  · have hm : more = false := by simpa using hb
    have hcl : Closed m.funcs.length D is := by rcases hmc with h | h; (rw [hm] at h; cases h); exact h
    have he := lfp_uniq hD hcl hbe
    skip
    refine ⟨_, rfl, .rs rfl (Nat.le_refl _) ?_ (fun _ _ => ?_)⟩
    · rw [← he, hlen]
    · rw [← he]
end Go.Proofs.Ytmanpbgaihdalaa
namespace Go.Proofs.Ytmanpbgaihdalaa
open Go Dv
set_option maxRecDepth 10000
set_option linter.unusedSimpArgs false
theorem isAt_mono {is js : List Bool} (h : leL is js) {n : Int} (k : isAt is n = true) : isAt js n = true := h _ k
theorem callsB_mono {b : Block} {is js : List Bool} (h : leL is js) (k : callsB b is = true) : callsB b js = true := by
  unfold callsB at k ⊢
  rw [List.any_eq_true] at k ⊢
  obtain ⟨x, hx, hk⟩ := k
  refine ⟨x, hx, ?_⟩
  cases e : decide (x.op = 11) with
  | false => rw [e] at hk; exact hk
  | true => rw [e] at hk; exact isAt_mono h hk
theorem outB_mono (f : Func) (b : Block) (is js : List Bool) (h : leL is js) (k : outB f b is = true) : outB f b js = true := by
  unfold outB at k ⊢
  simp only [Bool.or_eq_true] at k ⊢
  rcases k with k | k | k | k
  · exact .inl k
  · exact .inr (.inl k)
  · refine .inr (.inr (.inl ?_))
    cases e : decide (b.fin.kind = 4) with
    | false => rw [e] at k; exact k
    | true =>
      rw [e] at k
      simp only [cond_true] at k ⊢
      cases e2 : isAt is b.fin.f with
      | false => rw [e2] at k; cases k
      | true => rw [e2] at k; rw [isAt_mono h e2]; exact k
  · exact .inr (.inr (.inr (callsB_mono h k)))
def outL (m : Module) : List Bool := spreadL outB m
abbrev FOb (f : FuncId) (args : List AV) (l : List Bool) : Prop := FO Try.prog f args 1 l.length (fun i => [.bool (l.getD i false)])
theorem okB_of {m : Module} (h : rightB m = true) {n i : Nat} (hn : n < m.funcs.length) (hi : i < (m.funcs.getD n default).blocks.length) : OkB m.funcs.length (m.funcs.getD n default).blocks.length ((m.funcs.getD n default).blocks.getD i default) := blk_ok (func_blocks (right_funcs h hn) hi)
theorem c_tOut (m : Module) : FOb 17 [.agg (encMod m)] (outL m) := by
  refine FO_intro tok Try.func17 rfl (by decide +kernel) (Nat.le_of_ble_eq_true rfl) ?_
  (repeat' first | refine AWp_seq ?_ | (refine AWp_reg tok (by rfl) ?_; conv => whnf))
  refine .inl ⟨_, _, _, uG (QC.fo (rd := []) (c_spread (g := 67) (cap := []) outB m rfl (fun h n hn i hi is hl => c_Out1 _ _ is (okB_of h hn hi) hl) outB_mono) (Ress.imms rfl) (.inl rfl) rfl), ?_⟩
  conv => whnf
  (repeat' (refine AWp_ret ?_; conv => whnf))
  exact ⟨_, rfl, .rs rfl (Nat.le_refl _) rfl (fun _ _ => rfl)⟩
end Go.Proofs.Ytmanpbgaihdalaa
namespace Go.Proofs.Ytmanpbgaihdalaa
open Go Dv
set_option maxRecDepth 10000
set_option linter.unusedSimpArgs false
def calmP (out : List Bool) (b : Block) : Bool := decide (b.fin.kind = 4 ∧ isAt out b.fin.f = false ∧ b.ins.length < 64)
def calmI (b : Block) : Ins := ⟨11, b.fin.dst, 0, 0, 0, b.fin.f, b.fin.args⟩
def calmB (out : List Bool) (b : Block) : Block := if calmP out b = true then { b with ins := b.ins ++ [calmI b], fin := ⟨2, 0, 0, 0, [], b.fin.to, 0, 0⟩ } else b
theorem calmP_iff {out : List Bool} {b : Block} : calmP out b = true ↔ b.fin.kind = 4 ∧ isAt out b.fin.f = false ∧ b.ins.length < 64 := by
  unfold calmP; rw [decide_eq_true_eq]
theorem calmP_hb {out : List Bool} {b : Block} {c : Bool} (h : (bif bif !decide (b.fin.kind = 4) then true else out.getD b.fin.f.toNat false then true else decide ((64 : Int) ≤ b.ins.length)) = c) : calmP out b = !c := by
  rw [Bool.eq_iff_iff, calmP_iff, ← h]
  unfold isAt
  cases h1 : decide (b.fin.kind = 4) <;> cases h2 : out.getD b.fin.f.toNat false <;> simp at h1 ⊢ <;> omega
theorem c_calmed0 (b : Block) (out : List Bool) (hk : b.fin.kind = 4 → 0 ≤ b.fin.f ∧ b.fin.f < out.length) (hp : calmP out b = false) : FC Try.prog 82 [.agg (encBlock b), bools out] (.tup [.agg (encBlock b), .bool false]) := by
  refine FC_intro tok Try.func82 rfl (by decide +kernel) (Nat.le_of_ble_eq_true rfl) ?_
  have hmx : maxL = 4294967296 := rfl
  ((repeat' ((fail_if_success (show AWp _ _ _ (Code.region 3 _ _) _ _)); first | refine AWp_seq ?_ | (refine AWp_reg tok (by rfl) ?_; conv => whnf) | (refine AWp_skip ?_; conv => whnf) | refine AWp_cond rfl (fun hb => ?_) (fun hb => ?_) | (refine @And.intro (underG _ _ _ _) _ ?_ ?_; rotate_left; (conv => whnf); rotate_right))); all_goals (try ((guard_target = underG _ _ _ _); ((refine underG_some ?_; intro hgd; (conv at hgd => whnf))); (all_goals (try simp only [underG, kz1, kz2, kz3, kz4, kz5, kz6, kz7, kz8, kz9, kz10, kz11, kz12, kz13, kz14, kz15, kz16, kz17, kz18, kz19, kz20, maxL, inn_iff] at *)); all_goals omega)))
  · (repeat' first | (refine AWp_reg tok (by rfl) ?_; conv => whnf) | (refine AWp_ret ?_; conv => whnf))
    exact ⟨_, rfl, Rel.tup (.cons (Rel.agg (Rels.imm rfl)) (.cons (Rel.imm rfl) .nil))⟩
  · exfalso
    rw [calmP_hb hb] at hp; cases hp
theorem c_calmed1 (b : Block) (out : List Bool) (hk : 0 ≤ b.fin.f ∧ b.fin.f < out.length) (hp : calmP out b = true) : HC Try.prog [] 82 [((990, 0, 0), insR b.ins)] [.agg (blkO b (.rs (990, 0, 0) 7 0 b.ins.length)), bools out] (.tup [.agg (encBlock (calmB out b)), .bool true]) [] := by
  refine HC_intro tok Try.func82 rfl (by decide +kernel) (Nat.le_of_ble_eq_true rfl) ?_
  refine AWp_after ?_
  have hmx : maxL = 4294967296 := rfl
  have h64 := (calmP_iff.1 hp).2.2
  ((repeat' ((fail_if_success (show AWp _ _ _ (Code.region 3 _ _) _ _)); first | refine AWp_seq ?_ | (refine AWp_reg tok (by rfl) ?_; conv => whnf) | (refine AWp_skip ?_; conv => whnf) | (refine AWp_ret ?_; conv => whnf) | refine AWp_cond rfl (fun hb => ?_) (fun hb => ?_) | (refine @And.intro (underG _ _ _ _) _ ?_ ?_; rotate_left; (conv => whnf); rotate_right))); all_goals (try ((guard_target = underG _ _ _ _); (first | refine underG_none ?_ | (refine underG_some ?_; intro hgd; (conv at hgd => whnf))); (first | refine And.intro (srcObl_rs rfl ?_) ?_ | skip); (all_goals (try simp only [underG, kz1, kz2, kz3, kz4, kz5, kz6, kz7, kz8, kz9, kz10, kz11, kz12, kz13, kz14, kz15, kz16, kz17, kz18, kz19, kz20, maxL, inn_iff] at *)); all_goals omega)))
  · exfalso
    rw [calmP_hb hb] at hp; cases hp
  clear hb
  have hB : calmB out b = { b with ins := b.ins ++ [calmI b], fin := ⟨2, 0, 0, 0, [], b.fin.to, 0, 0⟩ } := if_pos hp
  rw [hB]
  skip
  refine ⟨_, Weak.fam (tl := [(4, .bp (4, 0, 0) 0), (5, .bool true)]) (hl := [((4, 0, 0), .row true 14 1 (fun _ => encBlock { b with ins := b.ins ++ [calmI b], fin := ⟨2, 0, 0, 0, [], b.fin.to, 0, 0⟩ }))]) (F := noH) [] rfl (fun i hi => by cases hi) (.cons (.bp rfl rfl) (.cons (.imm rfl) .nil)) (.old rfl rfl (GB.one ?_ (fun _ => rfl)) .nil) noF (fun i hi => by cases hi), _, [], rfl, rfl, rfl, rfl, .nil, .eq rfl⟩
  refine .cons (.imm rfl) (.cons (.imm rfl) (.cons (.imm rfl) (.cons (.imm rfl) (.cons (.imm rfl) (.cons (.frz (hd_no rfl) rfl (Nat.le_of_eq (Nat.zero_add _)) ?_ (fun x hx => GVs.eqI rfl ?_) (fun _ _ => rfl)) (.cons (.imm rfl) (.cons (.imm rfl) (.cons (.imm rfl) (.cons (.imm rfl) (.cons (.wk rfl (.nsl rfl)) (.cons (.imm rfl) (.cons (.imm rfl) (.cons (.imm rfl) .nil)))))))))))))
  · simp
  · rw [Nat.zero_add]
    exact app_snoc encIns default 7 rfl (fun q _ => rfl) rfl rfl hx
end Go.Proofs.Ytmanpbgaihdalaa
namespace Go.Proofs.Ytmanpbgaihdalaa
open Go Dv
set_option maxRecDepth 10000
set_option linter.unusedSimpArgs false
def blkG (l : List Func) (p : Nat → Bool) : AHeap := famC 1000 (fun j z => bif Nat.beq z 0 && (Nat.blt j l.length && p j) then some (blkR j (l.getD j default).blocks (l.getD j default).blocks.length (fun _ => .any)) else none)
def insG (l : List Func) (p : Nat → Nat → Bool) : AHeap := famC 1001 (fun j q => bif (Nat.blt j l.length && Nat.blt q (l.getD j default).blocks.length) && p j q then some (insR ((l.getD j default).blocks.getD q default).ins) else none)
def treeG (l : List Func) (p : Nat → Bool) (r : Nat → Nat → Bool) : AHeap := orH (blkG l p) (insG l r)
theorem blkG_some {l : List Func} {p : Nat → Bool} {j : Dv.Id} {b : ABlock} (h : blkG l p j = some b) : ∃ i, j = (1000, i, 0) ∧ i < l.length ∧ p i = true ∧ b = blkR i (l.getD i default).blocks (l.getD i default).blocks.length (fun _ => .any) := by
  obtain ⟨a, z, rfl, h3⟩ := famC_some h
  cases e : (Nat.beq z 0 && (Nat.blt a l.length && p a)) with
  | false => rw [e] at h3; cases h3
  | true =>
    rw [e] at h3
    rw [Bool.and_eq_true, Bool.and_eq_true, Nat.blt_eq] at e
    have := Nat.eq_of_beq_eq_true e.1
    subst this
    exact ⟨a, rfl, e.2.1, e.2.2, (Option.some.inj h3).symm⟩
theorem blkG_at {l : List Func} {p : Nat → Bool} {i : Nat} (h : i < l.length) (hp : p i = true) : blkG l p (1000, i, 0) = some (blkR i (l.getD i default).blocks (l.getD i default).blocks.length (fun _ => .any)) := by
  show (bif (Nat.beq 0 0 && (Nat.blt i l.length && p i)) then _ else none) = _
  have : (Nat.beq 0 0 && (Nat.blt i l.length && p i)) = true := by
    rw [Bool.and_eq_true, Bool.and_eq_true, Nat.blt_eq]; exact ⟨rfl, h, hp⟩
  rw [this]; rfl
theorem insG_some {l : List Func} {p : Nat → Nat → Bool} {j : Dv.Id} {b : ABlock} (h : insG l p j = some b) : ∃ i q, j = (1001, i, q) ∧ i < l.length ∧ q < (l.getD i default).blocks.length ∧ p i q = true ∧ b = insR ((l.getD i default).blocks.getD q default).ins := by
  obtain ⟨a, q, rfl, h3⟩ := famC_some h
  cases e : ((Nat.blt a l.length && Nat.blt q (l.getD a default).blocks.length) && p a q) with
  | false => rw [e] at h3; cases h3
  | true =>
    rw [e] at h3
    rw [Bool.and_eq_true, Bool.and_eq_true, Nat.blt_eq, Nat.blt_eq] at e
    exact ⟨a, q, rfl, e.1.1, e.1.2, e.2, (Option.some.inj h3).symm⟩
theorem insG_at {l : List Func} {p : Nat → Nat → Bool} {i q : Nat} (h : i < l.length) (hq : q < (l.getD i default).blocks.length) (hp : p i q = true) : insG l p (1001, i, q) = some (insR ((l.getD i default).blocks.getD q default).ins) := by
  show (bif ((Nat.blt i l.length && Nat.blt q (l.getD i default).blocks.length) && p i q) then _ else none) = _
  have : ((Nat.blt i l.length && Nat.blt q (l.getD i default).blocks.length) && p i q) = true := by
    rw [Bool.and_eq_true, Bool.and_eq_true, Nat.blt_eq, Nat.blt_eq]; exact ⟨⟨h, hq⟩, hp⟩
  rw [this]; rfl
theorem treeG_blk {l : List Func} {p : Nat → Bool} {r : Nat → Nat → Bool} {i : Nat} (h : i < l.length) (hp : p i = true) : treeG l p r (1000, i, 0) = some (blkR i (l.getD i default).blocks (l.getD i default).blocks.length (fun _ => .any)) := by
  unfold treeG orH; rw [blkG_at h hp]
theorem treeG_ins {l : List Func} {p : Nat → Bool} {r : Nat → Nat → Bool} {i q : Nat} (h : i < l.length) (hq : q < (l.getD i default).blocks.length) (hp : r i q = true) : treeG l p r (1001, i, q) = some (insR ((l.getD i default).blocks.getD q default).ins) := by
  show insG l r (1001, i, q) = _
  exact insG_at h hq hp
theorem treeG_some {l : List Func} {p : Nat → Bool} {r : Nat → Nat → Bool} {j : Dv.Id} {b : ABlock} (h : treeG l p r j = some b) :
    (∃ i, j = (1000, i, 0) ∧ i < l.length ∧ p i = true ∧ b = blkR i (l.getD i default).blocks (l.getD i default).blocks.length (fun _ => .any)) ∨
    ∃ i q, j = (1001, i, q) ∧ i < l.length ∧ q < (l.getD i default).blocks.length ∧ r i q = true ∧ b = insR ((l.getD i default).blocks.getD q default).ins := by
  rcases orH_some h with e | ⟨_, e⟩
  · exact .inl (blkG_some e)
  · exact .inr (insG_some e)
def rdM3 (l : List Func) : List Dv.Id := (900, 0, 0) :: ((List.range l.length).map (fun j => (1000, j, 0)) ++ (List.range l.length).flatMap fun i => (List.range (l.getD i default).blocks.length).map fun q => (1001, i, q))
theorem rdM3_blk {l : List Func} {j : Nat} (h : j < l.length) : (1000, j, 0) ∈ rdM3 l := by simp [rdM3, h]
theorem rdM3_ins {l : List Func} {j q : Nat} (h : j < l.length) (hq : q < (l.getD j default).blocks.length) : (1001, j, q) ∈ rdM3 l := by
  unfold rdM3
  refine List.mem_cons_of_mem _ (List.mem_append_right _ (List.mem_flatMap.2 ⟨j, List.mem_range.2 h, List.mem_map.2 ⟨q, List.mem_range.2 hq, rfl⟩⟩))
theorem ress_mod3 {h : AHeap} {l : List Func} (h900 : h (900, 0, 0) = some (funR l l.length (fun _ => .any))) (h1000 : ∀ j, j < l.length → h (1000, j, 0) = some (blkR j (l.getD j default).blocks (l.getD j default).blocks.length (fun _ => .any)))
    (h1001 : ∀ j q, j < l.length → q < (l.getD j default).blocks.length → h (1001, j, q) = some (insR ((l.getD j default).blocks.getD q default).ins)) : Ress h (rdM3 l) [.agg [.rs (900, 0, 0) 3 0 l.length]] [.agg (encMod ⟨l⟩)] := by
  refine .cons (.agg (.cons (.rsN (imm := false) (sz := 3) (k := l.length) (f := fun j => [iv (l.getD j default).params, iv (l.getD j default).regs, sel (Nat.blt j l.length) (.rs (1000, j, 0) 14 0 (l.getD j default).blocks.length) .any]) h900 (List.mem_cons_self) (Nat.le_of_eq (Nat.zero_add _)) rfl (fun i hi => ?_)) .nil)) .nil
  rw [Nat.zero_add, sel_lt hi]
  refine .cons (.imm rfl) (.cons (.imm rfl) (.cons (.rsN (imm := false) (k := (l.getD i default).blocks.length) (f := fun q => blkO ((l.getD i default).blocks.getD q default) (sel (Nat.blt q (l.getD i default).blocks.length) (.rs (1001, i, q) 7 0 ((l.getD i default).blocks.getD q default).ins.length) .any)) (h1000 i hi) (rdM3_blk hi) (Nat.le_of_eq (Nat.zero_add _)) rfl (fun q hq => ?_)) .nil))
  rw [Nat.zero_add, sel_lt hq]
  exact .cons (.imm rfl) (.cons (.imm rfl) (.cons (.imm rfl) (.cons (.imm rfl) (.cons (.imm rfl) (.cons (.rs (h1001 i q hi hq) (rdM3_ins hi hq) (Nat.le_of_eq (Nat.zero_add _)) rfl (fun x hx => by rw [Nat.zero_add])) (Ress.imms rfl))))))
theorem copyH_dom {l : List Func} {i : Dv.Id} (h : (copyH l i).isSome = true) : i = (900, 0, 0) ∨ (∃ j, i = (1000, j, 0)) ∨ ∃ j q, i = (1001, j, q) := by
  cases e : copyH l i with
  | none => rw [e] at h; cases h
  | some b =>
    rcases orH_some e with e | ⟨_, e⟩
    · simp only [lookH] at e
      cases e2 : idEq (900, 0, 0) i with
      | false => rw [e2] at e; cases e
      | true => have := idEq_iff.1 e2; exact .inl this.symm
    · rcases treeF_some e with ⟨i, rfl, _⟩ | ⟨i, q, rfl, _⟩
      · exact .inr (.inl ⟨i, rfl⟩)
      · exact .inr (.inr ⟨i, q, rfl⟩)
def pO (i j : Nat) : Bool := Nat.ble i j
def rO (i j _q : Nat) : Bool := Nat.ble i j
def pI (i j : Nat) : Bool := Nat.blt i j
def rI (i k j q : Nat) : Bool := Nat.blt i j || (Nat.beq j i && Nat.ble k q)
theorem rI_iff {i k j q : Nat} : rI i k j q = true ↔ i < j ∨ (j = i ∧ k ≤ q) := by
  unfold rI; rw [Bool.or_eq_true, Bool.and_eq_true, Nat.blt_eq, Nat.ble_eq]; simp
theorem treeG_hd {l : List Func} {p : Nat → Bool} {r : Nat → Nat → Bool} {S : List (Dv.Id × Option Dv.Id)} {i : Dv.Id} (hS : ∀ a b, srcL S (1000, a, b) ≠ some i ∧ srcL S (1001, a, b) ≠ some i) : ∀ j, (treeG l p r j).isSome = true → srcL S j ≠ some i := by
  intro j h
  cases e : treeG l p r j with
  | none => rw [e] at h; cases h
  | some b =>
    rcases treeG_some e with ⟨a, rfl, _⟩ | ⟨a, q, rfl, _⟩
    · exact (hS a 0).1
    · exact (hS a q).2
def rowC (out : List Bool) (i k : Nat) (l : List Block) (x : Nat → AV) : ABlock := .row false 14 l.length (fun q => blkO ((mapB (calmB out) l k).getD q default) (sel (Nat.blt q k) (inss (calmB out (l.getD q default)).ins) (x q)))
abbrev ownI (i : Nat) (l : List Block) (q : Nat) : AV := .rs (1001, i, q) 7 0 (l.getD q default).ins.length
theorem map_sel (ρ : Dv.Id → Option Dv.Id) (b : Bool) (x y : AV) : mapAV ρ (sel b x y) = sel b (mapAV ρ x) (mapAV ρ y) := by cases b <;> rfl
theorem treeG_hd2 {l : List Func} {p : Nat → Bool} {r : Nat → Nat → Bool} {S : List (Dv.Id × Option Dv.Id)} {i : Dv.Id} (hS : ∀ a, srcL S (1000, a, 0) ≠ some i) (hI : ∀ a q, r a q = true → srcL S (1001, a, q) ≠ some i) : ∀ j, (treeG l p r j).isSome = true → srcL S j ≠ some i := by
  intro j h
  cases e : treeG l p r j with
  | none => rw [e] at h; cases h
  | some b =>
    rcases treeG_some e with ⟨a, rfl, _⟩ | ⟨a, q, rfl, _, _, h2, _⟩
    · exact hS a
    · exact hI a q h2
theorem keepA {src : Dv.Id → Option Dv.Id} {h h' : AHeap} {fs : List Func} {i q n : Nat} {b b2 : ABlock} {x : AV} (hx : immD x = true) (h1 : i < q → h' (1000, q, 0) = some b) (hs : src (1000, q, 0) = some (1000, q, 0)) (h2 : h' (901, 0, 0) = some b2) (hs2 : src (901, 0, 0) = some (901, 0, 0)) :
    GV src h h' (sel (Nat.blt q i) x (sel (Nat.beq q i) (.rs (901, 0, 0) 14 0 n) (mem1 fs q))) (sel (Nat.blt q i) x (sel (Nat.beq q i) (.rs (901, 0, 0) 14 0 n) (mem1 fs q))) := by
  by_cases e1 : q < i
  · exact .cc (sel_lt e1) (sel_lt e1) (.imm hx)
  · have e1' := Nat.le_of_not_lt e1
    by_cases e : q = i
    · subst e
      exact .cc ((sel_ge e1').trans sel_eq) ((sel_ge e1').trans sel_eq) (.rs h2 hs2 rfl rfl)
    · exact .cc ((sel_ge e1').trans (sel_ne e)) ((sel_ge e1').trans (sel_ne e)) (.rs (h1 (by omega)) hs rfl rfl)
theorem keepRow {src : Dv.Id → Option Dv.Id} {h h' : AHeap} {out : List Bool} {i k : Nat} {l : List Block} {x x' : Nat → AV} (hx : ∀ q, k ≤ q → q < l.length → GV src h h' (x q) (x' q)) : GB src h h' (rowC out i k l x) (rowC out i k l x') :=
  GB.row (Nat.le_refl _) (fun q hq => GVs_blk (by
    by_cases e : q < k
    · exact .cc (sel_lt e) (sel_lt e) (.imm rfl)
    · exact .cc (sel_ge (by omega)) (sel_ge (by omega)) (hx q (by omega) hq))) (fun e => by cases e)
theorem keepFG {src : Dv.Id → Option Dv.Id} {h h' : AHeap} {fs : List Func} {i k k' : Nat} (hk : k ≤ k') (hh1 : ∀ p, p < fs.length → i < p → h (1000, p, 0) = some (blkR p (fs.getD p default).blocks (fs.getD p default).blocks.length (fun _ => .any)))
    (hh2 : ∀ p q, p < fs.length → q < (fs.getD p default).blocks.length → rI i k p q = true → h (1001, p, q) = some (insR ((fs.getD p default).blocks.getD q default).ins))
    (hh' : ∀ a b, h' (1000, a, b) = treeG fs (pI i) (rI i k') (1000, a, b) ∧ h' (1001, a, b) = treeG fs (pI i) (rI i k') (1001, a, b)) (hs : ∀ a b, src (1000, a, b) = some (1000, a, b) ∧ src (1001, a, b) = some (1001, a, b)) :
    ∀ j b, treeG fs (pI i) (rI i k') j = some b → HOk src h h' j b := by
  intro j b e
  rcases treeG_some e with ⟨p, rfl, hp, h2, rfl⟩ | ⟨p, q, rfl, hp, hq, h2, rfl⟩
  · have h2' : i < p := by unfold pI at h2; rw [Nat.blt_eq] at h2; exact h2
    refine HOk.mk (hs p 0).1 (hh1 p hp h2') (GB_blk (fun q hq => ?_))
    have hi := treeG_ins (p := pI i) (r := rI i k') hp hq (rI_iff.2 (.inl h2'))
    exact .cc (sel_lt hq) (sel_lt hq) (.rs ((hh' p q).2.trans hi) (hs p q).2 rfl rfl)
  · have h2' := rI_iff.1 h2
    exact HOk.mk (hs p q).2 (hh2 p q hp hq (rI_iff.2 (by omega))) (GB_ins _)
theorem keepF {src : Dv.Id → Option Dv.Id} {h h' : AHeap} {fs : List Func} {i k k' : Nat} (hk : k ≤ k') (hh : ∀ a b, h (1000, a, b) = treeG fs (pI i) (rI i k) (1000, a, b) ∧ h (1001, a, b) = treeG fs (pI i) (rI i k) (1001, a, b))
    (hh' : ∀ a b, h' (1000, a, b) = treeG fs (pI i) (rI i k') (1000, a, b) ∧ h' (1001, a, b) = treeG fs (pI i) (rI i k') (1001, a, b)) (hs : ∀ a b, src (1000, a, b) = some (1000, a, b) ∧ src (1001, a, b) = some (1001, a, b)) :
    ∀ j b, treeG fs (pI i) (rI i k') j = some b → HOk src h h' j b :=
  keepFG hk (fun p hp h2 => (hh p 0).1.trans (treeG_blk hp (by unfold pI; rw [Nat.blt_eq]; exact h2))) (fun p q hp hq h2 => (hh p q).2.trans (treeG_ins hp hq h2)) hh' hs
theorem kill_blkR (i : Nat) (l : List Block) : Dv.mapB (killL [(902, 0, 0)]) (blkR i l l.length (fun _ => .any)) = blkR i l l.length (fun _ => .any) := by
  unfold blkR Dv.mapB
  simp only [cond_false]
  congr 1
  funext q
  show [_, _, _, _, _, mapAV _ (sel _ _ _), _, _, _, _, _, _, _, _] = _
  rw [map_sel]; rfl
theorem nxt_len' {len : Nat} {D : Nat → List Bool → Bool} : ∀ (k : Nat) (a : List Bool), a.length = len → (iterN len D k a).length = len
  | 0, a, h => h
  | k + 1, a, h => nxt_len' k _ (nxt_len a)
theorem outL_len {m : Module} (hr : rightB m = true) : (outL m).length = m.funcs.length := by
  unfold outL spreadL; rw [if_pos hr]; unfold lfp; exact nxt_len' _ _ (by simp)
def calmM (m : Module) : Module := doneM (calmB (outL m)) m
set_option maxHeartbeats 4000000 in
theorem c_cModule (m : Module) : FC Try.prog 33 [.agg (encMod m)] (.tup [.agg (encMod (calmM m)), iv (errM m)]) := by
  obtain ⟨fs⟩ := m
  refine FC_intro tok Try.func33 rfl (by decide +kernel) (Nat.le_of_ble_eq_true rfl) ?_
  refine AWp_facts 0 (fun hl => ?_)
  have hl0 : fs.length ≤ maxL := hl.1.1
  have hmx : maxL = 4294967296 := rfl
  have hl1 : ∀ i, i < fs.length → (fs.getD i default).blocks.length ≤ maxL := fun i hi => (hl.1.2 i hi).2.2.1.1
  clear hl
  cases hr : rightB ⟨fs⟩ with
  | false =>
    (repeat' first | refine AWp_seq ?_ | (refine AWp_reg tok (by rfl) ?_; conv => whnf))
    refine .inl ⟨_, _, _, uG (QC.fc (c_CopyF ⟨fs⟩) rfl), ?_⟩
    conv => whnf
    (repeat' first | refine AWp_seq ?_ | (refine AWp_reg tok (by rfl) ?_; conv => whnf))
    refine .inl ⟨_, _, _, uG (QC.fc (c_lRight c_lpad ⟨fs⟩) rfl), ?_⟩
    conv => whnf
    (repeat' first | refine AWp_seq ?_ | (refine AWp_reg tok (by rfl) ?_; conv => whnf) | (refine AWp_skip ?_; conv => whnf) | (refine AWp_ret ?_; conv => whnf) | refine AWp_cond rfl (fun hb => ?_) (fun hb => ?_))
    · refine ⟨_, rfl, Rel.tup (.cons (Rel.agg ?_) (.cons (Rel.int (by simp [errM, hr])) .nil))⟩
      rw [show calmM ⟨fs⟩ = ⟨fs⟩ from by simp [calmM, doneM, hr]]
      exact Rels.imm rfl
    · rw [hr] at hb; cases hb
  | true =>
  (repeat' first | refine AWp_seq ?_ | (refine AWp_reg tok (by rfl) ?_; conv => whnf))
  refine .inr ⟨_, _, _, uG (QH.ofF (c_Copy fs) rfl (fun i hi => by rcases copyH_dom hi with rfl | ⟨j, rfl⟩ | ⟨j, q, rfl⟩ <;> rfl)), ?_⟩
  conv => whnf
  (repeat' first | refine AWp_seq ?_ | (refine AWp_reg tok (by rfl) ?_; conv => whnf))
  have hc1 : ∀ j, j < fs.length → copyH fs (1000, j, 0) = some (blkR j (fs.getD j default).blocks (fs.getD j default).blocks.length (fun _ => .any)) := fun j hj => treeF_blk hj
  have hc2 : ∀ j q, j < fs.length → q < (fs.getD j default).blocks.length → copyH fs (1001, j, q) = some (insR ((fs.getD j default).blocks.getD q default).ins) := fun j q hj hq => treeF_ins (.inl ⟨hj, hq⟩)
  refine .inl ⟨_, _, _, uG (QC.sc (rd := rdM3 fs) (c_lRight c_lpad ⟨fs⟩) (ress_mod3 rfl (fun j hj => ?_) (fun j q hj hq => ?_)) rfl), ?_⟩
  · show bigH [] (copyH fs) _ (1000, j, 0) = _
    unfold bigH; rw [hc1 j hj]
  · show bigH [] (copyH fs) _ (1001, j, q) = _
    unfold bigH; rw [hc2 j q hj hq]
  conv => whnf
  (repeat' first | refine AWp_seq ?_ | (refine AWp_reg tok (by rfl) ?_; conv => whnf) | (refine AWp_skip ?_; conv => whnf) | (refine AWp_ret ?_; conv => whnf) | refine AWp_cond rfl (fun hb => ?_) (fun hb => ?_))
  · exfalso; rw [hr] at hb; cases hb
  clear hb
  refine .inl ⟨_, _, _, uG (QC.fo (rd := rdM3 fs) (c_tOut ⟨fs⟩) (ress_mod3 rfl (fun j hj => ?_) (fun j q hj hq => ?_)) (.inr (fun _ _ => rfl)) rfl), ?_⟩
  · show bigH [] (copyH fs) _ (1000, j, 0) = _
    unfold bigH; rw [hc1 j hj]
  · show bigH [] (copyH fs) _ (1001, j, q) = _
    unfold bigH; rw [hc2 j q hj hq]
  conv => whnf
  have hgen : ∃ out, outL ⟨fs⟩ = out := ⟨_, rfl⟩
  obtain ⟨out, hout⟩ := hgen
  have hol : out.length = fs.length := by rw [← hout]; exact outL_len hr
  rw [hout]
  (repeat' ((fail_if_success (show AWp _ _ _ (Code.region 6 _ _) _ _)); first | refine AWp_seq ?_ | (refine AWp_reg tok (by rfl) ?_; conv => whnf) | refine AWp_block ?_))
  refine AWp_loop (fun i : Nat => mkF [(1, .bp (1, 0, 0) 0), (2, .bp (2, 0, 0) 0), (3, iv 0), (4, bools out), (20, .rs (900, 0, 0) 3 0 fs.length), (21, iv fs.length), (22, iv i)] [((1, 0, 0), .row false 1 1 (fun _ => [.rs (900, 0, 0) 3 0 fs.length])), ((2, 0, 0), boxed [.nsl]), ((900, 0, 0), funR1 fs (fun j => sel (Nat.blt j i) (blockss (mapB (calmB out) (fs.getD j default).blocks (fs.getD j default).blocks.length)) (mem1 fs j)))] (treeG fs (pO i) (rO i))) (fun i => i ≤ fs.length) (fun i => fs.length - i) 0 (Nat.zero_le _) ?_ ?_
  · refine Weak.fam [] rfl (fun i hi => by cases hi) ?_ ?_ ?_ (fun i hi => by cases hi)
    · refine .cons (.bp rfl rfl) (.cons (.bp rfl rfl) (.cons (.imm rfl) (.cons (.frz (hd_of rfl (treeG_hd (fun a b => ⟨(fun e => by cases e), fun e => by cases e⟩))) rfl (Nat.le_of_eq (Nat.zero_add _)) rfl (fun x hx => GVs.eqI rfl (by rw [Nat.zero_add])) (fun _ _ => rfl)) ?_)))
      (repeat' first | exact TLg.nil | refine TLg.cons (GV.imm rfl) ?_ | refine TLg.cons (GV.rs rfl rfl ?_ ?_) ?_)
      all_goals rfl
    · refine .old rfl rfl (GB.one (.cons (.rs rfl rfl rfl rfl) .nil) (fun e => by cases e)) (.old rfl rfl (GB.one (GVs.imm rfl) (fun _ => rfl)) (.old rfl rfl (GB.row (Nat.le_refl _) (fun q hq => .cons (.imm rfl) (.cons (.imm rfl) (.cons ?_ .nil))) (fun e => by cases e)) .nil))
      exact .cc (sel_lt hq) (sel_ge (Nat.zero_le _)) (.rs (show treeG fs (pO 0) (rO 0) (1000, q, 0) = _ from treeG_blk hq rfl) rfl rfl rfl)
    · intro j b e
      rcases treeG_some e with ⟨p, rfl, hp, _, rfl⟩ | ⟨p, q, rfl, hp, hq, _, rfl⟩
      · refine HOk.mk rfl (b0 := blkR p (fs.getD p default).blocks (fs.getD p default).blocks.length (fun _ => .any)) ?_ (GB_blk (fun q hq => .cc (sel_lt hq) (sel_lt hq) (.rs (show treeG fs (pO 0) (rO 0) (1001, p, q) = _ from treeG_ins hp hq rfl) rfl rfl rfl)))
        show bigH [] (copyH fs) _ (1000, p, 0) = _
        unfold bigH; rw [hc1 p hp]
      · refine HOk.mk rfl (b0 := insR ((fs.getD p default).blocks.getD q default).ins) ?_ (GB_ins _)
        show bigH [] (copyH fs) _ (1001, p, q) = _
        unfold bigH; rw [hc2 p q hp hq]
  intro i hi
  ((repeat' ((fail_if_success (show AWp _ _ _ (Code.region 8 _ _) _ _)); first | refine AWp_seq ?_ | (refine AWp_reg tok (by rfl) ?_; conv => whnf) | refine AWp_block ?_ | (refine AWp_skip ?_; conv => whnf) | (refine AWp_exit ?_; conv => whnf) | (refine AWp_ret ?_; conv => whnf) | refine AWp_cond rfl (fun hb => ?_) (fun hb => ?_) | (refine @And.intro (underG _ _ _ _) _ ?_ ?_; rotate_left; (conv => whnf); rotate_right))); all_goals (try ((guard_target = underG _ _ _ _); refine underG_none ?_; (all_goals (try simp only [underG, kz1, kz2, kz3, kz4, kz5, kz6, kz7, kz8, kz9, kz10, kz11, kz12, kz13, kz14, kz15, kz16, kz17, kz18, kz19, kz20, maxL, inn_iff] at *)); all_goals omega)))
  · have hlt : i < fs.length := by simp only [decide_eq_true_eq] at hb; omega
    clear hb
    have hz : 0 + (i : Int).toNat = i := by simp
    have hgen : ∃ l, (fs.getD i default).blocks = l := ⟨_, rfl⟩
    obtain ⟨l, hlb⟩ := hgen
    have hll := hl1 i hlt
    rw [hlb] at hll
    refine fAV (y := .rs (1000, i, 0) 14 0 l.length) ?_ ?_
    · show sel (Nat.blt (0 + (i : Int).toNat) i) _ (mem1 fs (0 + (i : Int).toNat)) = _
      rw [hz, sel_ge (Nat.le_refl _)]; unfold mem1; rw [hlb]
    conv => whnf
    (repeat' ((fail_if_success (show AWp _ _ _ (Code.region 8 _ _) _ _)); refine AWp_seq ?_))
    refine AWp_weak (Weak.fam (L := []) (tl := [(1, .bp (1, 0, 0) 0), (2, .bp (2, 0, 0) 0), (3, iv 0), (4, bools out), (6, .bp (6, 0, 0) 0), (20, .rs (900, 0, 0) 3 0 fs.length), (21, iv fs.length), (22, iv i)]) (hl := [((1, 0, 0), .row false 1 1 (fun _ => [.rs (900, 0, 0) 3 0 fs.length])), ((2, 0, 0), boxed [.nsl]), ((900, 0, 0), funR1 fs (fun j => sel (Nat.blt j i) (blockss (mapB (calmB out) (fs.getD j default).blocks (fs.getD j default).blocks.length)) (sel (Nat.beq j i) (.rs (901, 0, 0) 14 0 l.length) (mem1 fs j)))), ((6, 0, 0), .row false 3 1 (fun _ => [iv (fs.getD i default).params, iv (fs.getD i default).regs, .rs (901, 0, 0) 14 0 l.length])), ((901, 0, 0), rowC out i 0 l (ownI i l))]) (F := (treeG fs (pI i) (rI i 0))) [((901, 0, 0), some (1000, i, 0))] rfl (fun c hc => ?_) ?_ ?_ ?_ (fun i hi => by cases hi)) ?_
    · simp only [tgts, List.mem_singleton] at hc; subst hc
      left
      show treeG fs (pI i) (rI i 0) (1000, i, 0) = none
      cases e : treeG fs (pI i) (rI i 0) (1000, i, 0) with
      | none => rfl
      | some b =>
        rcases treeG_some e with ⟨p, e1, _, e2, _⟩ | ⟨p, q, e1, _⟩
        · cases e1; unfold pI at e2; rw [Nat.blt_eq] at e2; omega
        · cases e1
    · (repeat' first | exact TLg.nil | refine TLg.cons (GV.imm rfl) ?_ | refine TLg.cons (GV.bp rfl rfl) ?_ | refine TLg.cons (GV.rs rfl rfl ?_ ?_) ?_)
      all_goals rfl
    · refine .old rfl rfl (GB.one (.cons (.rs rfl rfl rfl rfl) .nil) (fun e => by cases e)) (.old rfl rfl (GB.one (GVs.imm rfl) (fun _ => rfl)) (.old rfl rfl (GB.row (Nat.le_refl _) (fun q hq => .cons (.imm rfl) (.cons (.imm rfl) (.cons ?_ .nil))) (fun e => by cases e)) (.old rfl rfl (GB.one (.cons (.int (by rw [hz])) (.cons (.int (by rw [hz])) (.cons (.rs rfl srcL_hit rfl rfl) .nil))) (fun e => by cases e)) (.old (b0 := blkR i (fs.getD i default).blocks (fs.getD i default).blocks.length (fun _ => .any)) rfl ?_ ?_ .nil))))
      · by_cases h1 : q < i
        · exact .cc (sel_lt h1) (sel_lt h1) (.imm rfl)
        · by_cases h2 : q = i
          · subst h2
            exact .cc (sel_ge (Nat.le_refl _)) ((sel_ge (Nat.le_refl _)).trans sel_eq) (.rs rfl srcL_hit rfl (by rw [hlb]))
          · refine .cc (sel_ge (Nat.le_of_not_lt h1)) ((sel_ge (Nat.le_of_not_lt h1)).trans (sel_ne h2)) (.rs (show treeG fs (pI i) (rI i 0) (1000, q, 0) = _ from treeG_blk hq (by unfold pI; rw [Nat.blt_eq]; omega)) (srcL_miss (fun h => h2 (by cases h))) rfl rfl)
      · show treeG fs (pO i) (rO i) (1000, i, 0) = _
        exact treeG_blk hlt (by unfold pO; rw [Nat.ble_eq]; omega)
      · rw [hlb]
        refine GB.row (Nat.le_refl _) (fun q hq => ?_) (fun e => by cases e)
        rw [mapB_at hq, if_neg (Nat.not_lt_zero q)]
        refine GVs_blk (.cc (sel_lt hq) (sel_ge (Nat.zero_le _)) (.rs (b := insR (l.getD q default).ins) ?_ (srcL_miss (fun h => by cases h)) rfl rfl))
        show treeG fs (pI i) (rI i 0) (1001, i, q) = _
        rw [treeG_ins hlt (by rw [hlb]; exact hq) (rI_iff.2 (.inr ⟨rfl, Nat.zero_le _⟩)), hlb]
    · intro j b e
      rcases treeG_some e with ⟨p, rfl, hp, h2, rfl⟩ | ⟨p, q, rfl, hp, hq, h2, rfl⟩
      · have h2' : i < p := by unfold pI at h2; rw [Nat.blt_eq] at h2; exact h2
        exact HOk.mk (srcL_miss (fun h => by cases h)) (show treeG fs (pO i) (rO i) (1000, p, 0) = _ from treeG_blk hp (by unfold pO; rw [Nat.ble_eq]; omega)) (GB_blk (fun q hq => .cc (sel_lt hq) (sel_lt hq) (.rs (show treeG fs (pI i) (rI i 0) (1001, p, q) = _ from treeG_ins hp hq (rI_iff.2 (.inl h2'))) (srcL_miss (fun h => by cases h)) rfl rfl)))
      · have h2' := rI_iff.1 h2
        exact HOk.mk (srcL_miss (fun h => by cases h)) (show treeG fs (pO i) (rO i) (1001, p, q) = _ from treeG_ins hp hq (by unfold rO; rw [Nat.ble_eq]; omega)) (GB_ins _)
    (repeat' ((fail_if_success (show AWp _ _ _ (Code.region 9 _ _) _ _)); first | (refine AWp_reg tok (by rfl) ?_; conv => whnf) | refine AWp_block ?_))
    refine AWp_loop (fun k : Nat => mkF [(1, .bp (1, 0, 0) 0), (2, .bp (2, 0, 0) 0), (3, iv 0), (4, bools out), (6, .bp (6, 0, 0) 0), (20, .rs (900, 0, 0) 3 0 fs.length), (21, iv fs.length), (22, iv i), (27, .rs (901, 0, 0) 14 0 l.length), (28, iv l.length), (29, iv k)] [((1, 0, 0), .row false 1 1 (fun _ => [.rs (900, 0, 0) 3 0 fs.length])), ((2, 0, 0), boxed [.nsl]), ((900, 0, 0), funR1 fs (fun j => sel (Nat.blt j i) (blockss (mapB (calmB out) (fs.getD j default).blocks (fs.getD j default).blocks.length)) (sel (Nat.beq j i) (.rs (901, 0, 0) 14 0 l.length) (mem1 fs j)))), ((6, 0, 0), .row false 3 1 (fun _ => [iv (fs.getD i default).params, iv (fs.getD i default).regs, .rs (901, 0, 0) 14 0 l.length])), ((901, 0, 0), rowC out i k l (ownI i l))] (treeG fs (pI i) (rI i k))) (fun k => k ≤ l.length) (fun k => l.length - k) 0 (Nat.zero_le _) ?_ ?_
    · refine Weak.fam [] rfl (fun i hi => by cases hi) ?_ ?_ ?_ (fun i hi => by cases hi)
      · (repeat' first | exact TLg.nil | refine TLg.cons (GV.imm rfl) ?_ | refine TLg.cons (GV.bp rfl rfl) ?_ | refine TLg.cons (GV.rs rfl rfl ?_ ?_) ?_)
        all_goals rfl
      · exact (.old rfl rfl (GB.one (.cons (.rs rfl rfl rfl rfl) .nil) (fun e => by cases e)) (.old rfl rfl (GB.one (GVs.imm rfl) (fun _ => rfl)) (.old rfl rfl (GB_fun1 (fun q hq => keepA rfl (fun h => show treeG fs (pI i) (rI i 0) (1000, q, 0) = _ from treeG_blk hq (by unfold pI; rw [Nat.blt_eq]; exact h)) rfl rfl rfl)) (.old rfl rfl (GB.one (.cons (.imm rfl) (.cons (.imm rfl) (.cons (.rs rfl rfl rfl rfl) .nil))) (fun e => by cases e)) (.old rfl rfl (keepRow (fun q h1 hq => .rs (b := insR (l.getD q default).ins) (show treeG fs (pI i) (rI i 0) (1001, i, q) = _ from by rw [treeG_ins hlt (by rw [hlb]; exact hq) (rI_iff.2 (.inr ⟨rfl, h1⟩)), hlb]) rfl rfl rfl)) .nil)))))
      · exact keepF (Nat.le_refl _) (fun _ _ => ⟨rfl, rfl⟩) (fun _ _ => ⟨rfl, rfl⟩) (fun _ _ => ⟨rfl, rfl⟩)
    intro k hk
    ((repeat' ((fail_if_success (show AWp _ _ _ (Code.region 11 _ _) _ _)); first | refine AWp_seq ?_ | (refine AWp_reg tok (by rfl) ?_; conv => whnf) | refine AWp_block ?_ | (refine AWp_skip ?_; conv => whnf) | (refine AWp_exit ?_; conv => whnf) | refine AWp_cond rfl (fun hb => ?_) (fun hb => ?_) | (refine @And.intro (underG _ _ _ _) _ ?_ ?_; rotate_left; (conv => whnf); rotate_right))); all_goals (try ((guard_target = underG _ _ _ _); refine underG_none ?_; (all_goals (try simp only [underG, kz1, kz2, kz3, kz4, kz5, kz6, kz7, kz8, kz9, kz10, kz11, kz12, kz13, kz14, kz15, kz16, kz17, kz18, kz19, kz20, maxL, inn_iff] at *)); all_goals omega)))
    · have hkl : k < l.length := by simp only [decide_eq_true_eq] at hb; omega
      clear hb
      have hzk : 0 + (k : Int).toNat = k := by simp
      refine fAV (y := ownI i l k) ?_ ?_
      · show sel (Nat.blt (0 + (k : Int).toNat) k) _ (ownI i l (0 + (k : Int).toNat)) = _
        rw [hzk, sel_ge (Nat.le_refl _)]
      conv => whnf
      (repeat' ((fail_if_success (show AWp _ _ _ (Code.region 11 _ _) _ _)); refine AWp_seq ?_))
      have hget : (mapB (calmB out) l k).getD (0 + (k : Int).toNat) default = l.getD k default := by rw [hzk, mapB_at hkl, if_neg (Nat.lt_irrefl k)]
      have hgen : ∃ b, l.getD k default = b := ⟨_, rfl⟩
      obtain ⟨b, hbk⟩ := hgen
      have hok : b.fin.kind = 4 → 0 ≤ b.fin.f ∧ b.fin.f < out.length := by
        have h1 := (blk_ok (func_blocks (right_funcs hr hlt) (i := k) (by show k < (fs.getD i default).blocks.length; rw [hlb]; exact hkl))).fn
        simp only [hlb, hbk] at h1
        rw [hol]; exact h1
      cases hcp : calmP out b with
      | false =>
        have hcb : calmB out b = b := by unfold calmB; rw [if_neg (by rw [hcp]; simp)]
        refine AWp_weak (Weak.fam (L := []) (tl := [(1, .bp (1, 0, 0) 0), (2, .bp (2, 0, 0) 0), (3, iv 0), (4, bools out), (6, .bp (6, 0, 0) 0), (7, iv k), (8, .bp (8, 0, 0) 0), (20, .rs (900, 0, 0) 3 0 fs.length), (21, iv fs.length), (22, iv i), (27, .rs (901, 0, 0) 14 0 l.length), (28, iv l.length), (29, iv k)]) (hl := [((1, 0, 0), .row false 1 1 (fun _ => [.rs (900, 0, 0) 3 0 fs.length])), ((2, 0, 0), boxed [.nsl]), ((900, 0, 0), funR1 fs (fun j => sel (Nat.blt j i) (blockss (mapB (calmB out) (fs.getD j default).blocks (fs.getD j default).blocks.length)) (sel (Nat.beq j i) (.rs (901, 0, 0) 14 0 l.length) (mem1 fs j)))), ((6, 0, 0), .row false 3 1 (fun _ => [iv (fs.getD i default).params, iv (fs.getD i default).regs, .rs (901, 0, 0) 14 0 l.length])), ((901, 0, 0), rowC out i (k + 1) l (ownI i l)), ((8, 0, 0), .row true 14 1 (fun _ => encBlock b))]) (F := (treeG fs (pI i) (rI i (k + 1)))) [] rfl (fun c hc => by cases hc) ?_ ?_ ?_ (fun i hi => by cases hi)) ?_
        · (repeat' first | exact TLg.nil | refine TLg.cons (GV.imm rfl) ?_ | refine TLg.cons (GV.bp rfl rfl) ?_ | refine TLg.cons (GV.rs rfl rfl ?_ ?_) ?_)
          all_goals rfl
        · refine (.old rfl rfl (GB.one (.cons (.rs rfl rfl rfl rfl) .nil) (fun e => by cases e)) (.old rfl rfl (GB.one (GVs.imm rfl) (fun _ => rfl)) (.old rfl rfl (GB_fun1 (fun q hq => keepA rfl (fun h => show treeG fs (pI i) (rI i (k + 1)) (1000, q, 0) = _ from treeG_blk hq (by unfold pI; rw [Nat.blt_eq]; exact h)) rfl rfl rfl)) (.old rfl rfl (GB.one (.cons (.imm rfl) (.cons (.imm rfl) (.cons (.rs rfl rfl rfl rfl) .nil))) (fun e => by cases e)) (.old rfl rfl (GB.row (Nat.le_refl _) (fun q hq => ?_) (fun e => by cases e)) (.old rfl rfl (GB.one ?_ (fun _ => rfl)) .nil))))))
          · by_cases h1 : q < k
            · rw [mapB_at hq, mapB_at hq, if_pos h1, if_pos (by omega)]
              exact GVs_blk (.cc (sel_lt h1) (sel_lt (by omega)) (.imm rfl))
            · by_cases h2 : q = k
              · subst h2
                rw [mapB_at hq, mapB_at hq, if_neg h1, if_pos (Nat.lt_succ_self q), hbk, hcb]
                refine GVs_blk (.cc (x' := .rs (1001, i, q) 7 0 b.ins.length) (y' := inss b.ins) ((sel_ge (Nat.le_refl _)).trans (by rw [← hbk])) (sel_lt (Nat.lt_succ_self q)) (.frz (hd_of rfl (treeG_hd2 (fun a e => by have e' := Option.some.inj e; cases e') (fun a q h e => by have e' := Option.some.inj e; cases e'; have := rI_iff.1 h; omega))) (i := (1001, i, q)) (imm := true) (k := b.ins.length) (f := fun j => encIns (b.ins.getD j default)) ?_ (Nat.le_of_eq (Nat.zero_add _)) rfl (fun x hx => GVs.eqI rfl (by rw [Nat.zero_add])) (fun _ _ => rfl)))
                show treeG fs (pI i) (rI i q) (1001, i, q) = _
                rw [treeG_ins hlt (by rw [hlb]; exact hq) (rI_iff.2 (.inr ⟨rfl, Nat.le_refl _⟩)), hlb, hbk]; rfl
              · rw [mapB_at hq, mapB_at hq, if_neg h1, if_neg (by omega)]
                refine GVs_blk (.cc (sel_ge (Nat.le_of_not_lt h1)) (sel_ge (by omega)) (.rs (b := insR (l.getD q default).ins) (show treeG fs (pI i) (rI i (k + 1)) (1001, i, q) = _ from by rw [treeG_ins hlt (by rw [hlb]; exact hq) (rI_iff.2 (.inr ⟨rfl, by omega⟩)), hlb]) rfl rfl rfl))
          · show GVs _ _ _ (blkO ((mapB (calmB out) l k).getD (0 + (k : Int).toNat) default) (ownI i l k)) (blkO b (inss b.ins))
            rw [hget, hbk]
            refine GVs_blk (.cc (x' := .rs (1001, i, k) 7 0 b.ins.length) (by rw [← hbk]) rfl (.frz (hd_of rfl (treeG_hd2 (fun a e => by have e' := Option.some.inj e; cases e') (fun a q h e => by have e' := Option.some.inj e; cases e'; have := rI_iff.1 h; omega))) (i := (1001, i, k)) (imm := true) (k := b.ins.length) (f := fun j => encIns (b.ins.getD j default)) ?_ (Nat.le_of_eq (Nat.zero_add _)) rfl (fun x hx => GVs.eqI rfl (by rw [Nat.zero_add])) (fun _ _ => rfl)))
            show treeG fs (pI i) (rI i k) (1001, i, k) = _
            rw [treeG_ins hlt (by rw [hlb]; exact hkl) (rI_iff.2 (.inr ⟨rfl, Nat.le_refl _⟩)), hlb, hbk]; rfl
        · exact keepF (Nat.le_succ _) (fun _ _ => ⟨rfl, rfl⟩) (fun _ _ => ⟨rfl, rfl⟩) (fun _ _ => ⟨rfl, rfl⟩)
        (repeat' (refine AWp_reg tok (by rfl) ?_; conv => whnf))
        refine .inl ⟨_, _, _, uG (QC.fc (c_calmed0 b out hok hcp) rfl), ?_⟩
        conv => whnf
        ((repeat' first | refine AWp_seq ?_ | (refine AWp_reg tok (by rfl) ?_; conv => whnf) | (refine AWp_skip ?_; conv => whnf) | refine AWp_cond rfl (fun hb => ?_) (fun hb => ?_) | (refine @And.intro (underG _ _ _ _) _ ?_ ?_; rotate_left; (conv => whnf); rotate_right)); all_goals (try ((guard_target = underG _ _ _ _); refine underG_none ?_; (all_goals (try simp only [underG, kz1, kz2, kz3, kz4, kz5, kz6, kz7, kz8, kz9, kz10, kz11, kz12, kz13, kz14, kz15, kz16, kz17, kz18, kz19, kz20, maxL, inn_iff] at *)); all_goals omega)))
        · cases hb
        refine ⟨k + 1, hkl, by omega, ?_⟩
        refine Weak.fam [] rfl (fun i hi => by cases hi) ?_ ?_ ?_ (fun i hi => by cases hi)
        · (repeat' first | exact TLg.nil | refine TLg.cons (GV.imm rfl) ?_ | refine TLg.cons (GV.bp rfl rfl) ?_ | refine TLg.cons (GV.rs rfl rfl ?_ ?_) ?_ | refine TLg.cons (GV.int ?_) ?_)
          all_goals first | rfl | exact wrap64 (by omega) (by omega)
        · exact (.old rfl rfl (GB.one (.cons (.rs rfl rfl rfl rfl) .nil) (fun e => by cases e)) (.old rfl rfl (GB.one (GVs.imm rfl) (fun _ => rfl)) (.old rfl rfl (GB_fun1 (fun q hq => keepA rfl (fun h => show treeG fs (pI i) (rI i (k + 1)) (1000, q, 0) = _ from treeG_blk hq (by unfold pI; rw [Nat.blt_eq]; exact h)) rfl rfl rfl)) (.old rfl rfl (GB.one (.cons (.imm rfl) (.cons (.imm rfl) (.cons (.rs rfl rfl rfl rfl) .nil))) (fun e => by cases e)) (.old rfl rfl (keepRow (fun q h1 hq => .rs (b := insR (l.getD q default).ins) (show treeG fs (pI i) (rI i (k + 1)) (1001, i, q) = _ from by rw [treeG_ins hlt (by rw [hlb]; exact hq) (rI_iff.2 (.inr ⟨rfl, h1⟩)), hlb]) rfl rfl rfl)) .nil)))))
        · exact keepF (Nat.le_refl _) (fun _ _ => ⟨rfl, rfl⟩) (fun _ _ => ⟨rfl, rfl⟩) (fun _ _ => ⟨rfl, rfl⟩)
      | true =>
        have hcp4 := (calmP_iff.1 hcp).1
        refine AWp_weak (Weak.fam (L := []) (tl := [(1, .bp (1, 0, 0) 0), (2, .bp (2, 0, 0) 0), (3, iv 0), (4, bools out), (6, .bp (6, 0, 0) 0), (7, iv k), (8, .bp (8, 0, 0) 0), (20, .rs (900, 0, 0) 3 0 fs.length), (21, iv fs.length), (22, iv i), (27, .rs (901, 0, 0) 14 0 l.length), (28, iv l.length), (29, iv k)]) (hl := [((1, 0, 0), .row false 1 1 (fun _ => [.rs (900, 0, 0) 3 0 fs.length])), ((2, 0, 0), boxed [.nsl]), ((900, 0, 0), funR1 fs (fun j => sel (Nat.blt j i) (blockss (mapB (calmB out) (fs.getD j default).blocks (fs.getD j default).blocks.length)) (sel (Nat.beq j i) (.rs (901, 0, 0) 14 0 l.length) (mem1 fs j)))), ((6, 0, 0), .row false 3 1 (fun _ => [iv (fs.getD i default).params, iv (fs.getD i default).regs, .rs (901, 0, 0) 14 0 l.length])), ((901, 0, 0), rowC out i k l (fun q => sel (Nat.beq q k) .any (ownI i l q))), ((8, 0, 0), .row false 14 1 (fun _ => blkO b (.rs (902, 0, 0) 7 0 b.ins.length))), ((902, 0, 0), insR b.ins)]) (F := (treeG fs (pI i) (rI i (k + 1)))) [((902, 0, 0), some (1001, i, k))] rfl (fun c hc => ?_) ?_ ?_ ?_ (fun i hi => by cases hi)) ?_
        · simp only [tgts, List.mem_singleton] at hc; subst hc
          left
          show treeG fs (pI i) (rI i (k + 1)) (1001, i, k) = none
          cases e : treeG fs (pI i) (rI i (k + 1)) (1001, i, k) with
          | none => rfl
          | some b =>
            rcases treeG_some e with ⟨p, e1, _⟩ | ⟨p, q, e1, _, _, h2, _⟩
            · cases e1
            · cases e1; have := rI_iff.1 h2; omega
        · (repeat' first | exact TLg.nil | refine TLg.cons (GV.imm rfl) ?_ | refine TLg.cons (GV.bp rfl rfl) ?_ | refine TLg.cons (GV.rs rfl rfl ?_ ?_) ?_)
          all_goals rfl
        · refine (.old rfl rfl (GB.one (.cons (.rs rfl rfl rfl rfl) .nil) (fun e => by cases e)) (.old rfl rfl (GB.one (GVs.imm rfl) (fun _ => rfl)) (.old rfl rfl (GB_fun1 (fun q hq => keepA rfl (fun h => show treeG fs (pI i) (rI i (k + 1)) (1000, q, 0) = _ from treeG_blk hq (by unfold pI; rw [Nat.blt_eq]; exact h)) (srcL_miss (fun h => by cases h)) rfl (srcL_miss (fun h => by cases h)))) (.old rfl rfl (GB.one (.cons (.imm rfl) (.cons (.imm rfl) (.cons (.rs rfl rfl rfl rfl) .nil))) (fun e => by cases e)) (.old rfl rfl (keepRow (fun q h1 hq => ?_)) (.old rfl rfl (GB.one ?_ (fun e => by cases e)) (.old (b0 := insR b.ins) rfl ?_ (GB_ins _) .nil)))))))
          · by_cases h2 : q = k
            · subst h2; exact .cc rfl sel_eq .any
            · refine .cc rfl (sel_ne h2) (.rs (b := insR (l.getD q default).ins) (show treeG fs (pI i) (rI i (k + 1)) (1001, i, q) = _ from by rw [treeG_ins hlt (by rw [hlb]; exact hq) (rI_iff.2 (.inr ⟨rfl, by omega⟩)), hlb]) (srcL_miss (fun h => by cases h)) rfl rfl)
          · show GVs _ _ _ (blkO ((mapB (calmB out) l k).getD (0 + (k : Int).toNat) default) (ownI i l k)) (blkO b (.rs (902, 0, 0) 7 0 b.ins.length))
            rw [hget, hbk]
            exact GVs_blk (.rs rfl srcL_hit rfl (by rw [← hbk]))
          · show treeG fs (pI i) (rI i k) (1001, i, k) = _
            rw [treeG_ins hlt (by rw [hlb]; exact hkl) (rI_iff.2 (.inr ⟨rfl, Nat.le_refl _⟩)), hlb, hbk]
        · exact keepF (Nat.le_succ _) (fun _ _ => ⟨rfl, rfl⟩) (fun _ _ => ⟨rfl, rfl⟩) (fun _ _ => ⟨(srcL_miss (fun h => by cases h)), (srcL_miss (fun h => by cases h))⟩)
        (repeat' (refine AWp_reg tok (by rfl) ?_; conv => whnf))
        refine .inr ⟨_, _, _, uG (QH.of (dead := [(902, 0, 0)]) [((990, 0, 0), .old (902, 0, 0), insR b.ins)] (c_calmed1 b out (hok hcp4) hcp) rfl (.old rfl (BLe.refl _) .nil) (.cons (.eq rfl) (.cons (.eq rfl) .nil)) [] rfl .nil rfl), ?_⟩
        conv => whnf
        ((repeat' first | refine AWp_seq ?_ | (refine AWp_reg tok (by rfl) ?_; conv => whnf) | (refine AWp_skip ?_; conv => whnf) | refine AWp_cond rfl (fun hb => ?_) (fun hb => ?_) | (refine @And.intro (underG _ _ _ _) _ ?_ ?_; rotate_left; (conv => whnf); rotate_right)); all_goals (try ((guard_target = underG _ _ _ _); refine underG_none ?_; (all_goals (try simp only [underG, kz1, kz2, kz3, kz4, kz5, kz6, kz7, kz8, kz9, kz10, kz11, kz12, kz13, kz14, kz15, kz16, kz17, kz18, kz19, kz20, maxL, inn_iff] at *)); all_goals omega)))
        · refine ⟨k + 1, hkl, by omega, ?_⟩
          refine Weak.fam [] rfl (fun i hi => by cases hi) ?_ ?_ ?_ (fun i hi => by cases hi)
          · (repeat' first | exact TLg.nil | refine TLg.cons (GV.imm rfl) ?_ | refine TLg.cons (GV.bp rfl rfl) ?_ | refine TLg.cons (GV.rs rfl rfl ?_ ?_) ?_ | refine TLg.cons (GV.int ?_) ?_)
            all_goals first | rfl | exact wrap64 (by omega) (by omega)
          · refine (.old rfl rfl (GB.one (.cons (.rs rfl rfl rfl rfl) .nil) (fun e => by cases e)) (.old rfl rfl (GB.one (GVs.imm rfl) (fun _ => rfl)) (.old rfl rfl (GB.row (Nat.le_refl _) (fun q hq => .cons (.imm rfl) (.cons (.imm rfl) (.cons (.cc (x' := sel (Nat.blt q i) (blockss (mapB (calmB out) (fs.getD q default).blocks (fs.getD q default).blocks.length)) (sel (Nat.beq q i) (.rs (901, 0, 0) 14 0 l.length) (mem1 fs q))) (by show mapAV _ (sel _ _ (sel _ _ _)) = _; rw [map_sel, map_sel]; rfl) rfl (keepA rfl (fun h => show treeG fs (pI i) (rI i (k + 1)) (1000, q, 0) = _ from treeG_blk hq (by unfold pI; rw [Nat.blt_eq]; exact h)) rfl rfl rfl)) .nil))) (fun e => by cases e)) (.old rfl rfl (GB.one (.cons (.imm rfl) (.cons (.imm rfl) (.cons (.rs rfl rfl rfl rfl) .nil))) (fun e => by cases e)) (.old rfl rfl (GB.row (Nat.le_refl _) (fun q hq => GVs.upd (fun e => ?_) (fun e => ?_)) (fun e => by cases e)) .nil)))))
            · rw [hzk] at e; subst e
              rw [mapB_at hkl, if_pos (Nat.lt_succ_self q), sel_lt (Nat.lt_succ_self q), hbk]
              exact GVs.imm rfl
            · rw [hzk] at e
              have hql : q < l.length := hq
              rw [mapB_at hql]
              by_cases h1 : q < k
              · rw [if_pos (show q < k + 1 by omega), sel_lt (show q < k + 1 by omega)]
                refine GVs.eqI rfl ?_
                show mapAVs _ (blkO _ (sel _ _ _)) = _
                rw [mapB_at hql, if_pos h1, sel_lt h1]; rfl
              · rw [if_neg (show ¬ q < k + 1 by omega), sel_ge (show k + 1 ≤ q by omega)]
                have e1 : mapAVs (killL [(902, 0, 0)]) (blkO ((mapB (calmB out) l k).getD q default) (sel (Nat.blt q k) (inss (calmB out (l.getD q default)).ins) (sel (Nat.beq q k) .any (ownI i l q)))) = blkO (l.getD q default) (ownI i l q) := by
                  rw [mapB_at hql, if_neg h1, sel_ge (show k ≤ q by omega), sel_ne e]; rfl
                show GVs _ _ _ (mapAVs (killL [(902, 0, 0)]) (blkO ((mapB (calmB out) l k).getD q default) (sel (Nat.blt q k) (inss (calmB out (l.getD q default)).ins) (sel (Nat.beq q k) .any (ownI i l q))))) _
                rw [e1]
                exact GVs_blk (.rs (b := insR (l.getD q default).ins) (show treeG fs (pI i) (rI i (k + 1)) (1001, i, q) = _ from by rw [treeG_ins hlt (by rw [hlb]; exact hql) (rI_iff.2 (.inr ⟨rfl, by omega⟩)), hlb]) rfl rfl rfl)
          · refine keepFG (k := k + 1) (Nat.le_refl _) (fun p hp h2 => ?_) (fun p q hp hq h2 => ?_) (fun _ _ => ⟨rfl, rfl⟩) (fun _ _ => ⟨rfl, rfl⟩)
            · show Option.map (mapKB [(902, 0, 0)]) (treeG fs (pI i) (rI i (k + 1)) (1000, p, 0)) = _
              rw [treeG_blk hp (by unfold pI; rw [Nat.blt_eq]; exact h2)]
              exact congrArg some (kill_blkR p _)
            · show Option.map (mapKB [(902, 0, 0)]) (treeG fs (pI i) (rI i (k + 1)) (1001, p, q)) = _
              rw [treeG_ins hp hq h2]; rfl
        · exfalso
          cases hb
    · have hkl : k = l.length := by simp only [decide_eq_false_iff_not] at hb; omega
      clear hb
      subst hkl
      refine ⟨i + 1, hlt, by omega, ?_⟩
      refine Weak.fam [] rfl (fun i hi => by cases hi) ?_ ?_ ?_ (fun i hi => by cases hi)
      · (repeat' first | exact TLg.nil | refine TLg.cons (GV.imm rfl) ?_ | refine TLg.cons (GV.bp rfl rfl) ?_ | refine TLg.cons (GV.rs rfl rfl ?_ ?_) ?_ | refine TLg.cons (GV.int ?_) ?_)
        all_goals first | rfl | exact wrap64 (by omega) (by omega)
      · refine .old rfl rfl (GB.one (.cons (.rs rfl rfl rfl rfl) .nil) (fun e => by cases e)) (.old rfl rfl (GB.one (GVs.imm rfl) (fun _ => rfl)) (.old rfl rfl (GB.row (Nat.le_refl _) (fun q hq => .cons (.imm rfl) (.cons (.imm rfl) (.cons ?_ .nil))) (fun e => by cases e)) .nil))
        by_cases h1 : q < i
        · exact .cc (sel_lt h1) (sel_lt (Nat.lt_succ_of_lt h1)) (.imm rfl)
        · by_cases h2 : q = i
          · subst h2
            refine .cc (x' := .rs (901, 0, 0) 14 0 l.length) (y' := blockss (mapB (calmB out) l l.length)) ((sel_ge (Nat.le_refl _)).trans sel_eq) ((sel_lt (Nat.lt_succ_self q)).trans (by rw [hlb]))
              (.frz (hd_of rfl (treeG_hd (fun a b => ⟨(fun e => by have e' := Option.some.inj e; cases e'), fun e => by have e' := Option.some.inj e; cases e'⟩))) (imm := false) (k := l.length) rfl (Nat.le_of_eq (Nat.zero_add _)) (mapB_len _ _).symm (fun x hx => ?_) (fun _ _ => rfl))
            rw [Nat.zero_add]
            show GVs _ _ _ (blkO _ (sel (Nat.blt x l.length) _ _)) (encBlock ((mapB (calmB out) l l.length).getD x default))
            rw [sel_lt hx, mapB_at hx, if_pos hx]
            exact GVs.imm rfl
          · exact .cc ((sel_ge (Nat.le_of_not_lt h1)).trans (sel_ne h2)) (sel_ge (show i + 1 ≤ q by omega)) (.rs (show treeG fs (pO (i + 1)) (rO (i + 1)) (1000, q, 0) = _ from treeG_blk hq (by unfold pO; rw [Nat.ble_eq]; omega)) rfl rfl rfl)
      · intro j b e
        rcases treeG_some e with ⟨p, rfl, hp, h2, rfl⟩ | ⟨p, q, rfl, hp, hq, h2, rfl⟩
        · have h2' : i < p := by unfold pO at h2; rw [Nat.ble_eq] at h2; omega
          exact HOk.mk rfl (show treeG fs (pI i) (rI i l.length) (1000, p, 0) = _ from treeG_blk hp (by unfold pI; rw [Nat.blt_eq]; exact h2')) (GB_blk (fun q hq => .cc (sel_lt hq) (sel_lt hq) (.rs (show treeG fs (pO (i + 1)) (rO (i + 1)) (1001, p, q) = _ from treeG_ins hp hq (by unfold rO; rw [Nat.ble_eq]; omega)) rfl rfl rfl)))
        · have h2' : i < p := by unfold rO at h2; rw [Nat.ble_eq] at h2; omega
          exact HOk.mk rfl (show treeG fs (pI i) (rI i l.length) (1001, p, q) = _ from treeG_ins hp hq (rI_iff.2 (.inl h2'))) (GB_ins _)
  · have hil : i = fs.length := by simp only [decide_eq_false_iff_not] at hb; omega
    clear hb
    subst hil
    refine ⟨_, rfl, Rel.tup (.cons (Rel.agg (.cons ?_ .nil)) (.cons (Rel.int (by simp [errM, hr])) .nil))⟩
    have hcm : calmM ⟨fs⟩ = ⟨fs.map fun f => { f with blocks := f.blocks.map (calmB out) }⟩ := by
      unfold calmM doneM; rw [if_pos hr, hout]; rfl
    rw [hcm]
    show Rel _ _ (.sl 3 (fs.map fun f => { f with blocks := f.blocks.map (calmB out) }).length _)
    rw [List.length_map]
    refine Rel.rs (imm := false) (k := fs.length) (f := fun j => [iv (fs.getD j default).params, iv (fs.getD j default).regs, sel (Nat.blt j fs.length) (blockss (mapB (calmB out) (fs.getD j default).blocks (fs.getD j default).blocks.length)) (mem1 fs j)]) rfl (Nat.le_of_eq (Nat.zero_add _)) (fun j hj => ?_)
    rw [Nat.zero_add, sel_lt hj, mapB_all]
    have e1 : (fs.map fun f => { f with blocks := f.blocks.map (calmB out) }).getD j default = { fs.getD j default with blocks := (fs.getD j default).blocks.map (calmB out) } := by
      rw [List.getD_eq_getElem?_getD, List.getElem?_map, List.getD_eq_getElem?_getD, List.getElem?_eq_getElem hj]; rfl
    rw [e1]
    exact Rels.imm rfl
end Go.Proofs.Ytmanpbgaihdalaa
namespace Go.Proofs.Ytmanpbgaihdalaa
open Go Dv
set_option maxRecDepth 10000
set_option linter.unusedSimpArgs false
theorem sum_take_succ {α : Type} (g : α → Nat) (d : α) {l : List α} {i : Nat} (h : i < l.length) : ((l.take (i + 1)).map g).sum = ((l.take i).map g).sum + g (l.getD i d) := by
  rw [take_succ_getD d h, List.map_append, List.sum_append]; simp
theorem sum_le {α : Type} (g : α → Nat) (c : Nat) : ∀ {l : List α}, (∀ x ∈ l, g x ≤ c) → (l.map g).sum ≤ c * l.length
  | [], _ => by simp
  | x :: r, h => by
      have h1 := sum_le g c (l := r) (fun y hy => h y (List.mem_cons_of_mem _ hy))
      have h2 := h x List.mem_cons_self
      simp only [List.map_cons, List.sum_cons, List.length_cons]
      rw [Nat.mul_succ]; omega
def kN (b : Block) : Nat := if b.fin.kind = 4 then 1 else 0
def manyF (f : Func) : Nat := (f.blocks.map kN).sum
def manyM (m : Module) : Nat := (m.funcs.map manyF).sum
def SmallM (m : Module) : Prop := m.funcs.length ≤ 20 ∧ ∀ i, i < m.funcs.length → (m.funcs.getD i default).blocks.length ≤ 70
theorem kN_sum (l : List Block) : (l.map kN).sum ≤ l.length := by
  have := sum_le kN 1 (l := l) (fun x _ => by unfold kN; split <;> omega)
  omega
theorem short_small {m : Module} (h : shortB m = true) : SmallM m := by
  unfold shortB at h
  rw [Bool.and_eq_true, Bool.and_eq_true, decide_eq_true_eq] at h
  refine ⟨h.1.1, fun i hi => ?_⟩
  have := all_at default h.1.2 hi
  unfold funS at this
  rw [Bool.and_eq_true, decide_eq_true_eq] at this
  exact this.1
theorem tot_le {m : Module} (h : SmallM m) (i : Nat) : ((m.funcs.take i).map manyF).sum ≤ 1400 := by
  have h1 := sum_le manyF 70 (l := m.funcs.take i) (fun x hx => by
    obtain ⟨j, hj, rfl⟩ := List.getElem_of_mem (List.mem_of_mem_take hx)
    have h2 := h.2 j hj
    rw [getD_lt default hj] at h2
    have := kN_sum m.funcs[j].blocks
    unfold manyF; omega)
  have : (m.funcs.take i).length ≤ 20 := by rw [List.length_take]; have := h.1; omega
  omega
set_option maxHeartbeats 1000000 in
theorem c_Many (m : Module) (h : SmallM m) : FC Try.prog 34 [.agg (encMod m)] (iv (manyM m)) := by
  refine FC_intro tok Try.func34 rfl (by decide +kernel) (Nat.le_of_ble_eq_true rfl) ?_
  have hl0 := h.1
  (repeat' first | refine AWp_seq ?_ | (refine AWp_reg tok (by rfl) ?_; conv => whnf) | refine AWp_block ?_)
  refine AWp_loop (fun i : Nat => mkS [(3, iv ((m.funcs.take i).map manyF).sum), (9, funcss m.funcs), (10, iv m.funcs.length), (11, iv i)] []) (fun i => i ≤ m.funcs.length) (fun i => m.funcs.length - i) 0 (Nat.zero_le _) ?_ ?_
  · refine Weak.list [] rfl (by rfl) ?_ .nil
    ((repeat' first | exact TLes.nil | refine TLes.cons (TLe.eq rfl) ?_); skip)
  intro i hi
  have ht := tot_le h i
  (repeat' ((fail_if_success (show AWp _ _ _ (Code.region 4 _ _) _ _)); first | refine AWp_seq ?_ | (refine AWp_reg tok (by rfl) ?_; conv => whnf) | refine AWp_block ?_ | (refine AWp_skip ?_; conv => whnf) | (refine AWp_exit ?_; conv => whnf) | (refine AWp_ret ?_; conv => whnf) | refine AWp_cond rfl (fun hb => ?_) (fun hb => ?_)))
  · have hlt : i < m.funcs.length := by simp only [decide_eq_true_eq] at hb; omega
    clear hb
    have hss := sum_take_succ manyF default hlt
    have h70 := h.2 i hlt
    have hgen : ∃ f, m.funcs.getD i default = f := ⟨_, rfl⟩
    obtain ⟨f, hf⟩ := hgen
    rw [hf] at hss h70
    have hfi : m.funcs.getD (i : Int).toNat default = f := by rw [Int.toNat_natCast, hf]
    ((repeat' ((fail_if_success (show AWp _ _ _ (Code.region 6 _ _) _ _)); first | refine AWp_seq ?_ | (refine AWp_reg tok (by rfl) ?_; conv => whnf) | refine AWp_block ?_ | (refine @And.intro (underG _ _ _ _) _ ?_ ?_; rotate_left; (conv => whnf); rotate_right))); all_goals (try ((guard_target = underG _ _ _ _); refine underG_none ?_; (all_goals (try simp only [underG, kz1, kz2, kz3, kz4, kz5, kz6, kz7, kz8, kz9, kz10, kz11, kz12, kz13, kz14, kz15, kz16, kz17, kz18, kz19, kz20, maxL, inn_iff] at *)); all_goals omega)))
    refine AWp_loop (fun k : Nat => mkS [(3, iv ((((m.funcs.take i).map manyF).sum + ((f.blocks.take k).map kN).sum : Nat) : Int)), (9, funcss m.funcs), (10, iv m.funcs.length), (11, iv i), (16, blockss f.blocks), (17, iv f.blocks.length), (18, iv k)] []) (fun k => k ≤ f.blocks.length) (fun k => f.blocks.length - k) 0 (Nat.zero_le _) ?_ ?_
    · refine Weak.list [] rfl (by rfl) ?_ .nil
      rw [← hfi]
      ((repeat' first | exact TLes.nil | refine TLes.cons (TLe.eq rfl) ?_); skip)
    intro k hk
    have hk2 := kN_sum (f.blocks.take k)
    have hk3 : (f.blocks.take k).length ≤ 70 := by rw [List.length_take]; omega
    (repeat' ((fail_if_success (show AWp _ _ _ (Code.region 7 _ _) _ _)); first | refine AWp_seq ?_ | (refine AWp_reg tok (by rfl) ?_; conv => whnf) | refine AWp_block ?_ | (refine AWp_skip ?_; conv => whnf) | (refine AWp_exit ?_; conv => whnf) | refine AWp_cond rfl (fun hb => ?_) (fun hb => ?_)))
    · have hkl : k < f.blocks.length := by simp only [decide_eq_true_eq] at hb; omega
      clear hb
      have hs2 := sum_take_succ kN default hkl
      have hgen : ∃ b, f.blocks.getD k default = b := ⟨_, rfl⟩
      obtain ⟨b, hbk⟩ := hgen
      rw [hbk] at hs2
      have hbi : f.blocks.getD (k : Int).toNat default = b := by rw [Int.toNat_natCast, hbk]
      ((repeat' first | refine AWp_seq ?_ | (refine AWp_reg tok (by rfl) ?_; conv => whnf) | (refine AWp_skip ?_; conv => whnf) | refine AWp_cond rfl (fun hb => ?_) (fun hb => ?_) | (refine @And.intro (underG _ _ _ _) _ ?_ ?_; rotate_left; (conv => whnf); rotate_right)); all_goals (try ((guard_target = underG _ _ _ _); refine underG_none ?_; (all_goals (try simp only [underG, kz1, kz2, kz3, kz4, kz5, kz6, kz7, kz8, kz9, kz10, kz11, kz12, kz13, kz14, kz15, kz16, kz17, kz18, kz19, kz20, maxL, inn_iff] at *)); all_goals omega)))
      · have h4 : kN b = 1 := by
          rw [hbi] at hb; unfold kN; rw [if_pos (by simpa using hb)]
        refine ⟨k + 1, hkl, by omega, ?_⟩
        refine Weak.list [] rfl (by rfl) ?_ .nil
        (repeat' first | exact TLes.nil | refine TLes.cons (TLe.eq rfl) ?_ | refine TLes.cons (TLe.int ?_) ?_)
        · rw [wrap64 (by omega) (by omega), hs2, h4]; omega
        · exact wrap64 (by omega) (by omega)
      · have h4 : kN b = 0 := by
          rw [hbi] at hb; unfold kN; rw [if_neg (by simpa using hb)]
        refine ⟨k + 1, hkl, by omega, ?_⟩
        refine Weak.list [] rfl (by rfl) ?_ .nil
        (repeat' first | exact TLes.nil | refine TLes.cons (TLe.eq rfl) ?_ | refine TLes.cons (TLe.int ?_) ?_)
        · rw [hs2, h4]; omega
        · exact wrap64 (by omega) (by omega)
    · have hkl : k = f.blocks.length := by simp only [decide_eq_false_iff_not] at hb; omega
      subst hkl
      refine ⟨i + 1, hlt, by omega, ?_⟩
      refine Weak.list [] rfl (by rfl) ?_ .nil
      (repeat' first | exact TLes.nil | refine TLes.cons (TLe.eq rfl) ?_ | refine TLes.cons (TLe.int ?_) ?_)
      · rw [hss, List.take_length]; rfl
      · exact wrap64 (by omega) (by omega)
  · have hil : i = m.funcs.length := by simp only [decide_eq_false_iff_not] at hb; omega
    subst hil
    refine ⟨_, rfl, Rel.int ?_⟩
    rw [List.take_length]; rfl
set_option maxHeartbeats 1000000 in
theorem c_r14Many (m : Module) (h : SmallM m) : FC Try.prog 35 [.agg (encMod m)] (iv (manyM m)) := by
  refine FC_intro tok Try.func35 rfl (by decide +kernel) (Nat.le_of_ble_eq_true rfl) ?_
  have hl0 := h.1
  (repeat' first | refine AWp_seq ?_ | (refine AWp_reg tok (by rfl) ?_; conv => whnf) | refine AWp_block ?_)
  refine AWp_loop (fun i : Nat => mkS [(1, .bp (1, 0, 0) 0), (3, iv ((m.funcs.take i).map manyF).sum), (4, iv i)] [((1, 0, 0), boxed (encMod m))]) (fun i => i ≤ m.funcs.length) (fun i => m.funcs.length - i) 0 (Nat.zero_le _) ?_ ?_
  · refine Weak.list [((1, 0, 0), .old (1, 0, 0), boxed (encMod m))] rfl (by rfl) ?_ (.old rfl (BLe.refl _) .nil)
    ((repeat' first | exact TLes.nil | refine TLes.cons (TLe.eq rfl) ?_); skip)
  intro i hi
  have ht := tot_le h i
  (repeat' ((fail_if_success (show AWp _ _ _ (Code.region 6 _ _) _ _)); first | refine AWp_seq ?_ | (refine AWp_reg tok (by rfl) ?_; conv => whnf) | refine AWp_block ?_ | (refine AWp_skip ?_; conv => whnf) | (refine AWp_exit ?_; conv => whnf) | (refine AWp_ret ?_; conv => whnf) | refine AWp_cond rfl (fun hb => ?_) (fun hb => ?_)))
  · have hlt : i < m.funcs.length := by simp only [decide_eq_true_eq] at hb; omega
    clear hb
    have hss := sum_take_succ manyF default hlt
    have h70 := h.2 i hlt
    have hgen : ∃ f, m.funcs.getD i default = f := ⟨_, rfl⟩
    obtain ⟨f, hf⟩ := hgen
    rw [hf] at hss h70
    have hfi : m.funcs.getD (i : Int).toNat default = f := by rw [Int.toNat_natCast, hf]
    refine AWp_loop (fun k : Nat => mkS [(1, .bp (1, 0, 0) 0), (3, iv ((((m.funcs.take i).map manyF).sum + ((f.blocks.take k).map kN).sum : Nat) : Int)), (4, iv i), (5, iv k)] [((1, 0, 0), boxed (encMod m))]) (fun k => k ≤ f.blocks.length) (fun k => f.blocks.length - k) 0 (Nat.zero_le _) ?_ ?_
    · refine Weak.list [((1, 0, 0), .old (1, 0, 0), boxed (encMod m))] rfl (by rfl) ?_ (.old rfl (BLe.refl _) .nil)
      ((repeat' first | exact TLes.nil | refine TLes.cons (TLe.eq rfl) ?_); skip)
    intro k hk
    have hk2 := kN_sum (f.blocks.take k)
    have hk3 : (f.blocks.take k).length ≤ 70 := by rw [List.length_take]; omega
    ((repeat' ((fail_if_success (show AWp _ _ _ (Code.region 8 _ _) _ _)); first | refine AWp_seq ?_ | (refine AWp_reg tok (by rfl) ?_; conv => whnf) | refine AWp_block ?_ | (refine AWp_skip ?_; conv => whnf) | (refine AWp_exit ?_; conv => whnf) | refine AWp_cond rfl (fun hb => ?_) (fun hb => ?_) | (refine @And.intro (underG _ _ _ _) _ ?_ ?_; rotate_left; (conv => whnf); rotate_right))); all_goals (try ((guard_target = underG _ _ _ _); refine underG_none ?_; (all_goals (try simp only [underG, kz1, kz2, kz3, kz4, kz5, kz6, kz7, kz8, kz9, kz10, kz11, kz12, kz13, kz14, kz15, kz16, kz17, kz18, kz19, kz20, maxL, inn_iff] at *)); all_goals omega)))
    · have hkl : k < f.blocks.length := by rw [hfi] at hb; simp only [decide_eq_true_eq] at hb; omega
      clear hb
      have hs2 := sum_take_succ kN default hkl
      have hgen : ∃ b, f.blocks.getD k default = b := ⟨_, rfl⟩
      obtain ⟨b, hbk⟩ := hgen
      rw [hbk] at hs2
      have hbi : (m.funcs.getD (i : Int).toNat default).blocks.getD (k : Int).toNat default = b := by rw [hfi, Int.toNat_natCast, hbk]
      have hfl : (m.funcs.getD (i : Int).toNat default).blocks.length = f.blocks.length := by rw [hfi]
      ((repeat' first | (refine AWp_reg tok (by rfl) ?_; conv => whnf) | (refine AWp_skip ?_; conv => whnf) | refine AWp_cond rfl (fun hb => ?_) (fun hb => ?_) | (refine @And.intro (underG _ _ _ _) _ ?_ ?_; rotate_left; (conv => whnf); rotate_right)); all_goals (try ((guard_target = underG _ _ _ _); refine underG_none ?_; (all_goals (try simp only [underG, kz1, kz2, kz3, kz4, kz5, kz6, kz7, kz8, kz9, kz10, kz11, kz12, kz13, kz14, kz15, kz16, kz17, kz18, kz19, kz20, maxL, inn_iff] at *)); all_goals omega)))
      · have h4 : kN b = 1 := by
          rw [hbi] at hb; unfold kN; rw [if_pos (by simpa using hb)]
        refine ⟨k + 1, hkl, by omega, ?_⟩
        refine Weak.list [((1, 0, 0), .old (1, 0, 0), boxed (encMod m))] rfl (by rfl) ?_ (.old rfl (BLe.refl _) .nil)
        (repeat' first | exact TLes.nil | refine TLes.cons (TLe.eq rfl) ?_ | refine TLes.cons (TLe.int ?_) ?_)
        · rw [wrap64 (by omega) (by omega), hs2, h4]; omega
        · exact wrap64 (by omega) (by omega)
      · have h4 : kN b = 0 := by
          rw [hbi] at hb; unfold kN; rw [if_neg (by simpa using hb)]
        refine ⟨k + 1, hkl, by omega, ?_⟩
        refine Weak.list [((1, 0, 0), .old (1, 0, 0), boxed (encMod m))] rfl (by rfl) ?_ (.old rfl (BLe.refl _) .nil)
        (repeat' first | exact TLes.nil | refine TLes.cons (TLe.eq rfl) ?_ | refine TLes.cons (TLe.int ?_) ?_)
        · rw [hs2, h4]; omega
        · exact wrap64 (by omega) (by omega)
    · have hkl : k = f.blocks.length := by rw [hfi] at hb; simp only [decide_eq_false_iff_not] at hb; omega
      subst hkl
      refine ⟨i + 1, hlt, by omega, ?_⟩
      refine Weak.list [((1, 0, 0), .old (1, 0, 0), boxed (encMod m))] rfl (by rfl) ?_ (.old rfl (BLe.refl _) .nil)
      (repeat' first | exact TLes.nil | refine TLes.cons (TLe.eq rfl) ?_ | refine TLes.cons (TLe.int ?_) ?_)
      · rw [hss, List.take_length]; rfl
      · exact wrap64 (by omega) (by omega)
  · have hil : i = m.funcs.length := by simp only [decide_eq_false_iff_not] at hb; omega
    subst hil
    refine ⟨_, rfl, Rel.int ?_⟩
    rw [List.take_length]; rfl
end Go.Proofs.Ytmanpbgaihdalaa
namespace Go.Proofs.Ytmanpbgaihdalaa
open Go Dv
set_option maxRecDepth 10000
set_option linter.unusedSimpArgs false
structure Iv2 (len : Nat) (D : Nat → List Bool → Bool) (is : List Bool) (n : Nat) (js : List Bool) : Prop where
  sz : js.length = len
  be : Beneath len D js
  le : leL is js
  don : ∀ j, j < n → D j is = true → js.getD j false = true
theorem Iv2.set {len : Nat} {D : Nat → List Bool → Bool} {is js : List Bool} {n m : Nat} (h : Iv2 len D is n js) (hD : MonoD D) (hm : m < len) (hd : D m js = true) : Iv2 len D is n (js.set m true) := by
  have hs := h.sz
  refine ⟨by simp [hs], fun c hc i e => ?_, h.le.trans (leL_set _ _), fun j hj hd => leL_set _ _ j (h.don j hj hd)⟩
  rw [set_get (by omega), Bool.or_eq_true] at e
  rcases e with e | e
  · have : m = i := by simpa using e
    subst this
    exact hc.cl m hm (hD m js c (h.be c hc) hd)
  · exact h.be c hc i e
structure Iv0 (len : Nat) (D : Nat → List Bool → Bool) (r : Nat) (is : List Bool) : Prop where
  sz : is.length = len
  be : Beneath len D is
  pr : Closed len D is ∨ r ≤ cnt is
theorem Iv0.next {len : Nat} {D : Nat → List Bool → Bool} {is js : List Bool} {r : Nat} (h0 : Iv0 len D r is) (h : Iv2 len D is len js) : Iv0 len D (r + 1) js := by
  refine ⟨h.sz, h.be, ?_⟩
  obtain ⟨h1, h2⟩ := cnt_mono (by rw [h0.sz, h.sz]) h.le
  by_cases hc : cnt js ≤ cnt is
  · have e := h2 hc
    left
    refine ⟨h.sz, fun n hn hd => ?_⟩
    exact h.don n hn (by rw [e]; exact hd)
  · rcases h0.pr with hcl | hcl
    · exfalso
      have e1 := h.be is hcl
      have := (cnt_mono (by rw [h0.sz, h.sz]) e1).1
      omega
    · right; omega
theorem Iv0.done {len : Nat} {D : Nat → List Bool → Bool} (hD : MonoD D) {is : List Bool} (h0 : Iv0 len D (len + 1) is) : is = lfp len D := by
  refine lfp_uniq hD ?_ h0.be
  rcases h0.pr with h | h
  · exact h
  · have := cnt_le (a := is); rw [h0.sz] at this; omega
theorem ruleOf_mono {does : Func → Block → List Bool → Bool} {m : Module} (hmono : ∀ f b, ∀ is js, leL is js → does f b is = true → does f b js = true) : MonoD (ruleOf does m) := fun n a b h k => by
  unfold ruleOf at k ⊢
  rw [List.any_eq_true] at k ⊢
  obtain ⟨x, hx, hk⟩ := k
  exact ⟨x, hx, hmono _ _ _ _ h hk⟩
theorem ruleOf_at {does : Func → Block → List Bool → Bool} {m : Module} {n i : Nat} {is : List Bool} (hi : i < (m.funcs.getD n default).blocks.length) (h : does (m.funcs.getD n default) ((m.funcs.getD n default).blocks.getD i default) is = true) : ruleOf does m n is = true := by
  unfold ruleOf
  rw [List.any_eq_true]
  exact ⟨_, by rw [getD_lt default hi]; exact List.getElem_mem hi, h⟩
theorem rep_beneath (len : Nat) (D : Nat → List Bool → Bool) : Beneath len D (List.replicate len false) := fun c _ i e => by
  exfalso; simp only [List.getD_eq_getElem?_getD, List.getElem?_replicate] at e; split at e <;> simp at e
def endO (f : Func) (b : Block) (is : List Bool) : Bool := bif bif decide (b.fin.kind = 5) then true else decide (b.fin.kind = 6) then true else bif bif decide (b.fin.kind = 4) then isAt is b.fin.f else false then !(f.blocks.getD b.fin.pad.toNat default).pad.all else false
def insO (x : Ins) (is : List Bool) : Bool := bif decide (x.op = 11) then isAt is x.f else false
theorem outB_of (f : Func) (b : Block) (is : List Bool) : outB f b is = (endO f b is || b.ins.any fun x => insO x is) := by
  unfold outB endO callsB insO
  cases decide (b.fin.kind = 5) <;> cases decide (b.fin.kind = 6) <;> cases decide (b.fin.kind = 4) <;> cases isAt is b.fin.f <;> simp
theorem insO_mono (x : Ins) (is js : List Bool) (h : leL is js) (k : insO x is = true) : insO x js = true := by
  unfold insO at *
  cases e : decide (x.op = 11) with
  | false => rw [e] at k; exact k
  | true => rw [e] at k; exact isAt_mono h k
theorem endO_mono (f : Func) (b : Block) (is js : List Bool) (h : leL is js) (k : endO f b is = true) : endO f b js = true := by
  unfold endO at *
  cases e1 : (bif decide (b.fin.kind = 5) then true else decide (b.fin.kind = 6)) with
  | true => rfl
  | false =>
    rw [e1] at k
    simp only [cond_false] at k ⊢
    cases e2 : decide (b.fin.kind = 4) with
    | false => rw [e2] at k; exact k
    | true =>
      rw [e2] at k
      simp only [cond_true] at k ⊢
      cases e3 : isAt is b.fin.f with
      | false => rw [e3] at k; cases k
      | true => rw [e3] at k; rw [isAt_mono h e3]; exact k
theorem c_rOut (m : Module) (hr : rightB m = true) : FOb 22 [.agg (encMod m)] (outL m) := by
  refine FO_intro tok Try.func22 rfl (by decide +kernel) (Nat.le_of_ble_eq_true rfl) ?_
  refine AWp_facts 0 (fun hl => ?_)
  have hl0 : m.funcs.length ≤ maxL := hl.1.1
  have hD : MonoD (ruleOf (outB) m) := ruleOf_mono (outB_mono)
  have hsp : outL m = lfp m.funcs.length (ruleOf (outB) m) := by simp [outL, spreadL, hr]
  rw [hsp]
  ((repeat' first | refine AWp_seq ?_ | (refine AWp_reg tok (by rfl) ?_; conv => whnf) | refine AWp_block ?_ | (refine @And.intro (underG _ _ _ _) _ ?_ ?_; rotate_left; (conv => whnf); rotate_right)); all_goals (try ((guard_target = underG _ _ _ _); refine underG_none ?_; (all_goals (try simp only [underG, kz1, kz2, kz3, kz4, kz5, kz6, kz7, kz8, kz9, kz10, kz11, kz12, kz13, kz14, kz15, kz16, kz17, kz18, kz19, kz20, maxL, inn_iff] at *)); all_goals omega)))
  refine AWp_loop (fun q : Nat × List Bool => mkS [(1, .bp (1, 0, 0) 0), (3, .rs (13, 0, 0) 1 0 m.funcs.length), (4, iv q.1)] [((1, 0, 0), boxed (encMod m)), ((13, 0, 0), .row true 1 m.funcs.length (fun i => [.bool (q.2.getD i false)]))])
    (fun q => q.1 ≤ m.funcs.length + 1 ∧ Iv0 m.funcs.length (ruleOf (outB) m) q.1 q.2) (fun q => m.funcs.length + 1 - q.1) (0, List.replicate m.funcs.length false)
      ⟨by simp, by simp, rep_beneath _ _, .inr (Nat.zero_le _)⟩ ?_ ?_
  · refine Weak.list [((1, 0, 0), .old (1, 0, 0), boxed (encMod m)), ((13, 0, 0), .old (13, 0, 0), .row true 1 m.funcs.length (fun i => [.bool ((List.replicate m.funcs.length false).getD i false)]))] rfl (by rfl) ?_ (.old rfl (BLe.refl _) (.old rfl (BLe.rowW (Nat.le_refl _) (fun z hz => ?_)) .nil))
    · ((repeat' first | exact TLes.nil | refine TLes.cons (TLe.eq rfl) ?_); skip)
    · exact Wks.of (by simp [List.getD_eq_getElem?_getD, List.getElem?_replicate]; split <;> rfl)
  rintro ⟨r, is⟩ ⟨hrl, h0⟩
  simp only at hrl h0 ⊢
  (repeat' ((fail_if_success (show AWp _ _ _ (Code.region 5 _ _) _ _)); first | refine AWp_seq ?_ | (refine AWp_reg tok (by rfl) ?_; conv => whnf) | refine AWp_block ?_ | (refine AWp_skip ?_; conv => whnf) | (refine AWp_exit ?_; conv => whnf) | (refine AWp_ret ?_; conv => whnf) | refine AWp_cond rfl (fun hb => ?_) (fun hb => ?_)))
  · have hrl2 : r ≤ m.funcs.length := by simp only [decide_eq_true_eq] at hb; omega
    clear hb
    (repeat' ((fail_if_success (show AWp _ _ _ (Code.region 2 _ _) _ _)); first | (refine AWp_reg tok (by rfl) ?_; conv => whnf) | refine AWp_block ?_))
    refine AWp_loop (fun q : Nat × List Bool => mkS [(1, .bp (1, 0, 0) 0), (3, .rs (13, 0, 0) 1 0 m.funcs.length), (4, iv r), (5, iv q.1)] [((1, 0, 0), boxed (encMod m)), ((13, 0, 0), .row true 1 m.funcs.length (fun i => [.bool (q.2.getD i false)]))])
      (fun q => q.1 ≤ m.funcs.length ∧ Iv2 m.funcs.length (ruleOf (outB) m) is q.1 q.2) (fun q => m.funcs.length - q.1) (0, is)
      ⟨Nat.zero_le _, h0.sz, h0.be, leL.refl _, fun j hj => absurd hj (Nat.not_lt_zero j)⟩ ?_ ?_
    · refine Weak.list [((1, 0, 0), .old (1, 0, 0), boxed (encMod m)), ((13, 0, 0), .old (13, 0, 0), .row true 1 m.funcs.length (fun i => [.bool (is.getD i false)]))] rfl (by rfl) ?_ (.old rfl (BLe.refl _) (.old rfl (BLe.refl _) .nil))
      ((repeat' first | exact TLes.nil | refine TLes.cons (TLe.eq rfl) ?_); skip)
    rintro ⟨n, js⟩ ⟨hn, hv⟩
    simp only at hn hv ⊢
    (repeat' ((fail_if_success (show AWp _ _ _ (Code.region 8 _ _) _ _)); first | refine AWp_seq ?_ | (refine AWp_reg tok (by rfl) ?_; conv => whnf) | refine AWp_block ?_ | (refine AWp_skip ?_; conv => whnf) | (refine AWp_exit ?_; conv => whnf) | refine AWp_cond rfl (fun hb => ?_) (fun hb => ?_)))
    · have hlt : n < m.funcs.length := by simp only [decide_eq_true_eq] at hb; omega
      have hnn : (n : Int).toNat = n := Int.toNat_natCast n
      clear hb
      have hbl : (m.funcs.getD n default).blocks.length ≤ 64 := by
        have := right_funcs hr hlt
        unfold funcB at this; rw [Bool.and_eq_true, decide_eq_true_eq] at this
        exact this.1.2.2.2.2.2.1
      ((repeat' ((fail_if_success (show AWp _ _ _ (Code.region 4 _ _) _ _)); first | refine AWp_seq ?_ | (refine AWp_reg tok (by rfl) ?_; conv => whnf) | refine AWp_block ?_ | (refine @And.intro (underG _ _ _ _) _ ?_ ?_; rotate_left; (conv => whnf); rotate_right))); all_goals (try ((guard_target = underG _ _ _ _); refine underG_none ?_; (all_goals (try simp only [underG, kz1, kz2, kz3, kz4, kz5, kz6, kz7, kz8, kz9, kz10, kz11, kz12, kz13, kz14, kz15, kz16, kz17, kz18, kz19, kz20, maxL, inn_iff] at *)); all_goals omega)))
      refine AWp_loop (fun q : Nat × List Bool => mkS [(1, .bp (1, 0, 0) 0), (3, .rs (13, 0, 0) 1 0 m.funcs.length), (4, iv r), (5, iv n), (6, .bp (6, 0, 0) 0), (7, iv q.1)] [((1, 0, 0), boxed (encMod m)), ((13, 0, 0), .row true 1 m.funcs.length (fun i => [.bool (q.2.getD i false)])), ((6, 0, 0), .row true 3 1 (fun _ => encFunc (m.funcs.getD n default)))])
        (fun q => q.1 ≤ (m.funcs.getD n default).blocks.length ∧ Iv2 m.funcs.length (ruleOf (outB) m) is n q.2 ∧ ∀ j, j < q.1 → outB (m.funcs.getD n default) ((m.funcs.getD n default).blocks.getD j default) is = true → q.2.getD n false = true) (fun q => (m.funcs.getD n default).blocks.length - q.1) (0, js)
        ⟨Nat.zero_le _, hv, fun j hj => absurd hj (Nat.not_lt_zero j)⟩ ?_ ?_
      · refine Weak.list [((1, 0, 0), .old (1, 0, 0), boxed (encMod m)), ((13, 0, 0), .old (13, 0, 0), .row true 1 m.funcs.length (fun i => [.bool (js.getD i false)])), ((6, 0, 0), .old (6, 0, 0), .row true 3 1 (fun _ => encFunc (m.funcs.getD n default)))] rfl (by rfl) ?_ (.old rfl (BLe.refl _) (.old rfl (BLe.refl _) (.old rfl (BLe.rowW (Nat.le_refl _) (fun z hz2 => Wks.of (match z, hz2 with | 0, _ => rfl))) .nil)))
        ((repeat' first | exact TLes.nil | refine TLes.cons (TLe.eq rfl) ?_); skip)
      clear hv js
      rintro ⟨i, js⟩ ⟨hi, hv, hdone⟩
      simp only at hi hv hdone ⊢
      (repeat' ((fail_if_success (show AWp _ _ _ (Code.region 12 _ _) _ _)); first | refine AWp_seq ?_ | (refine AWp_reg tok (by rfl) ?_; conv => whnf) | refine AWp_block ?_ | (refine AWp_skip ?_; conv => whnf) | (refine AWp_exit ?_; conv => whnf) | refine AWp_cond rfl (fun hb => ?_) (fun hb => ?_)))
      · have hlt2 : i < (m.funcs.getD n default).blocks.length := by simp only [decide_eq_true_eq] at hb; omega
        have hii : (i : Int).toNat = i := Int.toNat_natCast i
        clear hb
        have hok := okB_of hr hlt hlt2
        have hins : ((m.funcs.getD n default).blocks.getD i default).ins.length ≤ 64 := by
          have := func_blocks (right_funcs hr hlt) hlt2
          unfold blkB at this; rw [Bool.and_eq_true, decide_eq_true_eq] at this
          exact this.1.1
        have h1 := hok.fn
        have h2 := hok.pad
        have h3 := hok.ins
        have hsz := hv.sz
        ((repeat' ((fail_if_success (show AWp _ _ _ (Code.region 13 _ _) _ _)); first | refine AWp_seq ?_ | (refine AWp_reg tok (by rfl) ?_; conv => whnf) | (refine @And.intro (underG _ _ _ _) _ ?_ ?_; rotate_left; (conv => whnf); rotate_right))); all_goals (try ((guard_target = underG _ _ _ _); refine underG_none ?_; (all_goals (try simp only [underG, kz1, kz2, kz3, kz4, kz5, kz6, kz7, kz8, kz9, kz10, kz11, kz12, kz13, kz14, kz15, kz16, kz17, kz18, kz19, kz20, maxL, inn_iff] at *)); all_goals omega)))
        refine AWp_weak (Weak.list (tl := [(1, .bp (1, 0, 0) 0), (3, .rs (13, 0, 0) 1 0 m.funcs.length), (4, iv r), (5, iv n), (6, .bp (6, 0, 0) 0), (7, iv i), (8, .bp (8, 0, 0) 0)]) [((1, 0, 0), .old (1, 0, 0), boxed (encMod m)), ((13, 0, 0), .old (13, 0, 0), .row true 1 m.funcs.length (fun i => [.bool (js.getD i false)])), ((6, 0, 0), .old (6, 0, 0), .row true 3 1 (fun _ => encFunc (m.funcs.getD n default))), ((8, 0, 0), .old (8, 0, 0), .row true 14 1 (fun _ => encBlock ((m.funcs.getD n default).blocks.getD i default)))] rfl (by rfl) ?_ (.old rfl (BLe.refl _) (.old rfl (BLe.refl _) (.old rfl (BLe.refl _) (.old rfl (BLe.rowW (Nat.le_refl _) (fun z hz2 => Wks.of (match z, hz2 with | 0, _ => rfl))) .nil))))) ?_
        · ((repeat' first | exact TLes.nil | refine TLes.cons (TLe.eq rfl) ?_); skip)
        have hgen : ∃ f, m.funcs.getD n default = f := ⟨_, rfl⟩
        obtain ⟨f, hfe⟩ := hgen
        have hf2 : ∀ x, x = n → m.funcs.getD x default = f := fun x e => by rw [e]; exact hfe
        simp only [hfe] at *
        have hgen : ∃ b, f.blocks.getD i default = b := ⟨_, rfl⟩
        obtain ⟨b, hbe⟩ := hgen
        have hb2 : ∀ x, x = i → f.blocks.getD x default = b := fun x e => by rw [e]; exact hbe
        have hat : ∀ js, outB f b js = true → ruleOf (outB) m n js = true := fun js h => ruleOf_at (by rw [hf2 n rfl]; exact hlt2) (by rw [hf2 n rfl, hbe]; exact h)
        simp only [hbe] at *
        have hset : ∀ js : List Bool, js.length = m.funcs.length → (js.set n true).getD n false = true := fun js h => by rw [set_get (by omega)]; simp
        ((repeat' ((fail_if_success (show AWp _ _ _ (Code.region 6 _ _) _ _)); first | refine AWp_seq ?_ | (refine AWp_reg tok (by rfl) ?_; conv => whnf) | refine AWp_block ?_ | (refine AWp_skip ?_; conv => whnf) | refine AWp_cond rfl (fun hb => ?_) (fun hb => ?_) | (refine @And.intro (underG _ _ _ _) _ ?_ ?_; rotate_left; (conv => whnf); rotate_right))); all_goals (try ((guard_target = underG _ _ _ _); (first | refine underG_none ?_ | (refine underG_some ?_; intro hgd; (conv at hgd => whnf); (try simp (disch := omega) only [wrap64] at hgd))); (all_goals (try simp only [underG, kz1, kz2, kz3, kz4, kz5, kz6, kz7, kz8, kz9, kz10, kz11, kz12, kz13, kz14, kz15, kz16, kz17, kz18, kz19, kz20, maxL, inn_iff] at *)); all_goals omega)))
        · have hx : endO f b js = true := by simpa [endO, isAt] using hb
          have hv1 := hv.set hD hlt (hat js (by rw [outB_of, hx]; rfl))
          have hd1 : ∀ j, j < i → outB f (f.blocks.getD j default) is = true → (js.set n true).getD n false = true := fun _ _ _ => hset js hsz
          have he1 : endO f b is = true → (js.set n true).getD n false = true := fun _ => hset js hsz
          refine AWp_weak (Weak.list (tl := [(1, .bp (1, 0, 0) 0), (3, .rs (13, 0, 0) 1 0 m.funcs.length), (4, iv r), (5, iv n), (6, .bp (6, 0, 0) 0), (7, iv i), (8, .bp (8, 0, 0) 0), (9, iv 0)]) [((1, 0, 0), .old (1, 0, 0), boxed (encMod m)), ((13, 0, 0), .old (13, 0, 0), .row true 1 m.funcs.length (fun i => [.bool ((js.set n true).getD i false)])), ((6, 0, 0), .old (6, 0, 0), .row true 3 1 (fun _ => encFunc f)), ((8, 0, 0), .old (8, 0, 0), .row true 14 1 (fun _ => encBlock b))] rfl (by rfl) ?_ (.old rfl (BLe.refl _) (.old rfl (BLe.rowW (Nat.le_refl _) (fun z hz2 => Wks.of ?_)) (.old rfl (BLe.refl _) (.old rfl (BLe.refl _) .nil))))) ?_
          · ((repeat' first | exact TLes.nil | refine TLes.cons (TLe.eq rfl) ?_); skip)
          · exact upd_row' (fun b => [AV.bool b]) false js (by omega) (by simp) rfl z
          clear hv hdone hsz hb hx
          generalize js.set n true = js at hv1 hd1 he1 ⊢
          refine AWp_loop (fun q : Nat × List Bool => mkS [(1, .bp (1, 0, 0) 0), (3, .rs (13, 0, 0) 1 0 m.funcs.length), (4, iv r), (5, iv n), (6, .bp (6, 0, 0) 0), (7, iv i), (8, .bp (8, 0, 0) 0), (9, iv q.1)] [((1, 0, 0), boxed (encMod m)), ((13, 0, 0), .row true 1 m.funcs.length (fun i => [.bool (q.2.getD i false)])), ((6, 0, 0), .row true 3 1 (fun _ => encFunc f)), ((8, 0, 0), .row true 14 1 (fun _ => encBlock b))])
            (fun q => q.1 ≤ b.ins.length ∧ Iv2 m.funcs.length (ruleOf (outB) m) is n q.2 ∧ (∀ j, j < i → outB f (f.blocks.getD j default) is = true → q.2.getD n false = true) ∧ (endO f b is = true → q.2.getD n false = true) ∧ ∀ j, j < q.1 → insO (b.ins.getD j default) is = true → q.2.getD n false = true)
            (fun q => b.ins.length - q.1) (0, js) ⟨Nat.zero_le _, hv1, hd1, he1, fun j hj => absurd hj (Nat.not_lt_zero j)⟩ ?_ ?_
          · refine Weak.list [((1, 0, 0), .old (1, 0, 0), boxed (encMod m)), ((13, 0, 0), .old (13, 0, 0), .row true 1 m.funcs.length (fun i => [.bool (js.getD i false)])), ((6, 0, 0), .old (6, 0, 0), .row true 3 1 (fun _ => encFunc f)), ((8, 0, 0), .old (8, 0, 0), .row true 14 1 (fun _ => encBlock b))] rfl (by rfl) ?_ (.old rfl (BLe.refl _) (.old rfl (BLe.refl _) (.old rfl (BLe.refl _) (.old rfl (BLe.refl _) .nil))))
            ((repeat' first | exact TLes.nil | refine TLes.cons (TLe.eq rfl) ?_); skip)
          clear hv1 hd1 he1 js
          rintro ⟨k, js⟩ ⟨hk, hv, hd, he, hin⟩
          simp only at hk hv hd he hin ⊢
          have hsz := hv.sz
          have hkk : (k : Int).toNat = k := Int.toNat_natCast k
          (repeat' ((fail_if_success (show AWp _ _ _ (Code.region 18 _ _) _ _)); first | refine AWp_seq ?_ | (refine AWp_reg tok (by rfl) ?_; conv => whnf) | refine AWp_block ?_ | (refine AWp_skip ?_; conv => whnf) | (refine AWp_exit ?_; conv => whnf) | refine AWp_cond rfl (fun hb => ?_) (fun hb => ?_)))
          · have hk2 : k < b.ins.length := by simp only [decide_eq_true_eq] at hb; omega
            have hop := h3 k hk2
            clear hb
            ((repeat' first | (refine AWp_reg tok (by rfl) ?_; conv => whnf) | (refine AWp_skip ?_; conv => whnf) | refine AWp_cond rfl (fun hb => ?_) (fun hb => ?_) | (refine @And.intro (underG _ _ _ _) _ ?_ ?_; rotate_left; (conv => whnf); rotate_right)); all_goals (try ((guard_target = underG _ _ _ _); (first | refine underG_none ?_ | (refine underG_some ?_; intro hgd; (conv at hgd => whnf))); (all_goals (try simp only [underG, kz1, kz2, kz3, kz4, kz5, kz6, kz7, kz8, kz9, kz10, kz11, kz12, kz13, kz14, kz15, kz16, kz17, kz18, kz19, kz20, maxL, inn_iff] at *)); all_goals omega)))
            skip
            · have hx : insO (b.ins.getD k default) js = true := by simpa [insO, isAt] using hb
              refine ⟨(k + 1, js.set n true), ⟨by simp; omega, hv.set hD hlt (hat js ?_), fun _ _ _ => hset js hsz, fun _ => hset js hsz, fun _ _ _ => hset js hsz⟩, by simp; omega, ?_⟩
              · rw [outB_of, Bool.or_eq_true, List.any_eq_true]
                exact .inr ⟨_, by rw [getD_lt default hk2]; exact List.getElem_mem hk2, hx⟩
              refine Weak.list [((1, 0, 0), .old (1, 0, 0), boxed (encMod m)), ((13, 0, 0), .old (13, 0, 0), .row true 1 m.funcs.length (fun i => [.bool ((js.set n true).getD i false)])), ((6, 0, 0), .old (6, 0, 0), .row true 3 1 (fun _ => encFunc f)), ((8, 0, 0), .old (8, 0, 0), .row true 14 1 (fun _ => encBlock b))] rfl (by rfl) ?_ (.old rfl (BLe.refl _) (.old rfl (BLe.rowW (Nat.le_refl _) (fun z hz2 => Wks.of ?_)) (.old rfl (BLe.refl _) (.old rfl (BLe.refl _) .nil))))
              · ((repeat' first | exact TLes.nil | refine TLes.cons (TLe.eq rfl) ?_ | refine TLes.cons (TLe.int ?_) ?_); (all_goals first | ((try (simp only [underG, kz1, kz2, kz3, kz4, kz5, kz6, kz7, kz8, kz9, kz10, kz11, kz12, kz13, kz14, kz15, kz16, kz17, kz18, kz19, kz20, maxL, inn_iff] at *)); exact wrap64 (by omega) (by omega)) | skip))
              · exact upd_row' (fun b => [AV.bool b]) false js (by omega) (by simp) rfl z
            · have hx : insO (b.ins.getD k default) js = false := by simpa [insO, isAt] using hb
              refine ⟨(k + 1, js), ⟨by simp; omega, hv, hd, he, fun j hj h => ?_⟩, by simp; omega, ?_⟩
              · by_cases e : j = k
                · subst e
                  have := insO_mono (b.ins.getD j default) is js hv.le h
                  rw [hx] at this; cases this
                · exact hin j (by simp at hj; omega) h
              refine Weak.list [((1, 0, 0), .old (1, 0, 0), boxed (encMod m)), ((13, 0, 0), .old (13, 0, 0), .row true 1 m.funcs.length (fun i => [.bool (js.getD i false)])), ((6, 0, 0), .old (6, 0, 0), .row true 3 1 (fun _ => encFunc f)), ((8, 0, 0), .old (8, 0, 0), .row true 14 1 (fun _ => encBlock b))] rfl (by rfl) ?_ (.old rfl (BLe.refl _) (.old rfl (BLe.refl _) (.old rfl (BLe.refl _) (.old rfl (BLe.refl _) .nil))))
              ((repeat' first | exact TLes.nil | refine TLes.cons (TLe.eq rfl) ?_ | refine TLes.cons (TLe.int ?_) ?_); (all_goals first | ((try (simp only [underG, kz1, kz2, kz3, kz4, kz5, kz6, kz7, kz8, kz9, kz10, kz11, kz12, kz13, kz14, kz15, kz16, kz17, kz18, kz19, kz20, maxL, inn_iff] at *)); exact wrap64 (by omega) (by omega)) | skip))
          · have hk2 : k = b.ins.length := by simp only [decide_eq_false_iff_not] at hb; omega
            clear hb
            skip
            refine ⟨(i + 1, js), ⟨by simp; omega, hv, fun j hj h => ?_⟩, by simp; omega, ?_⟩
            · by_cases e : j = i
              · subst e
                rw [hb2 j rfl, outB_of, Bool.or_eq_true, List.any_eq_true] at h
                rcases h with h | ⟨x, hx, h⟩
                · exact he h
                · obtain ⟨q, hq, rfl⟩ := List.getElem_of_mem hx
                  exact hin q (by omega) (by rw [getD_lt default hq]; exact h)
              · exact hd j (by simp at hj; omega) h
            refine Weak.list [((1, 0, 0), .old (1, 0, 0), boxed (encMod m)), ((13, 0, 0), .old (13, 0, 0), .row true 1 m.funcs.length (fun i => [.bool (js.getD i false)])), ((6, 0, 0), .old (6, 0, 0), .row true 3 1 (fun _ => encFunc f))] rfl (by rfl) ?_ (.old rfl (BLe.refl _) (.old rfl (BLe.refl _) (.old rfl (BLe.refl _) .nil)))
            ((repeat' first | exact TLes.nil | refine TLes.cons (TLe.eq rfl) ?_ | refine TLes.cons (TLe.int ?_) ?_); (all_goals first | ((try (simp only [underG, kz1, kz2, kz3, kz4, kz5, kz6, kz7, kz8, kz9, kz10, kz11, kz12, kz13, kz14, kz15, kz16, kz17, kz18, kz19, kz20, maxL, inn_iff] at *)); exact wrap64 (by omega) (by omega)) | skip))
        · have hx : endO f b js = false := by simpa [endO, isAt] using hb
          have hv1 := hv
          have hd1 := hdone
          have he1 : endO f b is = true → js.getD n false = true := fun h => by
            have := endO_mono f b is js hv.le h
            rw [hx] at this; cases this
          refine AWp_weak (Weak.list (tl := [(1, .bp (1, 0, 0) 0), (3, .rs (13, 0, 0) 1 0 m.funcs.length), (4, iv r), (5, iv n), (6, .bp (6, 0, 0) 0), (7, iv i), (8, .bp (8, 0, 0) 0), (9, iv 0)]) [((1, 0, 0), .old (1, 0, 0), boxed (encMod m)), ((13, 0, 0), .old (13, 0, 0), .row true 1 m.funcs.length (fun i => [.bool (js.getD i false)])), ((6, 0, 0), .old (6, 0, 0), .row true 3 1 (fun _ => encFunc f)), ((8, 0, 0), .old (8, 0, 0), .row true 14 1 (fun _ => encBlock b))] rfl (by rfl) ?_ (.old rfl (BLe.refl _) (.old rfl (BLe.refl _) (.old rfl (BLe.refl _) (.old rfl (BLe.refl _) .nil))))) ?_
          · ((repeat' first | exact TLes.nil | refine TLes.cons (TLe.eq rfl) ?_); skip)
          clear hv hdone hsz hb hx
          refine AWp_loop (fun q : Nat × List Bool => mkS [(1, .bp (1, 0, 0) 0), (3, .rs (13, 0, 0) 1 0 m.funcs.length), (4, iv r), (5, iv n), (6, .bp (6, 0, 0) 0), (7, iv i), (8, .bp (8, 0, 0) 0), (9, iv q.1)] [((1, 0, 0), boxed (encMod m)), ((13, 0, 0), .row true 1 m.funcs.length (fun i => [.bool (q.2.getD i false)])), ((6, 0, 0), .row true 3 1 (fun _ => encFunc f)), ((8, 0, 0), .row true 14 1 (fun _ => encBlock b))])
            (fun q => q.1 ≤ b.ins.length ∧ Iv2 m.funcs.length (ruleOf (outB) m) is n q.2 ∧ (∀ j, j < i → outB f (f.blocks.getD j default) is = true → q.2.getD n false = true) ∧ (endO f b is = true → q.2.getD n false = true) ∧ ∀ j, j < q.1 → insO (b.ins.getD j default) is = true → q.2.getD n false = true)
            (fun q => b.ins.length - q.1) (0, js) ⟨Nat.zero_le _, hv1, hd1, he1, fun j hj => absurd hj (Nat.not_lt_zero j)⟩ ?_ ?_
          · refine Weak.list [((1, 0, 0), .old (1, 0, 0), boxed (encMod m)), ((13, 0, 0), .old (13, 0, 0), .row true 1 m.funcs.length (fun i => [.bool (js.getD i false)])), ((6, 0, 0), .old (6, 0, 0), .row true 3 1 (fun _ => encFunc f)), ((8, 0, 0), .old (8, 0, 0), .row true 14 1 (fun _ => encBlock b))] rfl (by rfl) ?_ (.old rfl (BLe.refl _) (.old rfl (BLe.refl _) (.old rfl (BLe.refl _) (.old rfl (BLe.refl _) .nil))))
            ((repeat' first | exact TLes.nil | refine TLes.cons (TLe.eq rfl) ?_); skip)
          clear hv1 hd1 he1 js
          rintro ⟨k, js⟩ ⟨hk, hv, hd, he, hin⟩
          simp only at hk hv hd he hin ⊢
          have hsz := hv.sz
          have hkk : (k : Int).toNat = k := Int.toNat_natCast k
          (repeat' ((fail_if_success (show AWp _ _ _ (Code.region 18 _ _) _ _)); first | refine AWp_seq ?_ | (refine AWp_reg tok (by rfl) ?_; conv => whnf) | refine AWp_block ?_ | (refine AWp_skip ?_; conv => whnf) | (refine AWp_exit ?_; conv => whnf) | refine AWp_cond rfl (fun hb => ?_) (fun hb => ?_)))
          · have hk2 : k < b.ins.length := by simp only [decide_eq_true_eq] at hb; omega
            have hop := h3 k hk2
            clear hb
            ((repeat' first | (refine AWp_reg tok (by rfl) ?_; conv => whnf) | (refine AWp_skip ?_; conv => whnf) | refine AWp_cond rfl (fun hb => ?_) (fun hb => ?_) | (refine @And.intro (underG _ _ _ _) _ ?_ ?_; rotate_left; (conv => whnf); rotate_right)); all_goals (try ((guard_target = underG _ _ _ _); (first | refine underG_none ?_ | (refine underG_some ?_; intro hgd; (conv at hgd => whnf))); (all_goals (try simp only [underG, kz1, kz2, kz3, kz4, kz5, kz6, kz7, kz8, kz9, kz10, kz11, kz12, kz13, kz14, kz15, kz16, kz17, kz18, kz19, kz20, maxL, inn_iff] at *)); all_goals omega)))
            skip
            · have hx : insO (b.ins.getD k default) js = true := by simpa [insO, isAt] using hb
              refine ⟨(k + 1, js.set n true), ⟨by simp; omega, hv.set hD hlt (hat js ?_), fun _ _ _ => hset js hsz, fun _ => hset js hsz, fun _ _ _ => hset js hsz⟩, by simp; omega, ?_⟩
              · rw [outB_of, Bool.or_eq_true, List.any_eq_true]
                exact .inr ⟨_, by rw [getD_lt default hk2]; exact List.getElem_mem hk2, hx⟩
              refine Weak.list [((1, 0, 0), .old (1, 0, 0), boxed (encMod m)), ((13, 0, 0), .old (13, 0, 0), .row true 1 m.funcs.length (fun i => [.bool ((js.set n true).getD i false)])), ((6, 0, 0), .old (6, 0, 0), .row true 3 1 (fun _ => encFunc f)), ((8, 0, 0), .old (8, 0, 0), .row true 14 1 (fun _ => encBlock b))] rfl (by rfl) ?_ (.old rfl (BLe.refl _) (.old rfl (BLe.rowW (Nat.le_refl _) (fun z hz2 => Wks.of ?_)) (.old rfl (BLe.refl _) (.old rfl (BLe.refl _) .nil))))
              · ((repeat' first | exact TLes.nil | refine TLes.cons (TLe.eq rfl) ?_ | refine TLes.cons (TLe.int ?_) ?_); (all_goals first | ((try (simp only [underG, kz1, kz2, kz3, kz4, kz5, kz6, kz7, kz8, kz9, kz10, kz11, kz12, kz13, kz14, kz15, kz16, kz17, kz18, kz19, kz20, maxL, inn_iff] at *)); exact wrap64 (by omega) (by omega)) | skip))
              · exact upd_row' (fun b => [AV.bool b]) false js (by omega) (by simp) rfl z
            · have hx : insO (b.ins.getD k default) js = false := by simpa [insO, isAt] using hb
              refine ⟨(k + 1, js), ⟨by simp; omega, hv, hd, he, fun j hj h => ?_⟩, by simp; omega, ?_⟩
              · by_cases e : j = k
                · subst e
                  have := insO_mono (b.ins.getD j default) is js hv.le h
                  rw [hx] at this; cases this
                · exact hin j (by simp at hj; omega) h
              refine Weak.list [((1, 0, 0), .old (1, 0, 0), boxed (encMod m)), ((13, 0, 0), .old (13, 0, 0), .row true 1 m.funcs.length (fun i => [.bool (js.getD i false)])), ((6, 0, 0), .old (6, 0, 0), .row true 3 1 (fun _ => encFunc f)), ((8, 0, 0), .old (8, 0, 0), .row true 14 1 (fun _ => encBlock b))] rfl (by rfl) ?_ (.old rfl (BLe.refl _) (.old rfl (BLe.refl _) (.old rfl (BLe.refl _) (.old rfl (BLe.refl _) .nil))))
              ((repeat' first | exact TLes.nil | refine TLes.cons (TLe.eq rfl) ?_ | refine TLes.cons (TLe.int ?_) ?_); (all_goals first | ((try (simp only [underG, kz1, kz2, kz3, kz4, kz5, kz6, kz7, kz8, kz9, kz10, kz11, kz12, kz13, kz14, kz15, kz16, kz17, kz18, kz19, kz20, maxL, inn_iff] at *)); exact wrap64 (by omega) (by omega)) | skip))
          · have hk2 : k = b.ins.length := by simp only [decide_eq_false_iff_not] at hb; omega
            clear hb
            skip
            refine ⟨(i + 1, js), ⟨by simp; omega, hv, fun j hj h => ?_⟩, by simp; omega, ?_⟩
            · by_cases e : j = i
              · subst e
                rw [hb2 j rfl, outB_of, Bool.or_eq_true, List.any_eq_true] at h
                rcases h with h | ⟨x, hx, h⟩
                · exact he h
                · obtain ⟨q, hq, rfl⟩ := List.getElem_of_mem hx
                  exact hin q (by omega) (by rw [getD_lt default hq]; exact h)
              · exact hd j (by simp at hj; omega) h
            refine Weak.list [((1, 0, 0), .old (1, 0, 0), boxed (encMod m)), ((13, 0, 0), .old (13, 0, 0), .row true 1 m.funcs.length (fun i => [.bool (js.getD i false)])), ((6, 0, 0), .old (6, 0, 0), .row true 3 1 (fun _ => encFunc f))] rfl (by rfl) ?_ (.old rfl (BLe.refl _) (.old rfl (BLe.refl _) (.old rfl (BLe.refl _) .nil)))
            ((repeat' first | exact TLes.nil | refine TLes.cons (TLe.eq rfl) ?_ | refine TLes.cons (TLe.int ?_) ?_); (all_goals first | ((try (simp only [underG, kz1, kz2, kz3, kz4, kz5, kz6, kz7, kz8, kz9, kz10, kz11, kz12, kz13, kz14, kz15, kz16, kz17, kz18, kz19, kz20, maxL, inn_iff] at *)); exact wrap64 (by omega) (by omega)) | skip))
      · have hi2 : i = (m.funcs.getD n default).blocks.length := by simp only [decide_eq_false_iff_not] at hb; omega
        refine ⟨(n + 1, js), ⟨by simp; omega, hv.sz, hv.be, hv.le, fun j hj hd => ?_⟩, by simp; omega, ?_⟩
        · by_cases e : j = n
          · subst e
            unfold ruleOf at hd
            rw [List.any_eq_true] at hd
            obtain ⟨x, hx, hk⟩ := hd
            obtain ⟨q, hq, rfl⟩ := List.getElem_of_mem hx
            exact hdone q (by omega) (by rw [getD_lt default hq]; exact hk)
          · exact hv.don j (by simp at hj; omega) hd
        refine Weak.list [((1, 0, 0), .old (1, 0, 0), boxed (encMod m)), ((13, 0, 0), .old (13, 0, 0), .row true 1 m.funcs.length (fun i => [.bool (js.getD i false)]))] rfl (by rfl) ?_ (.old rfl (BLe.refl _) (.old rfl (BLe.refl _) .nil))
        ((repeat' first | exact TLes.nil | refine TLes.cons (TLe.eq rfl) ?_ | refine TLes.cons (TLe.int ?_) ?_); (all_goals first | ((try (simp only [underG, kz1, kz2, kz3, kz4, kz5, kz6, kz7, kz8, kz9, kz10, kz11, kz12, kz13, kz14, kz15, kz16, kz17, kz18, kz19, kz20, maxL, inn_iff] at *)); exact wrap64 (by omega) (by omega)) | skip))
    · have hn2 : n = m.funcs.length := by simp only [decide_eq_false_iff_not] at hb; omega
      subst hn2
      refine ⟨(r + 1, js), ⟨by simp; omega, h0.next hv⟩, by simp; omega, ?_⟩
      refine Weak.list [((1, 0, 0), .old (1, 0, 0), boxed (encMod m)), ((13, 0, 0), .old (13, 0, 0), .row true 1 m.funcs.length (fun i => [.bool (js.getD i false)]))] rfl (by rfl) ?_ (.old rfl (BLe.refl _) (.old rfl (BLe.refl _) .nil))
      ((repeat' first | exact TLes.nil | refine TLes.cons (TLe.eq rfl) ?_ | refine TLes.cons (TLe.int ?_) ?_); (all_goals first | ((try (simp only [underG, kz1, kz2, kz3, kz4, kz5, kz6, kz7, kz8, kz9, kz10, kz11, kz12, kz13, kz14, kz15, kz16, kz17, kz18, kz19, kz20, maxL, inn_iff] at *)); exact wrap64 (by omega) (by omega)) | skip))
  · have hr2 : r = m.funcs.length + 1 := by simp only [decide_eq_false_iff_not] at hb; omega
    subst hr2
    have he := h0.done hD
    refine ⟨_, rfl, .rs rfl (Nat.le_refl _) ?_ (fun _ _ => ?_)⟩
    · rw [← he, h0.sz]
    · rw [← he]
end Go.Proofs.Ytmanpbgaihdalaa
namespace Go.Proofs.Ytmanpbgaihdalaa
open Go Dv
set_option maxRecDepth 10000
set_option linter.unusedSimpArgs false
theorem setB_same {m : Module} {n k : Nat} : setB m n k ((m.funcs.getD n default).blocks.getD k default) = m := by
  unfold setB
  obtain ⟨fs⟩ := m
  congr 1
  refine list_ext_getD default (by simp) (fun i hi => ?_)
  rw [getD_set]
  split
  · rename_i h
    obtain ⟨rfl, h2⟩ := h
    have : (fs.getD n default).blocks.set k ((fs.getD n default).blocks.getD k default) = (fs.getD n default).blocks := by
      refine list_ext_getD default (by simp) (fun q hq => ?_)
      rw [getD_set]; split
      · rename_i h; rw [h.1]
      · rfl
    simp only [this]
  · rfl
theorem calmP_hb2 {out : List Bool} {b : Block} {c : Bool} (h : (bif bif decide (b.fin.kind = 4) then !out.getD (0 + b.fin.f.toNat) false else false then decide ((b.ins.length : Int) < 64) else false) = c) : calmP out b = c := by
  rw [Bool.eq_iff_iff, calmP_iff, ← h, Nat.zero_add]
  unfold isAt
  cases h1 : decide (b.fin.kind = 4) <;> cases h2 : out.getD b.fin.f.toNat false <;> simp at h1 ⊢ <;> omega
set_option maxHeartbeats 2000000 in
theorem c_r14Module (m : Module) (hr : rightB m = true) : FC Try.prog 36 [.agg (encMod m)] (.agg (encMod (passM (calmB (outL m)) m))) := by
  obtain ⟨fs⟩ := m
  refine FC_intro tok Try.func36 rfl (by decide +kernel) (Nat.le_of_ble_eq_true rfl) ?_
  refine AWp_facts 0 (fun hl => ?_)
  have hl0 : fs.length ≤ maxL := hl.1.1
  have hmx : maxL = 4294967296 := rfl
  have hl1 : ∀ i, i < fs.length → (fs.getD i default).blocks.length ≤ maxL := fun i hi => (hl.1.2 i hi).2.2.1.1
  clear hl
  (repeat' first | refine AWp_seq ?_ | (refine AWp_reg tok (by rfl) ?_; conv => whnf))
  refine .inl ⟨_, _, _, uG (QC.fo (rd := []) (c_rOut ⟨fs⟩ hr) (Ress.imms rfl) (.inl rfl) rfl), ?_⟩
  conv => whnf
  have hol : (outL ⟨fs⟩).length = fs.length := outL_len hr
  have hgen : ∃ out, outL ⟨fs⟩ = out := ⟨_, rfl⟩
  obtain ⟨out, hout⟩ := hgen
  rw [hout] at hol ⊢
  (repeat' ((fail_if_success (show AWp _ _ _ (Code.region 3 _ _) _ _)); first | refine AWp_seq ?_ | (refine AWp_reg tok (by rfl) ?_; conv => whnf) | refine AWp_block ?_))
  refine AWp_loop (fun n : Nat => mkS [(1, .bp (1, 0, 0) 0), (2, .bp (2, 0, 0) 0), (3, .rs (30, 0, 0) 1 0 out.length), (4, iv n)] [((1, 0, 0), .row true 1 1 (fun _ => [funcss (curS (calmB out) fs n 0)])), ((2, 0, 0), boxed [.nsl]), ((30, 0, 0), .row true 1 out.length (fun i => [.bool (out.getD i false)]))]) (fun n => n ≤ fs.length) (fun n => fs.length - n) 0 (Nat.zero_le _) ?_ ?_
  · refine Weak.list [((1, 0, 0), .old (1, 0, 0), .row true 1 1 (fun _ => [funcss (curS (calmB out) fs 0 0)])), ((2, 0, 0), .old (2, 0, 0), boxed [.nsl]), ((30, 0, 0), .old (9, 0, 0), .row true 1 out.length (fun i => [.bool (out.getD i false)]))] rfl (by rfl) ?_ (.old rfl (BLe.rowW (Nat.le_refl _) (ltS (Wks.of ?_) lt0)) (.old rfl (BLe.refl _) (.old rfl (BLe.refl _) .nil)))
    · ((repeat' first | exact TLes.nil | refine TLes.cons (TLe.eq rfl) ?_); skip)
    · rw [curS_zero, curL_zero]; rfl
  intro n hn
  have hsl := curS_len (B := calmB out) fs n 0
  (repeat' ((fail_if_success (show AWp _ _ _ (Code.region 5 _ _) _ _)); first | refine AWp_seq ?_ | (refine AWp_reg tok (by rfl) ?_; conv => whnf) | refine AWp_block ?_ | (refine AWp_skip ?_; conv => whnf) | (refine AWp_exit ?_; conv => whnf) | (refine AWp_ret ?_; conv => whnf) | refine AWp_cond rfl (fun hb => ?_) (fun hb => ?_)))
  · have hlt : n < fs.length := by simp only [decide_eq_true_eq] at hb; rw [hsl] at hb; omega
    clear hb
    have hbl := hl1 n hlt
    (repeat' ((fail_if_success (show AWp _ _ _ (Code.region 6 _ _) _ _)); first | (refine AWp_reg tok (by rfl) ?_; conv => whnf) | refine AWp_block ?_))
    refine AWp_loop (fun k : Nat => mkS [(1, .bp (1, 0, 0) 0), (2, .bp (2, 0, 0) 0), (3, .rs (30, 0, 0) 1 0 out.length), (4, iv n), (5, iv k)] [((1, 0, 0), .row true 1 1 (fun _ => [funcss (curS (calmB out) fs n k)])), ((2, 0, 0), boxed [.nsl]), ((30, 0, 0), .row true 1 out.length (fun i => [.bool (out.getD i false)]))])
      (fun k => k ≤ (fs.getD n default).blocks.length) (fun k => (fs.getD n default).blocks.length - k) 0 (Nat.zero_le _) ?_ ?_
    · refine Weak.list [((1, 0, 0), .old (1, 0, 0), .row true 1 1 (fun _ => [funcss (curS (calmB out) fs n 0)])), ((2, 0, 0), .old (2, 0, 0), boxed [.nsl]), ((30, 0, 0), .old (30, 0, 0), .row true 1 out.length (fun i => [.bool (out.getD i false)]))] rfl (by rfl) ?_ (.old rfl (BLe.refl _) (.old rfl (BLe.refl _) (.old rfl (BLe.refl _) .nil)))
      ((repeat' first | exact TLes.nil | refine TLes.cons (TLe.eq rfl) ?_); skip)
    intro k hk
    have hsk := curS_len (B := calmB out) fs n k
    have hsb : ((curS (calmB out) fs n k).getD n default).blocks.length = (fs.getD n default).blocks.length := by rw [curS_n hlt]; simp [mapF, mapB_len]
    have hnn : (n : Int).toNat = n := Int.toNat_natCast n
    have hkk : (k : Int).toNat = k := Int.toNat_natCast k
    ((repeat' ((fail_if_success (show AWp _ _ _ (Code.region 9 _ _) _ _)); first | refine AWp_seq ?_ | (refine AWp_reg tok (by rfl) ?_; conv => whnf) | refine AWp_block ?_ | (refine AWp_skip ?_; conv => whnf) | (refine AWp_exit ?_; conv => whnf) | refine AWp_cond rfl (fun hb => ?_) (fun hb => ?_) | (refine @And.intro (underG _ _ _ _) _ ?_ ?_; rotate_left; (conv => whnf); rotate_right))); all_goals (try ((guard_target = underG _ _ _ _); refine underG_none ?_; (all_goals (try simp only [underG, kz1, kz2, kz3, kz4, kz5, kz6, kz7, kz8, kz9, kz10, kz11, kz12, kz13, kz14, kz15, kz16, kz17, kz18, kz19, kz20, maxL, inn_iff] at *)); all_goals omega)))
    · have hkl : k < (fs.getD n default).blocks.length := by simp only [decide_eq_true_eq] at hb; rw [hnn, hsb] at hb; omega
      clear hb
      have hget : ((curS (calmB out) fs n k).getD (n : Int).toNat default).blocks.getD (k : Int).toNat default = (fs.getD n default).blocks.getD k default := by
        rw [hnn, hkk, curS_n hlt]; simp only [mapF]; rw [mapB_at hkl, if_neg (Nat.lt_irrefl k)]
      have hok := (blk_ok (func_blocks (right_funcs hr hlt) (i := k) hkl)).fn
      have hset := setB_cur (B := calmB out) hlt hkl
      simp only at hok
      have hgen : ∃ b, (fs.getD n default).blocks.getD k default = b := ⟨_, rfl⟩
      obtain ⟨b, hbk⟩ := hgen
      rw [hbk] at hget hok hset
      refine AWp_weak (Weak.list (tl := [(1, .bp (1, 0, 0) 0), (2, .bp (2, 0, 0) 0), (3, .rs (30, 0, 0) 1 0 out.length), (4, iv n), (5, iv k), (6, .bp (6, 0, 0) 0)]) [((1, 0, 0), .old (1, 0, 0), .row true 1 1 (fun _ => [funcss (curS (calmB out) fs n k)])), ((2, 0, 0), .old (2, 0, 0), boxed [.nsl]), ((30, 0, 0), .old (30, 0, 0), .row true 1 out.length (fun i => [.bool (out.getD i false)])), ((6, 0, 0), .old (6, 0, 0), .row true 14 1 (fun _ => encBlock b))] rfl (by rfl) ?_ (.old rfl (BLe.refl _) (.old rfl (BLe.refl _) (.old rfl (BLe.refl _) (.old rfl (BLe.rowW (Nat.le_refl _) (ltS (Wks.of (by rw [← hget]; rfl)) lt0)) .nil))))) ?_
      · ((repeat' first | exact TLes.nil | refine TLes.cons (TLe.eq rfl) ?_); skip)
      have hok' : b.fin.kind = 4 → 0 ≤ b.fin.f ∧ b.fin.f < out.length := by rw [hol]; exact hok
      ((repeat' ((fail_if_success (show AWp _ _ _ (Code.region 10 _ _) _ _)); first | refine AWp_seq ?_ | (refine AWp_reg tok (by rfl) ?_; conv => whnf) | (refine AWp_skip ?_; conv => whnf) | refine AWp_cond rfl (fun hb => ?_) (fun hb => ?_) | (refine @And.intro (underG _ _ _ _) _ ?_ ?_; rotate_left; (conv => whnf); rotate_right))); all_goals (try ((guard_target = underG _ _ _ _); ((refine underG_some ?_; intro hgd; (conv at hgd => whnf))); (all_goals (try simp only [underG, kz1, kz2, kz3, kz4, kz5, kz6, kz7, kz8, kz9, kz10, kz11, kz12, kz13, kz14, kz15, kz16, kz17, kz18, kz19, kz20, maxL, inn_iff] at *)); all_goals omega)))
      · have hcp : calmP out b = true := calmP_hb2 hb
        obtain ⟨h1, h2, h3⟩ := calmP_iff.1 hcp
        have hB : calmB out b = { b with ins := b.ins ++ [calmI b], fin := ⟨2, 0, 0, 0, [], b.fin.to, 0, 0⟩ } := if_pos hcp
        clear hb
        have hW := c_With ⟨curS (calmB out) fs n k⟩ n k (calmB out b) (by rw [curS_len]; exact hlt) (by rw [hsb]; exact hkl)
        rw [hset, hB] at hW
        ((repeat' first | refine AWp_seq ?_ | (refine AWp_reg tok (by rfl) ?_; conv => whnf) | (refine @And.intro (underG _ _ _ _) _ ?_ ?_; rotate_left; (conv => whnf); rotate_right)); all_goals (try ((guard_target = underG _ _ _ _); refine underG_none ?_; (first | refine And.intro (srcObl_rs rfl ?_) ?_ | refine And.intro srcObl_sl ?_ | skip); (all_goals (try simp only [underG, kz1, kz2, kz3, kz4, kz5, kz6, kz7, kz8, kz9, kz10, kz11, kz12, kz13, kz14, kz15, kz16, kz17, kz18, kz19, kz20, maxL, inn_iff] at *)); all_goals omega)))
        refine .inr ⟨_, _, _, uG (QH.give (rd := [(72, 0, 0)]) hW (.cons (.imm rfl) (.cons (.imm rfl) (.cons (.imm rfl) (.cons (.agg (.cons (.imm rfl) (.cons (.imm rfl) (.cons (.imm rfl) (.cons (.imm rfl) (.cons (.imm rfl) (.cons (.rs rfl (List.mem_singleton.2 rfl) (Nat.le_of_eq (Nat.zero_add _)) ?_ (fun x hx => ?_)) (.cons (.imm rfl) (.cons (.imm rfl) (.cons (.imm rfl) (.cons (.imm rfl) (.cons .nsl (.cons (.imm rfl) (.cons (.imm rfl) (.cons (.imm rfl) .nil))))))))))))))) .nil)))) rfl), ?_⟩
        · simp
        · rw [Nat.zero_add x, Nat.zero_add b.ins.length]
          exact app_snoc (l := b.ins) (v := calmI b) (n := b.ins.length) (f := appR 0 (rowOf 7 []) (fun i => encIns (b.ins.getD i default))) (c := encIns (calmI b)) encIns default 7 rfl (fun q _ => rfl) rfl rfl (by simpa using hx)
        conv => whnf
        (repeat' (refine AWp_reg tok (by rfl) ?_; conv => whnf))
        refine ⟨k + 1, hkl, by omega, ?_⟩
        refine Weak.list [((1, 0, 0), .old (1, 0, 0), .row true 1 1 (fun _ => [funcss (curS (calmB out) fs n (k + 1))])), ((2, 0, 0), .old (2, 0, 0), boxed [.nsl]), ((30, 0, 0), .old (30, 0, 0), .row true 1 out.length (fun i => [.bool (out.getD i false)]))] rfl (by rfl) ?_ (.old rfl (BLe.rowW (Nat.le_refl _) (ltS (Wks.of rfl) lt0)) (.old rfl (BLe.refl _) (.old rfl (BLe.refl _) .nil)))
        ((repeat' first | exact TLes.nil | refine TLes.cons (TLe.eq rfl) ?_ | refine TLes.cons (TLe.int ?_) ?_); (all_goals first | ((try (simp only [underG, kz1, kz2, kz3, kz4, kz5, kz6, kz7, kz8, kz9, kz10, kz11, kz12, kz13, kz14, kz15, kz16, kz17, kz18, kz19, kz20, maxL, inn_iff] at *)); exact wrap64 (by omega) (by omega)) | skip))
      · have hcp : calmP out b = false := calmP_hb2 hb
        have hcb : calmB out b = b := by unfold calmB; rw [if_neg (by rw [hcp]; simp)]
        rw [hcb, ← hget, hnn, hkk] at hset
        have hsame : (⟨curS (calmB out) fs n k⟩ : Module) = ⟨curS (calmB out) fs n (k + 1)⟩ := by
          rw [← hset]; exact (setB_same (m := ⟨curS (calmB out) fs n k⟩)).symm
        have hsame : curS (calmB out) fs n k = curS (calmB out) fs n (k + 1) := congrArg Module.funcs hsame
        refine ⟨k + 1, hkl, by omega, ?_⟩
        refine Weak.list [((1, 0, 0), .old (1, 0, 0), .row true 1 1 (fun _ => [funcss (curS (calmB out) fs n (k + 1))])), ((2, 0, 0), .old (2, 0, 0), boxed [.nsl]), ((30, 0, 0), .old (30, 0, 0), .row true 1 out.length (fun i => [.bool (out.getD i false)]))] rfl (by rfl) ?_ (.old rfl (BLe.rowW (Nat.le_refl _) (ltS (Wks.of (by rw [hsame]; rfl)) lt0)) (.old rfl (BLe.refl _) (.old rfl (BLe.refl _) .nil)))
        ((repeat' first | exact TLes.nil | refine TLes.cons (TLe.eq rfl) ?_ | refine TLes.cons (TLe.int ?_) ?_); (all_goals first | ((try (simp only [underG, kz1, kz2, kz3, kz4, kz5, kz6, kz7, kz8, kz9, kz10, kz11, kz12, kz13, kz14, kz15, kz16, kz17, kz18, kz19, kz20, maxL, inn_iff] at *)); exact wrap64 (by omega) (by omega)) | skip))
    · have hkl : k = (fs.getD n default).blocks.length := by simp only [decide_eq_false_iff_not] at hb; rw [hnn, hsb] at hb; omega
      clear hb
      subst hkl
      refine ⟨n + 1, hlt, by omega, ?_⟩
      refine Weak.list [((1, 0, 0), .old (1, 0, 0), .row true 1 1 (fun _ => [funcss (curS (calmB out) fs (n + 1) 0)])), ((2, 0, 0), .old (2, 0, 0), boxed [.nsl]), ((30, 0, 0), .old (30, 0, 0), .row true 1 out.length (fun i => [.bool (out.getD i false)]))] rfl (by rfl) ?_ (.old rfl (BLe.rowW (Nat.le_refl _) (ltS (Wks.of ?_) lt0)) (.old rfl (BLe.refl _) (.old rfl (BLe.refl _) .nil)))
      · ((repeat' first | exact TLes.nil | refine TLes.cons (TLe.eq rfl) ?_ | refine TLes.cons (TLe.int ?_) ?_); (all_goals first | ((try (simp only [underG, kz1, kz2, kz3, kz4, kz5, kz6, kz7, kz8, kz9, kz10, kz11, kz12, kz13, kz14, kz15, kz16, kz17, kz18, kz19, kz20, maxL, inn_iff] at *)); exact wrap64 (by omega) (by omega)) | skip))
      · show [funcss (curS (calmB out) fs n (fs.getD n default).blocks.length)] = _
        rw [curS_full]
  · have hnl : n = fs.length := by simp only [decide_eq_false_iff_not] at hb; rw [hsl] at hb; omega
    subst hnl
    refine ⟨_, rfl, Rel.agg ?_⟩
    rw [show encMod (passM (calmB out) ⟨fs⟩) = [funcss (curS (calmB out) fs fs.length 0)] from by rw [curS_zero, curL_all]; rfl]
    exact Rels.imm rfl
end Go.Proofs.Ytmanpbgaihdalaa
namespace Go.Proofs.Ytmanpbgaihdalaa
open Go Dv
set_option maxRecDepth 10000
set_option linter.unusedSimpArgs false
end Go.Proofs.Ytmanpbgaihdalaa
namespace Go.Proofs.Ytmanpbgaihdalaa
open Go Dv
set_option maxRecDepth 10000
set_option linter.unusedSimpArgs false
end Go.Proofs.Ytmanpbgaihdalaa
namespace Go.Proofs.Ytmanpbgaihdalaa
open Go Dv
set_option maxRecDepth 10000
set_option linter.unusedSimpArgs false
end Go.Proofs.Ytmanpbgaihdalaa
namespace Go.Proofs.Ytmanpbgaihdalaa
open Go Dv
set_option maxRecDepth 10000
set_option linter.unusedSimpArgs false
end Go.Proofs.Ytmanpbgaihdalaa
namespace Go.Proofs.Ytmanpbgaihdalaa
open Go Dv
set_option maxRecDepth 10000
set_option linter.unusedSimpArgs false
end Go.Proofs.Ytmanpbgaihdalaa
namespace Go.Proofs.Ytmanpbgaihdalaa
open Go Dv
set_option maxRecDepth 10000
set_option linter.unusedSimpArgs false
end Go.Proofs.Ytmanpbgaihdalaa
namespace Go.Proofs.Ytmanpbgaihdalaa
open Go Dv Go.ChangeShapes Go.WideShapes Go.ChangeAt Go.RowKit
open Go.Proofs.Ytmanpbgaihdalaa
set_option maxRecDepth 10000
set_option linter.unusedVariables false
section
variable {H : Type} {enc : TypeId × Value → H} {w : World}
abbrev Sm (H : Type) : DataW H → Prop := fun d => Rows.uptoBulk d ≤ 1048576
theorem bulk_all {ds : List (DataW H)} {n : Nat} (h : Rows.uptoBulkAll ds ≤ n) : ∀ d ∈ ds, Rows.uptoBulk d ≤ n := by
  induction ds with
  | nil => intro d hd; cases hd
  | cons x r ih =>
    simp only [Rows.uptoBulkAll] at h
    intro d hd
    simp only [List.mem_cons] at hd
    rcases hd with rfl | hd
    · omega
    · exact ih (by omega) d hd
theorem bulk_pos (d : DataW H) : 1 ≤ Rows.uptoBulk d := by
  cases d with
  | lit l => cases l <;> simp only [Rows.uptoBulk] <;> omega
  | _ => simp only [Rows.uptoBulk]; omega
theorem bulk_len {ds : List (DataW H)} {n : Nat} (h : Rows.uptoBulkAll ds ≤ n) : ds.length ≤ n := by
  induction ds generalizing n with
  | nil => simp
  | cons x r ih =>
    simp only [Rows.uptoBulkAll] at h
    have := bulk_pos x
    have := ih (n := n - Rows.uptoBulk x) (by omega)
    simp only [List.length_cons]; omega
theorem sm_agg (ds : List (DataW H)) (h : Sm H (.agg ds)) : ∀ d ∈ ds, Sm H d := by
  simp only [Sm, Rows.uptoBulk] at h; exact bulk_all (by omega)
theorem sm_slice (es sp : List (DataW H)) (h : Sm H (.slice es sp)) : es.length ≤ maxL ∧ ∀ x ∈ es, Sm H x := by
  simp only [Sm, Rows.uptoBulk] at h
  have h1 : Rows.uptoBulkAll es ≤ 1048576 := by omega
  exact ⟨Nat.le_trans (bulk_len h1) (by decide), bulk_all h1⟩
theorem rd_int : Rd enc Try.prog w (Sm H) 3 Int (fun n => [iv n]) := Rd.int Try.underlying3
theorem rd_u16 : Rd enc Try.prog w (Sm H) 55 Int (fun n => [.int .u16 n]) := Rd.int Try.underlying55
theorem rd_bool : Rd enc Try.prog w (Sm H) 4 Bool (fun b => [.bool b]) := Rd.bool Try.underlying4
theorem rd_ints : Rd enc Try.prog w (Sm H) 31 (List Int) (fun l => [ints l]) := Rd.slice Try.underlying31 (by decide +kernel) (Nat.le_refl _) (fun _ => ⟨rfl, rfl⟩) rd_int sm_slice
theorem rd_u16s : Rd enc Try.prog w (Sm H) 37 (List Int) (fun l => [u16s l]) := Rd.slice Try.underlying37 (by decide +kernel) (Nat.le_refl _) (fun _ => ⟨rfl, rfl⟩) rd_u16 sm_slice
theorem rd_Ins : Rd enc Try.prog w (Sm H) 57 Ins encIns :=
  Rd.map (fun x => ⟨x.1, x.2.1, x.2.2.1, x.2.2.2.1, x.2.2.2.2.1, x.2.2.2.2.2.1, x.2.2.2.2.2.2.1⟩)
    (Rd.struct (fl := [(3, 1), (3, 1), (3, 1), (3, 1), (55, 1), (3, 1), (31, 1)]) Try.underlying57 (.cons rd_int (.cons rd_int (.cons rd_int (.cons rd_int (.cons rd_u16 (.cons rd_int (.cons rd_ints .nil)))))))
      rfl (by decide +kernel) (by decide +kernel) sm_agg) (fun _ => rfl)
theorem rd_inss : Rd enc Try.prog w (Sm H) 40 (List Ins) (fun l => [inss l]) := Rd.slice Try.underlying40 (by decide +kernel) (by decide) (fun _ => ⟨rfl, rfl⟩) rd_Ins sm_slice
theorem rd_End : Rd enc Try.prog w (Sm H) 36 End encEnd :=
  Rd.map (fun x => ⟨x.1, x.2.1, x.2.2.1, x.2.2.2.1, x.2.2.2.2.1, x.2.2.2.2.2.1, x.2.2.2.2.2.2.1, x.2.2.2.2.2.2.2.1⟩)
    (Rd.struct (fl := [(3, 1), (3, 1), (3, 1), (3, 1), (31, 1), (3, 1), (3, 1), (3, 1)]) Try.underlying36 (.cons rd_int (.cons rd_int (.cons rd_int (.cons rd_int (.cons rd_ints (.cons rd_int (.cons rd_int (.cons rd_int .nil))))))))
      rfl (by decide +kernel) (by decide +kernel) sm_agg) (fun _ => rfl)
theorem rd_Pad : Rd enc Try.prog w (Sm H) 39 Pad encPad :=
  Rd.map (fun x => ⟨x.1, x.2.1, x.2.2.1, x.2.2.2.1⟩)
    (Rd.struct (fl := [(3, 1), (37, 1), (4, 1), (4, 1)]) Try.underlying39 (.cons rd_int (.cons rd_u16s (.cons rd_bool (.cons rd_bool .nil))))
      rfl (by decide +kernel) (by decide +kernel) sm_agg) (fun _ => rfl)
theorem rd_Block : Rd enc Try.prog w (Sm H) 42 Block encBlock :=
  Rd.map (fun x => ⟨x.1, x.2.1, x.2.2.1, x.2.2.2.1⟩)
    (Rd.struct (fl := [(4, 1), (39, 4), (40, 1), (36, 8)]) Try.underlying42 (.cons rd_bool (.cons rd_Pad (.cons rd_inss (.cons rd_End .nil))))
      rfl (by decide +kernel) (by decide +kernel) sm_agg) (fun _ => rfl)
theorem rd_blocks : Rd enc Try.prog w (Sm H) 32 (List Block) (fun l => [blockss l]) := Rd.slice Try.underlying32 (by decide +kernel) (by decide) (fun _ => ⟨rfl, rfl⟩) rd_Block sm_slice
theorem rd_Func : Rd enc Try.prog w (Sm H) 34 Func encFunc :=
  Rd.map (fun x => ⟨x.1, x.2.1, x.2.2.1⟩)
    (Rd.struct (fl := [(3, 1), (3, 1), (32, 1)]) Try.underlying34 (.cons rd_int (.cons rd_int (.cons rd_blocks .nil)))
      rfl (by decide +kernel) (by decide +kernel) sm_agg) (fun _ => rfl)
theorem rd_funcs : Rd enc Try.prog w (Sm H) 22 (List Func) (fun l => [funcss l]) := Rd.slice Try.underlying22 (by decide +kernel) (by decide) (fun _ => ⟨rfl, rfl⟩) rd_Func sm_slice
theorem rd_Module : Rd enc Try.prog w (Sm H) 24 Module encMod :=
  Rd.map (fun x => ⟨x.1⟩)
    (Rd.struct (fl := [(22, 1)]) Try.underlying24 (.cons rd_funcs .nil)
      rfl (by decide +kernel) (by decide +kernel) sm_agg) (fun _ => rfl)
end
theorem small_of {H : Type} {ds gs : List (DataW H)} (hk : Rows.uptoSmall H (ds ++ gs) = true) : ∀ d ∈ ds, Sm H d := by
  have h := of_decide_eq_true hk
  exact fun d hd => bulk_all h d (List.mem_append_left _ hd)
end Go.Proofs.Ytmanpbgaihdalaa
namespace Go.Proofs.Ytmanpbgaihdalaa
open Go Dv
set_option maxRecDepth 10000
set_option linter.unusedSimpArgs false
end Go.Proofs.Ytmanpbgaihdalaa
namespace Go.Proofs.Ytmanpbgaihdalaa
open Go Dv
set_option maxRecDepth 10000
set_option linter.unusedSimpArgs false
def nilPad : Pad := ⟨0, [], false, false⟩
end Go.Proofs.Ytmanpbgaihdalaa
namespace Go.Proofs.Ytmanpbgaihdalaa
open Go Dv
set_option maxRecDepth 10000
set_option linter.unusedSimpArgs false
def retEnd : End := ⟨1, 0, 0, 0, [], 0, 0, 0⟩
end Go.Proofs.Ytmanpbgaihdalaa
