/- The law ThrowsMore holds, in the form Upto. -/
import Derived.Test.YtmanpbgaihdalaaDvc3
import Derived.Test.YtmanpbgaihdalaaLawThrowsMore1
import Derived.RangeFuncGives
import Derived.Maps.AppendAt
import Derived.Shelf.Abstract
import Derived.WalkKit
import Derived.OwnWalkIn
import Derived.TacticsInMore
import Derived.RegionIn
import Derived.LoopNIn
import Derived.LoopIn
import Derived.Test.YtmanpbgaihdalaaRows
import Derived.ProofKit
import Derived.OpenShut
import Derived.JoinedCond
set_option linter.unusedVariables false
set_option linter.unusedSimpArgs false
set_option linter.unnecessarySimpa false
namespace Go.Proofs.Ytmanpbgaihdalaa
open Go Dv
set_option maxRecDepth 10000
set_option linter.unusedSimpArgs false
/-- A looker: a module and a function of it. -/
def encL (m : Module) (f : Func) : List AV := encMod m ++ encFunc f
theorem c_IdxInt {g : FuncId} {cap : List AV} {p : Int → Bool} (hi : immDs cap = true) (hg : ∀ k, FC Try.prog g (iv k :: cap) (.bool (p k))) (l : List Int) : FC Try.prog 163 [ints l, .fn g cap] (iv (idxG p l)) := by
  refine FC_intro tok Try.func163 rfl (by decide +kernel) (Nat.le_of_ble_eq_true rfl) ?_
  refine AWp_facts 0 (fun hl => ?_)
  have hl0 : l.length ≤ maxL := hl.1
  (repeat' first | refine AWp_seq ?_ | (refine AWp_reg tok (by rfl) ?_; conv => whnf) | refine AWp_block ?_)
  refine AWp_loop (fun i : Nat => mkS [(0, ints l), (1, .fn g cap), (7, iv l.length), (8, iv i)] [])
    (fun i => i ≤ l.length ∧ ∀ j, j < i → p (l.getD j 0) = false) (fun i => l.length - i) 0 ⟨Nat.zero_le _, by simp⟩ ?_ ?_
  · refine Weak.list [] rfl (by rfl) ?_ .nil
    ((repeat' first | exact TLes.nil | refine TLes.cons (TLe.eq rfl) ?_ | refine TLes.cons (TLe.fn (by assumption)) ?_); skip)
  rintro i ⟨hi2, hc⟩
  ((repeat' first | refine AWp_seq ?_ | (refine AWp_reg tok (by rfl) ?_; conv => whnf) | refine AWp_block ?_ | (refine AWp_skip ?_; conv => whnf) | (refine AWp_exit ?_; conv => whnf) | (refine AWp_ret ?_; conv => whnf) | (refine (forceL_eq _ _).mpr ?_; conv => whnf) | refine AWp_cond rfl (fun hb => ?_) (fun hb => ?_) | (refine @And.intro (underG _ _ _ _) _ ?_ ?_; rotate_left; (conv => whnf); rotate_right)); all_goals (try ((guard_target = underG _ _ _ _); refine underG_none ?_; (all_goals (try simp only [underG, true_and, and_true, Bool.cond_true_left, Bool.cond_false_left, Bool.cond_true_right, Bool.cond_false_right, Bool.or_eq_true, Bool.and_eq_true, Bool.or_eq_false_iff, Bool.and_eq_false_iff, cond_true, cond_false, Bool.not_eq_eq_eq_not, Bool.not_true, Bool.not_false, decide_eq_true_eq, decide_eq_false_iff_not, Int.toNat_natCast, Nat.zero_add, Decidable.not_not, maxL, inn_iff] at *)); all_goals omega)))
  · have hlt : i < l.length := by simp only [underG, true_and, and_true, Bool.cond_true_left, Bool.cond_false_left, Bool.cond_true_right, Bool.cond_false_right, Bool.or_eq_true, Bool.and_eq_true, Bool.or_eq_false_iff, Bool.and_eq_false_iff, cond_true, cond_false, Bool.not_eq_eq_eq_not, Bool.not_true, Bool.not_false, decide_eq_true_eq, decide_eq_false_iff_not, Int.toNat_natCast, Nat.zero_add, Decidable.not_not, maxL, inn_iff] at *; omega
    refine .inl ⟨_, _, _, uG (QC.fc (hg _) (immDs_app (xs := [_]) rfl hi)), ?_⟩
    conv => whnf
    (repeat' first | refine AWp_seq ?_ | (refine AWp_reg tok (by rfl) ?_; conv => whnf) | (refine AWp_skip ?_; conv => whnf) | (refine AWp_ret ?_; conv => whnf) | refine AWp_cond rfl (fun hb => ?_) (fun hb => ?_))
    · refine ⟨_, rfl, Rel.int ?_⟩
      exact (idxG_at 0 hlt hc (by simpa using hb)).symm
    · refine ⟨i + 1, ⟨hlt, fun j hj => ?_⟩, by omega, ?_⟩
      · by_cases e : j = i
        · subst e; simpa using hb
        · exact hc j (by omega)
      refine Weak.list [] rfl (by rfl) ?_ .nil
      ((repeat' first | exact TLes.nil | refine TLes.cons (TLe.eq rfl) ?_ | refine TLes.cons (TLe.int ?_) ?_ | refine TLes.cons (TLe.fn (by assumption)) ?_); (all_goals first | ((try (simp only [underG, true_and, and_true, Bool.cond_true_left, Bool.cond_false_left, Bool.cond_true_right, Bool.cond_false_right, Bool.or_eq_true, Bool.and_eq_true, Bool.or_eq_false_iff, Bool.and_eq_false_iff, cond_true, cond_false, Bool.not_eq_eq_eq_not, Bool.not_true, Bool.not_false, decide_eq_true_eq, decide_eq_false_iff_not, Int.toNat_natCast, Nat.zero_add, Decidable.not_not, maxL, inn_iff] at *)); exact wrap64 (by omega) (by omega)) | skip))
  · refine ⟨_, rfl, Rel.int ?_⟩
    exact (idxG_none 0 (fun j hj => hc j (by simp only [underG, true_and, and_true, Bool.cond_true_left, Bool.cond_false_left, Bool.cond_true_right, Bool.cond_false_right, Bool.or_eq_true, Bool.and_eq_true, Bool.or_eq_false_iff, Bool.and_eq_false_iff, cond_true, cond_false, Bool.not_eq_eq_eq_not, Bool.not_true, Bool.not_false, decide_eq_true_eq, decide_eq_false_iff_not, Int.toNat_natCast, Nat.zero_add, Decidable.not_not, maxL, inn_iff] at *; omega))).symm
theorem c_HasInt {g : FuncId} {cap : List AV} {p : Int → Bool} (hi : immDs cap = true) (hg : ∀ k, FC Try.prog g (iv k :: cap) (.bool (p k))) (l : List Int) : FC Try.prog 178 [ints l, .fn g cap] (.bool (l.any p)) := by
  refine FC_intro tok Try.func178 rfl (by decide +kernel) (Nat.le_of_ble_eq_true rfl) ?_
  (repeat' first | refine AWp_seq ?_ | (refine AWp_reg tok (by rfl) ?_; conv => whnf) | (refine (forceL_eq _ _).mpr ?_; conv => whnf))
  refine .inl ⟨_, _, _, uG (QC.fc (c_IdxInt hi hg l) (show immDs [ints l, AV.fn g cap] = true from by simp [immDs, immD, ints, hi])), ?_⟩
  conv => whnf
  (repeat' (refine AWp_ret ?_; conv => whnf))
  refine ⟨_, rfl, Rel.bool ?_⟩
  rw [← idxG_any]
theorem c_place (m : Module) (f : Func) (n : Int) : FC Try.prog 167 [.agg (encL m f), iv n] (.bool (inn n f.regs)) := by
  refine FC_intro tok Try.func167 rfl (by decide +kernel) (Nat.le_of_ble_eq_true rfl) ?_
  (repeat' first | refine AWp_seq ?_ | (refine AWp_reg tok (by rfl) ?_; conv => whnf) | (refine AWp_ret ?_; conv => whnf))
  exact ⟨_, rfl, Rel.imm rfl⟩
theorem c_lgoal (m : Module) (f : Func) (n : Int) : FC Try.prog 169 [.agg (encL m f), iv n] (.bool (goalB f n)) := by
  refine FC_intro tok Try.func169 rfl (by decide +kernel) (Nat.le_of_ble_eq_true rfl) ?_
  ((repeat' first | refine AWp_seq ?_ | (refine AWp_reg tok (by rfl) ?_; conv => whnf) | (refine AWp_ret ?_; conv => whnf) | (refine @And.intro (underG _ _ _ _) _ ?_ ?_; rotate_left; (conv => whnf); rotate_right)); all_goals (try ((guard_target = underG _ _ _ _); ((refine underG_some ?_; intro hgd; (conv at hgd => whnf))); (all_goals (try simp only [underG, true_and, and_true, Bool.cond_true_left, Bool.cond_false_left, Bool.cond_true_right, Bool.cond_false_right, Bool.or_eq_true, Bool.and_eq_true, Bool.or_eq_false_iff, Bool.and_eq_false_iff, cond_true, cond_false, Bool.not_eq_eq_eq_not, Bool.not_true, Bool.not_false, decide_eq_true_eq, decide_eq_false_iff_not, Int.toNat_natCast, Nat.zero_add, Decidable.not_not, maxL, inn_iff] at *)); all_goals omega)))
  exact ⟨_, rfl, Rel.imm rfl⟩
def landB (f : Func) (n : Int) : Bool := bif inn n f.blocks.length then (f.blocks.getD n.toNat default).landing else false
theorem c_landing (m : Module) (f : Func) (n : Int) : FC Try.prog 171 [.agg (encL m f), iv n] (.bool (landB f n)) := by
  refine FC_intro tok Try.func171 rfl (by decide +kernel) (Nat.le_of_ble_eq_true rfl) ?_
  ((repeat' first | refine AWp_seq ?_ | (refine AWp_reg tok (by rfl) ?_; conv => whnf) | (refine AWp_ret ?_; conv => whnf) | (refine @And.intro (underG _ _ _ _) _ ?_ ?_; rotate_left; (conv => whnf); rotate_right)); all_goals (try ((guard_target = underG _ _ _ _); ((refine underG_some ?_; intro hgd; (conv at hgd => whnf))); (all_goals (try simp only [underG, true_and, and_true, Bool.cond_true_left, Bool.cond_false_left, Bool.cond_true_right, Bool.cond_false_right, Bool.or_eq_true, Bool.and_eq_true, Bool.or_eq_false_iff, Bool.and_eq_false_iff, cond_true, cond_false, Bool.not_eq_eq_eq_not, Bool.not_true, Bool.not_false, decide_eq_true_eq, decide_eq_false_iff_not, Int.toNat_natCast, Nat.zero_add, Decidable.not_not, maxL, inn_iff] at *)); all_goals omega)))
  exact ⟨_, rfl, Rel.imm rfl⟩
theorem c_call1 (m : Module) (f : Func) (k : Int) : FC Try.prog 179 [iv k, .ip (encL m f)] (.bool (!inn k f.regs)) := by
  refine FC_intro tok Try.func179 rfl (by decide +kernel) (Nat.le_of_ble_eq_true rfl) ?_
  (repeat' first | refine AWp_seq ?_ | (refine AWp_reg tok (by rfl) ?_; conv => whnf))
  refine .inl ⟨_, _, _, uG (QC.fc (c_place m f k) rfl), ?_⟩
  conv => whnf
  (repeat' (refine AWp_ret ?_; conv => whnf))
  exact ⟨_, rfl, Rel.imm rfl⟩
theorem c_lcall (m : Module) (f : Func) (n : Int) (l : List Int) : FC Try.prog 170 [.agg (encL m f), iv n, ints l] (.bool (argsB m f n l)) := by
  refine FC_intro tok Try.func170 rfl (by decide +kernel) (Nat.le_of_ble_eq_true rfl) ?_
  ((repeat' first | refine AWp_seq ?_ | (refine AWp_reg tok (by rfl) ?_; conv => whnf) | (refine AWp_skip ?_; conv => whnf) | (refine AWp_ret ?_; conv => whnf) | refine AWp_cond rfl (fun hb => ?_) (fun hb => ?_) | (refine @And.intro (underG _ _ _ _) _ ?_ ?_; rotate_left; (conv => whnf); rotate_right)); all_goals (try ((guard_target = underG _ _ _ _); ((refine underG_some ?_; intro hgd; (conv at hgd => whnf))); (all_goals (try simp only [underG, true_and, and_true, Bool.cond_true_left, Bool.cond_false_left, Bool.cond_true_right, Bool.cond_false_right, Bool.or_eq_true, Bool.and_eq_true, Bool.or_eq_false_iff, Bool.and_eq_false_iff, cond_true, cond_false, Bool.not_eq_eq_eq_not, Bool.not_true, Bool.not_false, decide_eq_true_eq, decide_eq_false_iff_not, Int.toNat_natCast, Nat.zero_add, Decidable.not_not, maxL, inn_iff] at *)); all_goals omega)))
  · refine ⟨_, rfl, Rel.bool ?_⟩
    unfold argsB inn
    by_cases h0 : n < 0
    · rw [decide_eq_false (show ¬ 0 ≤ n by omega)]; rfl
    · by_cases h1 : (m.funcs.length : Int) ≤ n
      · rw [decide_eq_false (show ¬ n < (m.funcs.length : Int) by omega)]; cases decide (0 ≤ n) <;> rfl
      · rw [decide_eq_false h0, decide_eq_false h1] at hb
        simp only [cond_false, Bool.not_eq_eq_eq_not, Bool.not_true] at hb
        rw [hb]; cases decide (0 ≤ n) <;> cases decide (n < (m.funcs.length : Int)) <;> rfl
  have hh := c_HasInt (g := 179) (cap := [.ip (encL m f)]) (p := fun k => !inn k f.regs) rfl (fun k => c_call1 m f k) l
  refine .inl ⟨_, _, _, uG (QC.sc (rd := [freshD (some 3)]) hh (.cons (.imm rfl) (.cons (.fn (.cons (.ip rfl (List.mem_singleton.2 rfl) (by decide) (Ress.imms rfl)) .nil)) .nil)) rfl), ?_⟩
  conv => whnf
  (repeat' (refine AWp_ret ?_; conv => whnf))
  refine ⟨_, rfl, Rel.bool ?_⟩
  have h0 : ¬ n < 0 := by intro h0; rw [decide_eq_true h0] at hb; cases hb
  rw [decide_eq_false h0] at hb
  have h1 : ¬ (m.funcs.length : Int) ≤ n := by intro h1; rw [decide_eq_true h1] at hb; cases hb
  rw [decide_eq_false h1] at hb
  simp only [cond_false, Bool.not_eq_eq_eq_not, Bool.not_false] at hb
  unfold argsB
  rw [show inn n m.funcs.length = true from (inn_iff _ _).2 ⟨by omega, by omega⟩, hb]
  simp only [cond_true]
  rw [List.not_any_eq_all_not]
  simp
end Go.Proofs.Ytmanpbgaihdalaa
namespace Go.Proofs.Ytmanpbgaihdalaa
open Go Dv
set_option maxRecDepth 10000
set_option linter.unusedSimpArgs false
theorem c_EqualI (l k : List Int) : FC Try.prog 180 [ints l, ints k] (.bool (decide (l = k))) := by
  refine FC_intro tok Try.func180 rfl (by decide +kernel) (Nat.le_of_ble_eq_true rfl) ?_
  refine AWp_facts 0 (fun hl => ?_)
  have hl0 : l.length ≤ maxL := hl.1
  (repeat' first | refine AWp_seq ?_ | (refine AWp_reg tok (by rfl) ?_; conv => whnf) | refine AWp_block ?_ | (refine AWp_skip ?_; conv => whnf) | (refine AWp_ret ?_; conv => whnf) | refine AWp_cond rfl (fun hb => ?_) (fun hb => ?_))
  · refine ⟨_, rfl, Rel.bool ?_⟩
    simp only [underG, true_and, and_true, Bool.cond_true_left, Bool.cond_false_left, Bool.cond_true_right, Bool.cond_false_right, Bool.or_eq_true, Bool.and_eq_true, Bool.or_eq_false_iff, Bool.and_eq_false_iff, cond_true, cond_false, Bool.not_eq_eq_eq_not, Bool.not_true, Bool.not_false, decide_eq_true_eq, decide_eq_false_iff_not, Int.toNat_natCast, Nat.zero_add, Decidable.not_not, maxL, inn_iff] at *
    symm; rw [decide_eq_false_iff_not]
    intro e; rw [e] at hb; exact hb rfl
  have hlen : l.length = k.length := by simp only [underG, true_and, and_true, Bool.cond_true_left, Bool.cond_false_left, Bool.cond_true_right, Bool.cond_false_right, Bool.or_eq_true, Bool.and_eq_true, Bool.or_eq_false_iff, Bool.and_eq_false_iff, cond_true, cond_false, Bool.not_eq_eq_eq_not, Bool.not_true, Bool.not_false, decide_eq_true_eq, decide_eq_false_iff_not, Int.toNat_natCast, Nat.zero_add, Decidable.not_not, maxL, inn_iff] at *; omega
  refine AWp_loop (fun i : Nat => mkS [(0, ints l), (1, ints k), (4, .bool false), (12, iv l.length), (13, iv i)] []) (fun i => i ≤ l.length ∧ ∀ j, j < i → l.getD j 0 = k.getD j 0) (fun i => l.length - i) 0 ⟨Nat.zero_le _, by simp⟩ ?_ ?_
  · refine Weak.list [] rfl (by rfl) ?_ .nil
    ((repeat' first | exact TLes.nil | refine TLes.cons (TLe.eq rfl) ?_); skip)
  rintro i ⟨hi, hc⟩
  ((repeat' first | refine AWp_seq ?_ | (refine AWp_reg tok (by rfl) ?_; conv => whnf) | (refine AWp_any tok mix (by rfl) ?_; conv => whnf) | refine AWp_block ?_ | (refine AWp_skip ?_; conv => whnf) | (refine AWp_exit ?_; conv => whnf) | (refine AWp_ret ?_; conv => whnf) | refine AWp_cond rfl (fun hb => ?_) (fun hb => ?_) | (refine @And.intro (underG _ _ _ _) _ ?_ ?_; rotate_left; (conv => whnf); rotate_right)); all_goals (try ((guard_target = underG _ _ _ _); refine underG_none ?_; (all_goals (try simp only [underG, true_and, and_true, Bool.cond_true_left, Bool.cond_false_left, Bool.cond_true_right, Bool.cond_false_right, Bool.or_eq_true, Bool.and_eq_true, Bool.or_eq_false_iff, Bool.and_eq_false_iff, cond_true, cond_false, Bool.not_eq_eq_eq_not, Bool.not_true, Bool.not_false, decide_eq_true_eq, decide_eq_false_iff_not, Int.toNat_natCast, Nat.zero_add, Decidable.not_not, maxL, inn_iff] at *)); all_goals omega)))
  all_goals simp only [underG, true_and, and_true, Bool.cond_true_left, Bool.cond_false_left, Bool.cond_true_right, Bool.cond_false_right, Bool.or_eq_true, Bool.and_eq_true, Bool.or_eq_false_iff, Bool.and_eq_false_iff, cond_true, cond_false, Bool.not_eq_eq_eq_not, Bool.not_true, Bool.not_false, decide_eq_true_eq, decide_eq_false_iff_not, Int.toNat_natCast, Nat.zero_add, Decidable.not_not, maxL, inn_iff] at *
  · refine ⟨_, rfl, Rel.bool ?_⟩
    symm; rw [decide_eq_false_iff_not]
    intro e; subst e; exact hb rfl
  · refine ⟨i + 1, ⟨by omega, fun j hj => ?_⟩, by omega, ?_⟩
    · by_cases e : j = i
      · subst e; exact hb
      · exact hc j (by omega)
    refine Weak.list [] rfl (by rfl) ?_ .nil
    ((repeat' first | exact TLes.nil | refine TLes.cons (TLe.eq rfl) ?_ | refine TLes.cons (TLe.int ?_) ?_); (all_goals first | (exact wrap64 (by omega) (by omega)) | skip))
  · refine ⟨_, rfl, Rel.bool ?_⟩
    symm; rw [decide_eq_true_eq]
    exact list_ext_getD 0 hlen (fun j hj => hc j (by omega))
theorem c_EqualU (l k : List Int) : FC Try.prog 174 [u16s l, u16s k] (.bool (decide (l = k))) := by
  refine FC_intro tok Try.func174 rfl (by decide +kernel) (Nat.le_of_ble_eq_true rfl) ?_
  refine AWp_facts 0 (fun hl => ?_)
  have hl0 : l.length ≤ maxL := hl.1
  (repeat' first | refine AWp_seq ?_ | (refine AWp_reg tok (by rfl) ?_; conv => whnf) | refine AWp_block ?_ | (refine AWp_skip ?_; conv => whnf) | (refine AWp_ret ?_; conv => whnf) | refine AWp_cond rfl (fun hb => ?_) (fun hb => ?_))
  · refine ⟨_, rfl, Rel.bool ?_⟩
    simp only [underG, true_and, and_true, Bool.cond_true_left, Bool.cond_false_left, Bool.cond_true_right, Bool.cond_false_right, Bool.or_eq_true, Bool.and_eq_true, Bool.or_eq_false_iff, Bool.and_eq_false_iff, cond_true, cond_false, Bool.not_eq_eq_eq_not, Bool.not_true, Bool.not_false, decide_eq_true_eq, decide_eq_false_iff_not, Int.toNat_natCast, Nat.zero_add, Decidable.not_not, maxL, inn_iff] at *
    symm; rw [decide_eq_false_iff_not]
    intro e; rw [e] at hb; exact hb rfl
  have hlen : l.length = k.length := by simp only [underG, true_and, and_true, Bool.cond_true_left, Bool.cond_false_left, Bool.cond_true_right, Bool.cond_false_right, Bool.or_eq_true, Bool.and_eq_true, Bool.or_eq_false_iff, Bool.and_eq_false_iff, cond_true, cond_false, Bool.not_eq_eq_eq_not, Bool.not_true, Bool.not_false, decide_eq_true_eq, decide_eq_false_iff_not, Int.toNat_natCast, Nat.zero_add, Decidable.not_not, maxL, inn_iff] at *; omega
  refine AWp_loop (fun i : Nat => mkS [(0, u16s l), (1, u16s k), (4, .bool false), (12, iv l.length), (13, iv i)] []) (fun i => i ≤ l.length ∧ ∀ j, j < i → l.getD j 0 = k.getD j 0) (fun i => l.length - i) 0 ⟨Nat.zero_le _, by simp⟩ ?_ ?_
  · refine Weak.list [] rfl (by rfl) ?_ .nil
    ((repeat' first | exact TLes.nil | refine TLes.cons (TLe.eq rfl) ?_); skip)
  rintro i ⟨hi, hc⟩
  ((repeat' first | refine AWp_seq ?_ | (refine AWp_reg tok (by rfl) ?_; conv => whnf) | (refine AWp_any tok mix (by rfl) ?_; conv => whnf) | refine AWp_block ?_ | (refine AWp_skip ?_; conv => whnf) | (refine AWp_exit ?_; conv => whnf) | (refine AWp_ret ?_; conv => whnf) | refine AWp_cond rfl (fun hb => ?_) (fun hb => ?_) | (refine @And.intro (underG _ _ _ _) _ ?_ ?_; rotate_left; (conv => whnf); rotate_right)); all_goals (try ((guard_target = underG _ _ _ _); refine underG_none ?_; (all_goals (try simp only [underG, true_and, and_true, Bool.cond_true_left, Bool.cond_false_left, Bool.cond_true_right, Bool.cond_false_right, Bool.or_eq_true, Bool.and_eq_true, Bool.or_eq_false_iff, Bool.and_eq_false_iff, cond_true, cond_false, Bool.not_eq_eq_eq_not, Bool.not_true, Bool.not_false, decide_eq_true_eq, decide_eq_false_iff_not, Int.toNat_natCast, Nat.zero_add, Decidable.not_not, maxL, inn_iff] at *)); all_goals omega)))
  all_goals simp only [underG, true_and, and_true, Bool.cond_true_left, Bool.cond_false_left, Bool.cond_true_right, Bool.cond_false_right, Bool.or_eq_true, Bool.and_eq_true, Bool.or_eq_false_iff, Bool.and_eq_false_iff, cond_true, cond_false, Bool.not_eq_eq_eq_not, Bool.not_true, Bool.not_false, decide_eq_true_eq, decide_eq_false_iff_not, Int.toNat_natCast, Nat.zero_add, Decidable.not_not, maxL, inn_iff] at *
  · refine ⟨_, rfl, Rel.bool ?_⟩
    symm; rw [decide_eq_false_iff_not]
    intro e; subst e; exact hb rfl
  · refine ⟨i + 1, ⟨by omega, fun j hj => ?_⟩, by omega, ?_⟩
    · by_cases e : j = i
      · subst e; exact hb
      · exact hc j (by omega)
    refine Weak.list [] rfl (by rfl) ?_ .nil
    ((repeat' first | exact TLes.nil | refine TLes.cons (TLe.eq rfl) ?_ | refine TLes.cons (TLe.int ?_) ?_); (all_goals first | (exact wrap64 (by omega) (by omega)) | skip))
  · refine ⟨_, rfl, Rel.bool ?_⟩
    symm; rw [decide_eq_true_eq]
    exact list_ext_getD 0 hlen (fun j hj => hc j (by omega))
theorem c_sameIns (x y : Ins) : FC Try.prog 173 [.agg (encIns x), .agg (encIns y)] (.bool (decide (x = y))) := by
  refine FC_intro tok Try.func173 rfl (by decide +kernel) (Nat.le_of_ble_eq_true rfl) ?_
  (repeat' first | refine AWp_seq ?_ | (refine AWp_reg tok (by rfl) ?_; conv => whnf))
  refine .inl ⟨_, _, _, uG (QC.fc (c_EqualI x.args y.args) rfl), ?_⟩
  conv => whnf
  (repeat' (refine AWp_ret ?_; conv => whnf))
  refine ⟨_, rfl, Rel.bool ?_⟩
  obtain ⟨a1, a2, a3, a4, a5, a6, a7⟩ := x
  obtain ⟨b1, b2, b3, b4, b5, b6, b7⟩ := y
  rw [Bool.eq_iff_iff]
  simp [and_assoc]
theorem c_sameEnd (x y : End) : FC Try.prog 172 [.agg (encEnd x), .agg (encEnd y)] (.bool (decide (x = y))) := by
  refine FC_intro tok Try.func172 rfl (by decide +kernel) (Nat.le_of_ble_eq_true rfl) ?_
  (repeat' first | refine AWp_seq ?_ | (refine AWp_reg tok (by rfl) ?_; conv => whnf))
  refine .inl ⟨_, _, _, uG (QC.fc (c_EqualI x.args y.args) rfl), ?_⟩
  conv => whnf
  (repeat' (refine AWp_ret ?_; conv => whnf))
  refine ⟨_, rfl, Rel.bool ?_⟩
  obtain ⟨a1, a2, a3, a4, a5, a6, a7, a8⟩ := x
  obtain ⟨b1, b2, b3, b4, b5, b6, b7, b8⟩ := y
  rw [Bool.eq_iff_iff]
  simp [and_assoc]
theorem c_samePad (x y : Pad) : FC Try.prog 164 [.agg (encPad x), .agg (encPad y)] (.bool (decide (x = y))) := by
  refine FC_intro tok Try.func164 rfl (by decide +kernel) (Nat.le_of_ble_eq_true rfl) ?_
  (repeat' first | refine AWp_seq ?_ | (refine AWp_reg tok (by rfl) ?_; conv => whnf))
  refine .inl ⟨_, _, _, uG (QC.fc (c_EqualU x.catch_ y.catch_) rfl), ?_⟩
  conv => whnf
  (repeat' (refine AWp_ret ?_; conv => whnf))
  refine ⟨_, rfl, Rel.bool ?_⟩
  obtain ⟨a1, a2, a3, a4⟩ := x
  obtain ⟨b1, b2, b3, b4⟩ := y
  rw [Bool.eq_iff_iff]
  simp [and_assoc]
end Go.Proofs.Ytmanpbgaihdalaa
namespace Go.Proofs.Ytmanpbgaihdalaa
open Go Dv
set_option maxRecDepth 10000
set_option linter.unusedSimpArgs false
theorem ins_eq (u x : Ins) : u = x ↔ x.op = u.op ∧ x.dst = u.dst ∧ x.a = u.a ∧ x.b = u.b ∧ x.k = u.k ∧ x.f = u.f ∧ x.args = u.args := by
  rw [eq_comm (a := u)]; cases u; cases x; simp
set_option maxHeartbeats 4000000 in
theorem c_lins (m : Module) (f : Func) (x : Ins) : FC Try.prog 159 [.agg (encL m f), .agg (encIns x)] (.bool (decide (InsP m f x))) := by
  refine FC_intro tok Try.func159 rfl (by decide +kernel) (Nat.le_of_ble_eq_true rfl) ?_
  (repeat' ((fail_if_success (show AWp _ _ _ (Code.region 3 _ _) _ _)); first | refine AWp_seq ?_ | (refine AWp_reg tok (by rfl) ?_; conv => whnf)))
  refine AWp_reg tok (by rfl) ?_
  conv => whnf
  refine AWp_meet (fun q : Ins × Bool => mkS [(2, .bp (2, 0, 0) 0), (3, .bp (3, 0, 0) 0), (4, .bool false), (5, .bp (5, 0, 0) 0), (6, .bool q.2)] [((2, 0, 0), boxed (encL m f)), ((3, 0, 0), boxed (encIns x)), ((5, 0, 0), .row true 7 1 (fun _ => encIns q.1))]) (fun q => (q.2 && decide (q.1 = x)) = decide (InsP m f x)) ?_ ?_
  · (repeat' first | refine AWp_seq ?_ | (refine AWp_reg tok (by rfl) ?_; conv => whnf) | (refine AWp_any tok mix (by rfl) ?_; conv => whnf) | refine AWp_block ?_ | (refine AWp_skip ?_; conv => whnf) | (refine AWp_ret ?_; conv => whnf) | refine AWp_cond rfl (fun hb => ?_) (fun hb => ?_))
    all_goals (try (exfalso; simp only [decide_eq_true_eq, decide_eq_false_iff_not] at *; omega))
    all_goals (repeat' first | (refine .inl ⟨_, _, _, uG (QC.fc (c_place m f x.dst) rfl), ?_⟩; conv => whnf) | (refine .inl ⟨_, _, _, uG (QC.fc (c_place m f x.a) rfl), ?_⟩; conv => whnf) | (refine .inl ⟨_, _, _, uG (QC.fc (c_place m f x.b) rfl), ?_⟩; conv => whnf) | (refine .inl ⟨_, _, _, uG (QC.fc (c_lcall m f x.f x.args) rfl), ?_⟩; conv => whnf))
    skip
    all_goals (have hop := hb; simp only [decide_eq_true_eq, decide_eq_false_iff_not] at hop)
    all_goals (try (first | (refine ⟨(⟨x.op, x.dst, 0, 0, x.k, 0, []⟩, inn x.dst f.regs), ?hp, Weak.list [((2, 0, 0), .old (2, 0, 0), boxed (encL m f)), ((3, 0, 0), .old (3, 0, 0), boxed (encIns x)), ((5, 0, 0), .old (5, 0, 0), .row true 7 1 (fun _ => encIns ⟨x.op, x.dst, 0, 0, x.k, 0, []⟩))] rfl (by rfl) (.cons (.eq rfl) (.cons (.eq rfl) (.cons (.eq rfl) (.cons (.eq rfl) (.cons (.eq rfl) .nil))))) (.old rfl (BLe.refl _) (.old rfl (BLe.refl _) (.old rfl (BLe.rowW (Nat.le_refl _) (fun z hz => ?row)) .nil)))⟩; (case row => (match z, hz with | 0, _ => (repeat' ((conv => arg 1; whnf); (conv => arg 2; whnf); first | refine Wks.cons .refl ?_ | refine Wks.cons (.nsl rfl) ?_ | exact Wks.nil)))); (case hp => (rw [Bool.eq_iff_iff]; simp [InsP, ins_eq, hop, and_assoc, and_comm, and_left_comm]; done))) | (refine ⟨(⟨x.op, x.dst, x.a, 0, 0, 0, []⟩, bif inn x.dst f.regs then inn x.a f.regs else false), ?hp, Weak.list [((2, 0, 0), .old (2, 0, 0), boxed (encL m f)), ((3, 0, 0), .old (3, 0, 0), boxed (encIns x)), ((5, 0, 0), .old (5, 0, 0), .row true 7 1 (fun _ => encIns ⟨x.op, x.dst, x.a, 0, 0, 0, []⟩))] rfl (by rfl) (.cons (.eq rfl) (.cons (.eq rfl) (.cons (.eq rfl) (.cons (.eq rfl) (.cons (.eq rfl) .nil))))) (.old rfl (BLe.refl _) (.old rfl (BLe.refl _) (.old rfl (BLe.rowW (Nat.le_refl _) (fun z hz => ?row)) .nil)))⟩; (case row => (match z, hz with | 0, _ => (repeat' ((conv => arg 1; whnf); (conv => arg 2; whnf); first | refine Wks.cons .refl ?_ | refine Wks.cons (.nsl rfl) ?_ | exact Wks.nil)))); (case hp => (rw [Bool.eq_iff_iff]; simp [InsP, ins_eq, hop, and_assoc, and_comm, and_left_comm]; done))) | (refine ⟨(⟨x.op, x.dst, x.a, x.b, 0, 0, []⟩, bif bif inn x.dst f.regs then inn x.a f.regs else false then inn x.b f.regs else false), ?hp, Weak.list [((2, 0, 0), .old (2, 0, 0), boxed (encL m f)), ((3, 0, 0), .old (3, 0, 0), boxed (encIns x)), ((5, 0, 0), .old (5, 0, 0), .row true 7 1 (fun _ => encIns ⟨x.op, x.dst, x.a, x.b, 0, 0, []⟩))] rfl (by rfl) (.cons (.eq rfl) (.cons (.eq rfl) (.cons (.eq rfl) (.cons (.eq rfl) (.cons (.eq rfl) .nil))))) (.old rfl (BLe.refl _) (.old rfl (BLe.refl _) (.old rfl (BLe.rowW (Nat.le_refl _) (fun z hz => ?row)) .nil)))⟩; (case row => (match z, hz with | 0, _ => (repeat' ((conv => arg 1; whnf); (conv => arg 2; whnf); first | refine Wks.cons .refl ?_ | refine Wks.cons (.nsl rfl) ?_ | exact Wks.nil)))); (case hp => (rw [Bool.eq_iff_iff]; simp [InsP, ins_eq, hop, and_assoc, and_comm, and_left_comm]; done))) | (refine ⟨(⟨x.op, 0, x.a, x.b, 0, 0, []⟩, bif inn x.a f.regs then inn x.b f.regs else false), ?hp, Weak.list [((2, 0, 0), .old (2, 0, 0), boxed (encL m f)), ((3, 0, 0), .old (3, 0, 0), boxed (encIns x)), ((5, 0, 0), .old (5, 0, 0), .row true 7 1 (fun _ => encIns ⟨x.op, 0, x.a, x.b, 0, 0, []⟩))] rfl (by rfl) (.cons (.eq rfl) (.cons (.eq rfl) (.cons (.eq rfl) (.cons (.eq rfl) (.cons (.eq rfl) .nil))))) (.old rfl (BLe.refl _) (.old rfl (BLe.refl _) (.old rfl (BLe.rowW (Nat.le_refl _) (fun z hz => ?row)) .nil)))⟩; (case row => (match z, hz with | 0, _ => (repeat' ((conv => arg 1; whnf); (conv => arg 2; whnf); first | refine Wks.cons .refl ?_ | refine Wks.cons (.nsl rfl) ?_ | exact Wks.nil)))); (case hp => (rw [Bool.eq_iff_iff]; simp [InsP, ins_eq, hop, and_assoc, and_comm, and_left_comm]; done))) | (refine ⟨(⟨x.op, x.dst, 0, 0, 0, x.f, x.args⟩, bif inn x.dst f.regs then argsB m f x.f x.args else false), ?hp, Weak.list [((2, 0, 0), .old (2, 0, 0), boxed (encL m f)), ((3, 0, 0), .old (3, 0, 0), boxed (encIns x)), ((5, 0, 0), .old (5, 0, 0), .row true 7 1 (fun _ => encIns ⟨x.op, x.dst, 0, 0, 0, x.f, x.args⟩))] rfl (by rfl) (.cons (.eq rfl) (.cons (.eq rfl) (.cons (.eq rfl) (.cons (.eq rfl) (.cons (.eq rfl) .nil))))) (.old rfl (BLe.refl _) (.old rfl (BLe.refl _) (.old rfl (BLe.rowW (Nat.le_refl _) (fun z hz => ?row)) .nil)))⟩; (case row => (match z, hz with | 0, _ => (repeat' ((conv => arg 1; whnf); (conv => arg 2; whnf); first | refine Wks.cons .refl ?_ | exact Wks.nil)))); (case hp => (rw [Bool.eq_iff_iff]; simp [InsP, ins_eq, hop, and_assoc, and_comm, and_left_comm]; done))) | (refine ⟨(⟨x.op, 0, x.a, 0, 0, 0, []⟩, inn x.a f.regs), ?hp, Weak.list [((2, 0, 0), .old (2, 0, 0), boxed (encL m f)), ((3, 0, 0), .old (3, 0, 0), boxed (encIns x)), ((5, 0, 0), .old (5, 0, 0), .row true 7 1 (fun _ => encIns ⟨x.op, 0, x.a, 0, 0, 0, []⟩))] rfl (by rfl) (.cons (.eq rfl) (.cons (.eq rfl) (.cons (.eq rfl) (.cons (.eq rfl) (.cons (.eq rfl) .nil))))) (.old rfl (BLe.refl _) (.old rfl (BLe.refl _) (.old rfl (BLe.rowW (Nat.le_refl _) (fun z hz => ?row)) .nil)))⟩; (case row => (match z, hz with | 0, _ => (repeat' ((conv => arg 1; whnf); (conv => arg 2; whnf); first | refine Wks.cons .refl ?_ | refine Wks.cons (.nsl rfl) ?_ | exact Wks.nil)))); (case hp => (rw [Bool.eq_iff_iff]; simp [InsP, ins_eq, hop, and_assoc, and_comm, and_left_comm]; done))) | (refine ⟨(⟨x.op, x.dst, 0, 0, 0, 0, []⟩, inn x.dst f.regs), ?hp, Weak.list [((2, 0, 0), .old (2, 0, 0), boxed (encL m f)), ((3, 0, 0), .old (3, 0, 0), boxed (encIns x)), ((5, 0, 0), .old (5, 0, 0), .row true 7 1 (fun _ => encIns ⟨x.op, x.dst, 0, 0, 0, 0, []⟩))] rfl (by rfl) (.cons (.eq rfl) (.cons (.eq rfl) (.cons (.eq rfl) (.cons (.eq rfl) (.cons (.eq rfl) .nil))))) (.old rfl (BLe.refl _) (.old rfl (BLe.refl _) (.old rfl (BLe.rowW (Nat.le_refl _) (fun z hz => ?row)) .nil)))⟩; (case row => (match z, hz with | 0, _ => (repeat' ((conv => arg 1; whnf); (conv => arg 2; whnf); first | refine Wks.cons .refl ?_ | refine Wks.cons (.nsl rfl) ?_ | exact Wks.nil)))); (case hp => (rw [Bool.eq_iff_iff]; simp [InsP, ins_eq, hop, and_assoc, and_comm, and_left_comm]; done)))))
    refine ⟨_, rfl, Rel.bool ?_⟩
    simp only [decide_eq_true_eq, decide_eq_false_iff_not] at *
    symm; rw [decide_eq_false_iff_not]
    rintro (h | h | h | h | h | h | h) <;> omega
  rintro q hq τ hτ
  refine AWp_weak hτ ?_
  conv => whnf
  (repeat' first | refine AWp_seq ?_ | (refine AWp_reg tok (by rfl) ?_; conv => whnf))
  refine .inl ⟨_, _, _, uG (QC.fc (c_sameIns q.1 x) rfl), ?_⟩
  conv => whnf
  (repeat' (refine AWp_ret ?_; conv => whnf))
  refine ⟨_, rfl, Rel.bool ?_⟩
  rw [← hq]
  cases q.2 <;> rfl
end Go.Proofs.Ytmanpbgaihdalaa
namespace Go.Proofs.Ytmanpbgaihdalaa
open Go Dv
set_option maxRecDepth 10000
set_option linter.unusedSimpArgs false
theorem end_eq (u x : End) : u = x ↔ x.kind = u.kind ∧ x.a = u.a ∧ x.dst = u.dst ∧ x.f = u.f ∧ x.args = u.args ∧ x.to = u.to ∧ x.els = u.els ∧ x.pad = u.pad := by
  rw [eq_comm (a := u)]; cases u; cases x; simp
set_option maxHeartbeats 4000000 in
theorem c_lend (m : Module) (f : Func) (x : End) : FC Try.prog 157 [.agg (encL m f), .agg (encEnd x)] (.bool (decide (EndP m f x))) := by
  refine FC_intro tok Try.func157 rfl (by decide +kernel) (Nat.le_of_ble_eq_true rfl) ?_
  (repeat' ((fail_if_success (show AWp _ _ _ (Code.region 3 _ _) _ _)); first | refine AWp_seq ?_ | (refine AWp_reg tok (by rfl) ?_; conv => whnf)))
  refine AWp_reg tok (by rfl) ?_
  conv => whnf
  refine AWp_meet (fun q : End × Bool => mkS [(2, .bp (2, 0, 0) 0), (3, .bp (3, 0, 0) 0), (4, .bool false), (5, .bp (5, 0, 0) 0), (6, .bool q.2)] [((2, 0, 0), boxed (encL m f)), ((3, 0, 0), boxed (encEnd x)), ((5, 0, 0), .row true 8 1 (fun _ => encEnd q.1))]) (fun q => (q.2 && decide (q.1 = x)) = decide (EndP m f x)) ?_ ?_
  · (repeat' first | refine AWp_seq ?_ | (refine AWp_reg tok (by rfl) ?_; conv => whnf) | (refine AWp_any tok mix (by rfl) ?_; conv => whnf) | refine AWp_block ?_ | (refine AWp_skip ?_; conv => whnf) | (refine AWp_ret ?_; conv => whnf) | refine AWp_cond rfl (fun hb => ?_) (fun hb => ?_))
    all_goals (try (exfalso; simp only [decide_eq_true_eq, decide_eq_false_iff_not] at *; omega))
    all_goals (repeat' first | (refine .inl ⟨_, _, _, uG (QC.fc (c_place m f x.dst) rfl), ?_⟩; conv => whnf) | (refine .inl ⟨_, _, _, uG (QC.fc (c_place m f x.a) rfl), ?_⟩; conv => whnf) | (refine .inl ⟨_, _, _, uG (QC.fc (c_lgoal m f x.to) rfl), ?_⟩; conv => whnf) | (refine .inl ⟨_, _, _, uG (QC.fc (c_lgoal m f x.els) rfl), ?_⟩; conv => whnf) | (refine .inl ⟨_, _, _, uG (QC.fc (c_landing m f x.pad) rfl), ?_⟩; conv => whnf) | (refine .inl ⟨_, _, _, uG (QC.fc (c_lcall m f x.f x.args) rfl), ?_⟩; conv => whnf))
    skip
    all_goals (have hop := hb; simp only [decide_eq_true_eq, decide_eq_false_iff_not] at hop)
    all_goals (try (first | (refine ⟨(⟨x.kind, x.a, 0, 0, [], 0, 0, 0⟩, inn x.a f.regs), ?hp, Weak.list [((2, 0, 0), .old (2, 0, 0), boxed (encL m f)), ((3, 0, 0), .old (3, 0, 0), boxed (encEnd x)), ((5, 0, 0), .old (5, 0, 0), .row true 8 1 (fun _ => encEnd ⟨x.kind, x.a, 0, 0, [], 0, 0, 0⟩))] rfl (by rfl) (.cons (.eq rfl) (.cons (.eq rfl) (.cons (.eq rfl) (.cons (.eq rfl) (.cons (.eq rfl) .nil))))) (.old rfl (BLe.refl _) (.old rfl (BLe.refl _) (.old rfl (BLe.rowW (Nat.le_refl _) (fun z hz => ?row)) .nil)))⟩; (case row => (match z, hz with | 0, _ => (repeat' ((conv => arg 1; whnf); (conv => arg 2; whnf); first | refine Wks.cons .refl ?_ | refine Wks.cons (.nsl rfl) ?_ | exact Wks.nil)))); (case hp => (rw [Bool.eq_iff_iff]; simp [EndP, end_eq, hop, landB, and_assoc, and_comm, and_left_comm]; done))) | (refine ⟨(⟨x.kind, 0, 0, 0, [], x.to, 0, 0⟩, goalB f x.to), ?hp, Weak.list [((2, 0, 0), .old (2, 0, 0), boxed (encL m f)), ((3, 0, 0), .old (3, 0, 0), boxed (encEnd x)), ((5, 0, 0), .old (5, 0, 0), .row true 8 1 (fun _ => encEnd ⟨x.kind, 0, 0, 0, [], x.to, 0, 0⟩))] rfl (by rfl) (.cons (.eq rfl) (.cons (.eq rfl) (.cons (.eq rfl) (.cons (.eq rfl) (.cons (.eq rfl) .nil))))) (.old rfl (BLe.refl _) (.old rfl (BLe.refl _) (.old rfl (BLe.rowW (Nat.le_refl _) (fun z hz => ?row)) .nil)))⟩; (case row => (match z, hz with | 0, _ => (repeat' ((conv => arg 1; whnf); (conv => arg 2; whnf); first | refine Wks.cons .refl ?_ | refine Wks.cons (.nsl rfl) ?_ | exact Wks.nil)))); (case hp => (rw [Bool.eq_iff_iff]; simp [EndP, end_eq, hop, landB, and_assoc, and_comm, and_left_comm]; done))) | (refine ⟨(⟨x.kind, x.a, 0, 0, [], x.to, x.els, 0⟩, bif bif inn x.a f.regs then goalB f x.to else false then goalB f x.els else false), ?hp, Weak.list [((2, 0, 0), .old (2, 0, 0), boxed (encL m f)), ((3, 0, 0), .old (3, 0, 0), boxed (encEnd x)), ((5, 0, 0), .old (5, 0, 0), .row true 8 1 (fun _ => encEnd ⟨x.kind, x.a, 0, 0, [], x.to, x.els, 0⟩))] rfl (by rfl) (.cons (.eq rfl) (.cons (.eq rfl) (.cons (.eq rfl) (.cons (.eq rfl) (.cons (.eq rfl) .nil))))) (.old rfl (BLe.refl _) (.old rfl (BLe.refl _) (.old rfl (BLe.rowW (Nat.le_refl _) (fun z hz => ?row)) .nil)))⟩; (case row => (match z, hz with | 0, _ => (repeat' ((conv => arg 1; whnf); (conv => arg 2; whnf); first | refine Wks.cons .refl ?_ | refine Wks.cons (.nsl rfl) ?_ | exact Wks.nil)))); (case hp => (rw [Bool.eq_iff_iff]; simp [EndP, end_eq, hop, landB, and_assoc, and_comm, and_left_comm]; done))) | (refine ⟨(⟨x.kind, 0, x.dst, x.f, x.args, x.to, 0, x.pad⟩, bif bif bif inn x.dst f.regs then argsB m f x.f x.args else false then goalB f x.to else false then landB f x.pad else false), ?hp, Weak.list [((2, 0, 0), .old (2, 0, 0), boxed (encL m f)), ((3, 0, 0), .old (3, 0, 0), boxed (encEnd x)), ((5, 0, 0), .old (5, 0, 0), .row true 8 1 (fun _ => encEnd ⟨x.kind, 0, x.dst, x.f, x.args, x.to, 0, x.pad⟩))] rfl (by rfl) (.cons (.eq rfl) (.cons (.eq rfl) (.cons (.eq rfl) (.cons (.eq rfl) (.cons (.eq rfl) .nil))))) (.old rfl (BLe.refl _) (.old rfl (BLe.refl _) (.old rfl (BLe.rowW (Nat.le_refl _) (fun z hz => ?row)) .nil)))⟩; (case row => (match z, hz with | 0, _ => (repeat' ((conv => arg 1; whnf); (conv => arg 2; whnf); first | refine Wks.cons .refl ?_ | exact Wks.nil)))); (case hp => (rw [Bool.eq_iff_iff]; simp [EndP, end_eq, hop, landB, and_assoc, and_comm, and_left_comm]; done))) | (refine ⟨(⟨x.kind, 0, 0, 0, [], 0, 0, 0⟩, true), ?hp, Weak.list [((2, 0, 0), .old (2, 0, 0), boxed (encL m f)), ((3, 0, 0), .old (3, 0, 0), boxed (encEnd x)), ((5, 0, 0), .old (5, 0, 0), .row true 8 1 (fun _ => encEnd ⟨x.kind, 0, 0, 0, [], 0, 0, 0⟩))] rfl (by rfl) (.cons (.eq rfl) (.cons (.eq rfl) (.cons (.eq rfl) (.cons (.eq rfl) (.cons (.eq rfl) .nil))))) (.old rfl (BLe.refl _) (.old rfl (BLe.refl _) (.old rfl (BLe.rowW (Nat.le_refl _) (fun z hz => ?row)) .nil)))⟩; (case row => (match z, hz with | 0, _ => (repeat' ((conv => arg 1; whnf); (conv => arg 2; whnf); first | refine Wks.cons .refl ?_ | refine Wks.cons (.nsl rfl) ?_ | exact Wks.nil)))); (case hp => (rw [Bool.eq_iff_iff]; simp [EndP, end_eq, hop, landB, and_assoc, and_comm, and_left_comm]; done)))))
    refine ⟨_, rfl, Rel.bool ?_⟩
    simp only [decide_eq_true_eq, decide_eq_false_iff_not] at *
    symm; rw [decide_eq_false_iff_not]
    rintro (h | h | h | h | h) <;> omega
  rintro q hq τ hτ
  refine AWp_weak hτ ?_
  conv => whnf
  (repeat' first | refine AWp_seq ?_ | (refine AWp_reg tok (by rfl) ?_; conv => whnf))
  refine .inl ⟨_, _, _, uG (QC.fc (c_sameEnd q.1 x) rfl), ?_⟩
  conv => whnf
  (repeat' (refine AWp_ret ?_; conv => whnf))
  refine ⟨_, rfl, Rel.bool ?_⟩
  rw [← hq]
  cases q.2 <;> rfl
end Go.Proofs.Ytmanpbgaihdalaa
namespace Go.Proofs.Ytmanpbgaihdalaa
open Go Dv
set_option maxRecDepth 10000
set_option linter.unusedSimpArgs false
theorem c_IdxInsM {g : FuncId} {cap : List AV} {p : Ins → Bool} (hi : immDs cap = true) (l : List Ins) (hg : ∀ i, i < l.length → FC Try.prog g (.agg (encIns (l.getD i default)) :: cap) (.bool (p (l.getD i default)))) : FC Try.prog 122 [inss l, .fn g cap] (iv (idxG p l)) := by
  refine FC_intro tok Try.func122 rfl (by decide +kernel) (Nat.le_of_ble_eq_true rfl) ?_
  refine AWp_facts 0 (fun hl => ?_)
  have hl0 : l.length ≤ maxL := hl.1
  (repeat' first | refine AWp_seq ?_ | (refine AWp_reg tok (by rfl) ?_; conv => whnf) | refine AWp_block ?_)
  refine AWp_loop (fun i : Nat => mkS [(0, inss l), (1, .fn g cap), (7, iv l.length), (8, iv i)] [])
    (fun i => i ≤ l.length ∧ ∀ j, j < i → p (l.getD j default) = false) (fun i => l.length - i) 0 ⟨Nat.zero_le _, by simp⟩ ?_ ?_
  · refine Weak.list [] rfl (by rfl) ?_ .nil
    ((repeat' first | exact TLes.nil | refine TLes.cons (TLe.eq rfl) ?_ | refine TLes.cons (TLe.fn (by assumption)) ?_); skip)
  rintro i ⟨hi2, hc⟩
  ((repeat' first | refine AWp_seq ?_ | (refine AWp_reg tok (by rfl) ?_; conv => whnf) | refine AWp_block ?_ | (refine AWp_skip ?_; conv => whnf) | (refine AWp_exit ?_; conv => whnf) | (refine AWp_ret ?_; conv => whnf) | (refine (forceL_eq _ _).mpr ?_; conv => whnf) | refine AWp_cond rfl (fun hb => ?_) (fun hb => ?_) | (refine @And.intro (underG _ _ _ _) _ ?_ ?_; rotate_left; (conv => whnf); rotate_right)); all_goals (try ((guard_target = underG _ _ _ _); refine underG_none ?_; (all_goals (try simp only [underG, true_and, and_true, Bool.cond_true_left, Bool.cond_false_left, Bool.cond_true_right, Bool.cond_false_right, Bool.or_eq_true, Bool.and_eq_true, Bool.or_eq_false_iff, Bool.and_eq_false_iff, cond_true, cond_false, Bool.not_eq_eq_eq_not, Bool.not_true, Bool.not_false, decide_eq_true_eq, decide_eq_false_iff_not, Int.toNat_natCast, Nat.zero_add, Decidable.not_not, maxL, inn_iff] at *)); all_goals omega)))
  · have hlt : i < l.length := by simp only [underG, true_and, and_true, Bool.cond_true_left, Bool.cond_false_left, Bool.cond_true_right, Bool.cond_false_right, Bool.or_eq_true, Bool.and_eq_true, Bool.or_eq_false_iff, Bool.and_eq_false_iff, cond_true, cond_false, Bool.not_eq_eq_eq_not, Bool.not_true, Bool.not_false, decide_eq_true_eq, decide_eq_false_iff_not, Int.toNat_natCast, Nat.zero_add, Decidable.not_not, maxL, inn_iff] at *; omega
    refine .inl ⟨_, _, _, uG (QC.fc (hg (i : Int).toNat hlt) (immDs_app (xs := [.agg (encIns (l.getD (i : Int).toNat default))]) rfl hi)), ?_⟩
    conv => whnf
    (repeat' first | refine AWp_seq ?_ | (refine AWp_reg tok (by rfl) ?_; conv => whnf) | (refine AWp_skip ?_; conv => whnf) | (refine AWp_ret ?_; conv => whnf) | refine AWp_cond rfl (fun hb => ?_) (fun hb => ?_))
    · refine ⟨_, rfl, Rel.int ?_⟩
      exact (idxG_at default hlt hc (by simpa using hb)).symm
    · refine ⟨i + 1, ⟨hlt, fun j hj => ?_⟩, by omega, ?_⟩
      · by_cases e : j = i
        · subst e; simpa using hb
        · exact hc j (by omega)
      refine Weak.list [] rfl (by rfl) ?_ .nil
      ((repeat' first | exact TLes.nil | refine TLes.cons (TLe.eq rfl) ?_ | refine TLes.cons (TLe.int ?_) ?_ | refine TLes.cons (TLe.fn (by assumption)) ?_); (all_goals first | ((try (simp only [underG, true_and, and_true, Bool.cond_true_left, Bool.cond_false_left, Bool.cond_true_right, Bool.cond_false_right, Bool.or_eq_true, Bool.and_eq_true, Bool.or_eq_false_iff, Bool.and_eq_false_iff, cond_true, cond_false, Bool.not_eq_eq_eq_not, Bool.not_true, Bool.not_false, decide_eq_true_eq, decide_eq_false_iff_not, Int.toNat_natCast, Nat.zero_add, Decidable.not_not, maxL, inn_iff] at *)); exact wrap64 (by omega) (by omega)) | skip))
  · refine ⟨_, rfl, Rel.int ?_⟩
    exact (idxG_none default (fun j hj => hc j (by simp only [underG, true_and, and_true, Bool.cond_true_left, Bool.cond_false_left, Bool.cond_true_right, Bool.cond_false_right, Bool.or_eq_true, Bool.and_eq_true, Bool.or_eq_false_iff, Bool.and_eq_false_iff, cond_true, cond_false, Bool.not_eq_eq_eq_not, Bool.not_true, Bool.not_false, decide_eq_true_eq, decide_eq_false_iff_not, Int.toNat_natCast, Nat.zero_add, Decidable.not_not, maxL, inn_iff] at *; omega))).symm
theorem c_HasInsM {g : FuncId} {cap : List AV} {p : Ins → Bool} (hi : immDs cap = true) (l : List Ins) (hg : ∀ i, i < l.length → FC Try.prog g (.agg (encIns (l.getD i default)) :: cap) (.bool (p (l.getD i default)))) : FC Try.prog 85 [inss l, .fn g cap] (.bool (l.any p)) := by
  refine FC_intro tok Try.func85 rfl (by decide +kernel) (Nat.le_of_ble_eq_true rfl) ?_
  (repeat' first | refine AWp_seq ?_ | (refine AWp_reg tok (by rfl) ?_; conv => whnf) | (refine (forceL_eq _ _).mpr ?_; conv => whnf))
  refine .inl ⟨_, _, _, uG (QC.fc (c_IdxInsM hi l hg) (show immDs [inss l, AV.fn g cap] = true from by simp [immDs, immD, inss, hi])), ?_⟩
  conv => whnf
  (repeat' (refine AWp_ret ?_; conv => whnf))
  refine ⟨_, rfl, Rel.bool ?_⟩
  rw [← idxG_any]
theorem c_IdxBlockM {g : FuncId} {cap : List AV} {p : Block → Bool} (hi : immDs cap = true) (l : List Block) (hg : ∀ i, i < l.length → FC Try.prog g (.agg (encBlock (l.getD i default)) :: cap) (.bool (p (l.getD i default)))) : FC Try.prog 137 [blockss l, .fn g cap] (iv (idxG p l)) := by
  refine FC_intro tok Try.func137 rfl (by decide +kernel) (Nat.le_of_ble_eq_true rfl) ?_
  refine AWp_facts 0 (fun hl => ?_)
  have hl0 : l.length ≤ maxL := hl.1
  (repeat' first | refine AWp_seq ?_ | (refine AWp_reg tok (by rfl) ?_; conv => whnf) | refine AWp_block ?_)
  refine AWp_loop (fun i : Nat => mkS [(0, blockss l), (1, .fn g cap), (7, iv l.length), (8, iv i)] [])
    (fun i => i ≤ l.length ∧ ∀ j, j < i → p (l.getD j default) = false) (fun i => l.length - i) 0 ⟨Nat.zero_le _, by simp⟩ ?_ ?_
  · refine Weak.list [] rfl (by rfl) ?_ .nil
    ((repeat' first | exact TLes.nil | refine TLes.cons (TLe.eq rfl) ?_ | refine TLes.cons (TLe.fn (by assumption)) ?_); skip)
  rintro i ⟨hi2, hc⟩
  ((repeat' first | refine AWp_seq ?_ | (refine AWp_reg tok (by rfl) ?_; conv => whnf) | refine AWp_block ?_ | (refine AWp_skip ?_; conv => whnf) | (refine AWp_exit ?_; conv => whnf) | (refine AWp_ret ?_; conv => whnf) | (refine (forceL_eq _ _).mpr ?_; conv => whnf) | refine AWp_cond rfl (fun hb => ?_) (fun hb => ?_) | (refine @And.intro (underG _ _ _ _) _ ?_ ?_; rotate_left; (conv => whnf); rotate_right)); all_goals (try ((guard_target = underG _ _ _ _); refine underG_none ?_; (all_goals (try simp only [underG, true_and, and_true, Bool.cond_true_left, Bool.cond_false_left, Bool.cond_true_right, Bool.cond_false_right, Bool.or_eq_true, Bool.and_eq_true, Bool.or_eq_false_iff, Bool.and_eq_false_iff, cond_true, cond_false, Bool.not_eq_eq_eq_not, Bool.not_true, Bool.not_false, decide_eq_true_eq, decide_eq_false_iff_not, Int.toNat_natCast, Nat.zero_add, Decidable.not_not, maxL, inn_iff] at *)); all_goals omega)))
  · have hlt : i < l.length := by simp only [underG, true_and, and_true, Bool.cond_true_left, Bool.cond_false_left, Bool.cond_true_right, Bool.cond_false_right, Bool.or_eq_true, Bool.and_eq_true, Bool.or_eq_false_iff, Bool.and_eq_false_iff, cond_true, cond_false, Bool.not_eq_eq_eq_not, Bool.not_true, Bool.not_false, decide_eq_true_eq, decide_eq_false_iff_not, Int.toNat_natCast, Nat.zero_add, Decidable.not_not, maxL, inn_iff] at *; omega
    refine .inl ⟨_, _, _, uG (QC.fc (hg (i : Int).toNat hlt) (immDs_app (xs := [.agg (encBlock (l.getD (i : Int).toNat default))]) rfl hi)), ?_⟩
    conv => whnf
    (repeat' first | refine AWp_seq ?_ | (refine AWp_reg tok (by rfl) ?_; conv => whnf) | (refine AWp_skip ?_; conv => whnf) | (refine AWp_ret ?_; conv => whnf) | refine AWp_cond rfl (fun hb => ?_) (fun hb => ?_))
    · refine ⟨_, rfl, Rel.int ?_⟩
      exact (idxG_at default hlt hc (by simpa using hb)).symm
    · refine ⟨i + 1, ⟨hlt, fun j hj => ?_⟩, by omega, ?_⟩
      · by_cases e : j = i
        · subst e; simpa using hb
        · exact hc j (by omega)
      refine Weak.list [] rfl (by rfl) ?_ .nil
      ((repeat' first | exact TLes.nil | refine TLes.cons (TLe.eq rfl) ?_ | refine TLes.cons (TLe.int ?_) ?_ | refine TLes.cons (TLe.fn (by assumption)) ?_); (all_goals first | ((try (simp only [underG, true_and, and_true, Bool.cond_true_left, Bool.cond_false_left, Bool.cond_true_right, Bool.cond_false_right, Bool.or_eq_true, Bool.and_eq_true, Bool.or_eq_false_iff, Bool.and_eq_false_iff, cond_true, cond_false, Bool.not_eq_eq_eq_not, Bool.not_true, Bool.not_false, decide_eq_true_eq, decide_eq_false_iff_not, Int.toNat_natCast, Nat.zero_add, Decidable.not_not, maxL, inn_iff] at *)); exact wrap64 (by omega) (by omega)) | skip))
  · refine ⟨_, rfl, Rel.int ?_⟩
    exact (idxG_none default (fun j hj => hc j (by simp only [underG, true_and, and_true, Bool.cond_true_left, Bool.cond_false_left, Bool.cond_true_right, Bool.cond_false_right, Bool.or_eq_true, Bool.and_eq_true, Bool.or_eq_false_iff, Bool.and_eq_false_iff, cond_true, cond_false, Bool.not_eq_eq_eq_not, Bool.not_true, Bool.not_false, decide_eq_true_eq, decide_eq_false_iff_not, Int.toNat_natCast, Nat.zero_add, Decidable.not_not, maxL, inn_iff] at *; omega))).symm
theorem c_HasBlockM {g : FuncId} {cap : List AV} {p : Block → Bool} (hi : immDs cap = true) (l : List Block) (hg : ∀ i, i < l.length → FC Try.prog g (.agg (encBlock (l.getD i default)) :: cap) (.bool (p (l.getD i default)))) : FC Try.prog 108 [blockss l, .fn g cap] (.bool (l.any p)) := by
  refine FC_intro tok Try.func108 rfl (by decide +kernel) (Nat.le_of_ble_eq_true rfl) ?_
  (repeat' first | refine AWp_seq ?_ | (refine AWp_reg tok (by rfl) ?_; conv => whnf) | (refine (forceL_eq _ _).mpr ?_; conv => whnf))
  refine .inl ⟨_, _, _, uG (QC.fc (c_IdxBlockM hi l hg) (show immDs [blockss l, AV.fn g cap] = true from by simp [immDs, immD, blockss, hi])), ?_⟩
  conv => whnf
  (repeat' (refine AWp_ret ?_; conv => whnf))
  refine ⟨_, rfl, Rel.bool ?_⟩
  rw [← idxG_any]
theorem c_IdxFuncM {g : FuncId} {cap : List AV} {p : Func → Bool} (hi : immDs cap = true) (l : List Func) (hg : ∀ i, i < l.length → FC Try.prog g (.agg (encFunc (l.getD i default)) :: cap) (.bool (p (l.getD i default)))) : FC Try.prog 128 [funcss l, .fn g cap] (iv (idxG p l)) := by
  refine FC_intro tok Try.func128 rfl (by decide +kernel) (Nat.le_of_ble_eq_true rfl) ?_
  refine AWp_facts 0 (fun hl => ?_)
  have hl0 : l.length ≤ maxL := hl.1
  (repeat' first | refine AWp_seq ?_ | (refine AWp_reg tok (by rfl) ?_; conv => whnf) | refine AWp_block ?_)
  refine AWp_loop (fun i : Nat => mkS [(0, funcss l), (1, .fn g cap), (7, iv l.length), (8, iv i)] [])
    (fun i => i ≤ l.length ∧ ∀ j, j < i → p (l.getD j default) = false) (fun i => l.length - i) 0 ⟨Nat.zero_le _, by simp⟩ ?_ ?_
  · refine Weak.list [] rfl (by rfl) ?_ .nil
    ((repeat' first | exact TLes.nil | refine TLes.cons (TLe.eq rfl) ?_ | refine TLes.cons (TLe.fn (by assumption)) ?_); skip)
  rintro i ⟨hi2, hc⟩
  ((repeat' first | refine AWp_seq ?_ | (refine AWp_reg tok (by rfl) ?_; conv => whnf) | refine AWp_block ?_ | (refine AWp_skip ?_; conv => whnf) | (refine AWp_exit ?_; conv => whnf) | (refine AWp_ret ?_; conv => whnf) | (refine (forceL_eq _ _).mpr ?_; conv => whnf) | refine AWp_cond rfl (fun hb => ?_) (fun hb => ?_) | (refine @And.intro (underG _ _ _ _) _ ?_ ?_; rotate_left; (conv => whnf); rotate_right)); all_goals (try ((guard_target = underG _ _ _ _); refine underG_none ?_; (all_goals (try simp only [underG, true_and, and_true, Bool.cond_true_left, Bool.cond_false_left, Bool.cond_true_right, Bool.cond_false_right, Bool.or_eq_true, Bool.and_eq_true, Bool.or_eq_false_iff, Bool.and_eq_false_iff, cond_true, cond_false, Bool.not_eq_eq_eq_not, Bool.not_true, Bool.not_false, decide_eq_true_eq, decide_eq_false_iff_not, Int.toNat_natCast, Nat.zero_add, Decidable.not_not, maxL, inn_iff] at *)); all_goals omega)))
  · have hlt : i < l.length := by simp only [underG, true_and, and_true, Bool.cond_true_left, Bool.cond_false_left, Bool.cond_true_right, Bool.cond_false_right, Bool.or_eq_true, Bool.and_eq_true, Bool.or_eq_false_iff, Bool.and_eq_false_iff, cond_true, cond_false, Bool.not_eq_eq_eq_not, Bool.not_true, Bool.not_false, decide_eq_true_eq, decide_eq_false_iff_not, Int.toNat_natCast, Nat.zero_add, Decidable.not_not, maxL, inn_iff] at *; omega
    refine .inl ⟨_, _, _, uG (QC.fc (hg (i : Int).toNat hlt) (immDs_app (xs := [.agg (encFunc (l.getD (i : Int).toNat default))]) rfl hi)), ?_⟩
    conv => whnf
    (repeat' first | refine AWp_seq ?_ | (refine AWp_reg tok (by rfl) ?_; conv => whnf) | (refine AWp_skip ?_; conv => whnf) | (refine AWp_ret ?_; conv => whnf) | refine AWp_cond rfl (fun hb => ?_) (fun hb => ?_))
    · refine ⟨_, rfl, Rel.int ?_⟩
      exact (idxG_at default hlt hc (by simpa using hb)).symm
    · refine ⟨i + 1, ⟨hlt, fun j hj => ?_⟩, by omega, ?_⟩
      · by_cases e : j = i
        · subst e; simpa using hb
        · exact hc j (by omega)
      refine Weak.list [] rfl (by rfl) ?_ .nil
      ((repeat' first | exact TLes.nil | refine TLes.cons (TLe.eq rfl) ?_ | refine TLes.cons (TLe.int ?_) ?_ | refine TLes.cons (TLe.fn (by assumption)) ?_); (all_goals first | ((try (simp only [underG, true_and, and_true, Bool.cond_true_left, Bool.cond_false_left, Bool.cond_true_right, Bool.cond_false_right, Bool.or_eq_true, Bool.and_eq_true, Bool.or_eq_false_iff, Bool.and_eq_false_iff, cond_true, cond_false, Bool.not_eq_eq_eq_not, Bool.not_true, Bool.not_false, decide_eq_true_eq, decide_eq_false_iff_not, Int.toNat_natCast, Nat.zero_add, Decidable.not_not, maxL, inn_iff] at *)); exact wrap64 (by omega) (by omega)) | skip))
  · refine ⟨_, rfl, Rel.int ?_⟩
    exact (idxG_none default (fun j hj => hc j (by simp only [underG, true_and, and_true, Bool.cond_true_left, Bool.cond_false_left, Bool.cond_true_right, Bool.cond_false_right, Bool.or_eq_true, Bool.and_eq_true, Bool.or_eq_false_iff, Bool.and_eq_false_iff, cond_true, cond_false, Bool.not_eq_eq_eq_not, Bool.not_true, Bool.not_false, decide_eq_true_eq, decide_eq_false_iff_not, Int.toNat_natCast, Nat.zero_add, Decidable.not_not, maxL, inn_iff] at *; omega))).symm
theorem c_HasFuncM {g : FuncId} {cap : List AV} {p : Func → Bool} (hi : immDs cap = true) (l : List Func) (hg : ∀ i, i < l.length → FC Try.prog g (.agg (encFunc (l.getD i default)) :: cap) (.bool (p (l.getD i default)))) : FC Try.prog 103 [funcss l, .fn g cap] (.bool (l.any p)) := by
  refine FC_intro tok Try.func103 rfl (by decide +kernel) (Nat.le_of_ble_eq_true rfl) ?_
  (repeat' first | refine AWp_seq ?_ | (refine AWp_reg tok (by rfl) ?_; conv => whnf) | (refine (forceL_eq _ _).mpr ?_; conv => whnf))
  refine .inl ⟨_, _, _, uG (QC.fc (c_IdxFuncM hi l hg) (show immDs [funcss l, AV.fn g cap] = true from by simp [immDs, immD, funcss, hi])), ?_⟩
  conv => whnf
  (repeat' (refine AWp_ret ?_; conv => whnf))
  refine ⟨_, rfl, Rel.bool ?_⟩
  rw [← idxG_any]
theorem c_HasIns {g : FuncId} {cap : List AV} {p : Ins → Bool} (hi : immDs cap = true) (hg : ∀ x, FC Try.prog g (.agg (encIns x) :: cap) (.bool (p x))) (l : List Ins) : FC Try.prog 85 [inss l, .fn g cap] (.bool (l.any p)) := c_HasInsM hi l (fun i _ => hg _)
theorem c_HasBlock {g : FuncId} {cap : List AV} {p : Block → Bool} (hi : immDs cap = true) (hg : ∀ x, FC Try.prog g (.agg (encBlock x) :: cap) (.bool (p x))) (l : List Block) : FC Try.prog 108 [blockss l, .fn g cap] (.bool (l.any p)) := c_HasBlockM hi l (fun i _ => hg _)
theorem c_HasFunc {g : FuncId} {cap : List AV} {p : Func → Bool} (hi : immDs cap = true) (hg : ∀ x, FC Try.prog g (.agg (encFunc x) :: cap) (.bool (p x))) (l : List Func) : FC Try.prog 103 [funcss l, .fn g cap] (.bool (l.any p)) := c_HasFuncM hi l (fun i _ => hg _)
end Go.Proofs.Ytmanpbgaihdalaa
namespace Go.Proofs.Ytmanpbgaihdalaa
open Go Dv
set_option maxRecDepth 10000
set_option linter.unusedSimpArgs false
theorem c_lblk1 (m : Module) (f : Func) (x : Ins) : FC Try.prog 158 [.agg (encIns x), .ip (encL m f)] (.bool (!decide (InsP m f x))) := by
  refine FC_intro tok Try.func158 rfl (by decide +kernel) (Nat.le_of_ble_eq_true rfl) ?_
  (repeat' first | refine AWp_seq ?_ | (refine AWp_reg tok (by rfl) ?_; conv => whnf))
  refine .inl ⟨_, _, _, uG (QC.fc (c_lins m f x) rfl), ?_⟩
  conv => whnf
  (repeat' (refine AWp_ret ?_; conv => whnf))
  exact ⟨_, rfl, Rel.imm rfl⟩
/-- What is owed of looker.pad: it needs slices.Sorted (range over a function). -/
def LPad : Prop := ∀ (m : Module) (f : Func) (b : Block), FC Try.prog 156 [.agg (encL m f), .agg (encBlock b)] (.bool (decide (PadP f b)))
theorem c_lblock (hpad : LPad) (m : Module) (f : Func) (n : Nat) (hn : n < f.blocks.length) : FC Try.prog 134 [.agg (encL m f), iv n] (.bool (blkB m f (f.blocks.getD n default))) := by
  refine FC_intro tok Try.func134 rfl (by decide +kernel) (Nat.le_of_ble_eq_true rfl) ?_
  ((repeat' ((fail_if_success (show AWp _ _ _ (Code.region 2 _ _) _ _)); first | refine AWp_seq ?_ | (refine AWp_reg tok (by rfl) ?_; conv => whnf) | (refine @And.intro (underG _ _ _ _) _ ?_ ?_; rotate_left; (conv => whnf); rotate_right))); all_goals (try ((guard_target = underG _ _ _ _); refine underG_none ?_; all_goals omega)))
  have hget : f.blocks.getD (n : Int).toNat default = f.blocks.getD n default := by simp
  generalize f.blocks.getD n default = b at hget ⊢
  refine AWp_weak (Weak.list (tl := [(2, .bp (2, 0, 0) 0), (4, .bool false), (5, .bp (5, 0, 0) 0)]) [((2, 0, 0), .old (2, 0, 0), boxed (encL m f)), ((5, 0, 0), .old (5, 0, 0), .row true 14 1 (fun _ => encBlock b))] rfl (by rfl) ?_ (.old rfl (BLe.refl _) (.old rfl (BLe.rowW (Nat.le_refl _) (fun z hz => ?_)) .nil))) ?_
  · ((repeat' first | exact TLes.nil | refine TLes.cons (TLe.eq rfl) ?_); skip)
  · match z, hz with
    | 0, _ => rw [← hget]; exact Wks.of rfl
  (repeat' (refine AWp_reg tok (by rfl) ?_; conv => whnf))
  refine .inl ⟨_, _, _, uG (QC.fc (hpad m f b) rfl), ?_⟩
  conv => whnf
  skip
  refine .inl ⟨_, _, _, uG (QC.fc (c_lend m f b.fin) rfl), ?_⟩
  conv => whnf
  skip
  have hh := c_HasIns (g := 158) (cap := [.ip (encL m f)]) (p := fun x => !decide (InsP m f x)) rfl (fun x => c_lblk1 m f x) b.ins
  refine .inl ⟨_, _, _, uG (QC.sc (rd := [(2, 0, 0)]) hh (.cons (.imm rfl) (.cons (.fn (.cons (.ip rfl (List.mem_singleton.2 rfl) (by decide) (Ress.imms rfl)) .nil)) .nil)) rfl), ?_⟩
  conv => whnf
  (repeat' (refine AWp_ret ?_; conv => whnf))
  refine ⟨_, rfl, Rel.bool ?_⟩
  unfold blkB
  rw [List.not_any_eq_all_not, Bool.eq_iff_iff]
  have hc : decide ((b.ins.length : Int) ≤ 64) = decide (b.ins.length ≤ 64) := by rw [decide_eq_decide]; omega
  rw [hc]
  simp [and_assoc]
end Go.Proofs.Ytmanpbgaihdalaa
namespace Go.Proofs.Ytmanpbgaihdalaa
open Go Dv
set_option maxRecDepth 10000
set_option linter.unusedSimpArgs false
theorem c_lFunc (hpad : LPad) (m : Module) (f : Func) : FC Try.prog 105 [.agg (encMod m), .agg (encFunc f)] (.bool (funcB m f)) := by
  refine FC_intro tok Try.func105 rfl (by decide +kernel) (Nat.le_of_ble_eq_true rfl) ?_
  refine AWp_facts 1 (fun hl => ?_)
  have hl0 : f.blocks.length ≤ maxL := hl.2.2.1.1
  ((repeat' first | refine AWp_seq ?_ | (refine AWp_reg tok (by rfl) ?_; conv => whnf) | refine AWp_block ?_ | (refine AWp_skip ?_; conv => whnf) | (refine AWp_ret ?_; conv => whnf) | refine AWp_cond rfl (fun hb => ?_) (fun hb => ?_) | (refine @And.intro (underG _ _ _ _) _ ?_ ?_; rotate_left; (conv => whnf); rotate_right)); all_goals (try ((guard_target = underG _ _ _ _); ((refine underG_some ?_; intro hgd; (conv at hgd => whnf))); (all_goals (try simp only [underG, true_and, and_true, Bool.cond_true_left, Bool.cond_false_left, Bool.cond_true_right, Bool.cond_false_right, Bool.or_eq_true, Bool.and_eq_true, Bool.or_eq_false_iff, Bool.and_eq_false_iff, cond_true, cond_false, Bool.not_eq_eq_eq_not, Bool.not_true, Bool.not_false, decide_eq_true_eq, decide_eq_false_iff_not, Int.toNat_natCast, Nat.zero_add, Decidable.not_not, maxL, inn_iff] at *)); all_goals omega)))
  · refine ⟨_, rfl, Rel.bool ?_⟩
    rw [show Int.toNat 0 = 0 from rfl] at hb
    unfold funcB
    have hF : decide (FunP f) = false := by
      rw [decide_eq_false_iff_not]; intro h; unfold FunP at h
      rw [h.2.2.2.2.2.2] at hb; simp [-List.length_eq_zero_iff] at hb; omega
    rw [hF]; rfl
  have hF : FunP f := by
    rw [show Int.toNat 0 = 0 from rfl] at hb
    unfold FunP
    cases hland : (f.blocks.getD 0 default).landing with
    | true => rw [hland] at hb; simp at hb
    | false => rw [hland] at hb; simp [-List.length_eq_zero_iff] at hb; refine ⟨?_, ?_, ?_, ?_, ?_, ?_, rfl⟩ <;> omega
  clear hb
  refine AWp_loop (fun i : Nat => mkS [(4, .bool false), (5, .bp (5, 0, 0) 0), (51, iv f.blocks.length), (52, iv i)] [((5, 0, 0), .row true 4 1 (fun _ => encL m f))])
    (fun i => i ≤ f.blocks.length ∧ ∀ j, j < i → blkB m f (f.blocks.getD j default) = true) (fun i => f.blocks.length - i) 0 ⟨Nat.zero_le _, by simp⟩ ?_ ?_
  · refine Weak.list [((5, 0, 0), .old (5, 0, 0), .row true 4 1 (fun _ => encL m f))] rfl (by rfl) ?_ (.old rfl (BLe.rowW (Nat.le_refl _) (fun z hz => ?_)) .nil)
    · ((repeat' first | exact TLes.nil | refine TLes.cons (TLe.eq rfl) ?_); skip)
    · match z, hz with
      | 0, _ => exact Wks.of rfl
  rintro i ⟨hi, hc⟩
  (repeat' first | refine AWp_seq ?_ | (refine AWp_reg tok (by rfl) ?_; conv => whnf) | refine AWp_block ?_ | (refine AWp_skip ?_; conv => whnf) | (refine AWp_exit ?_; conv => whnf) | (refine AWp_ret ?_; conv => whnf) | refine AWp_cond rfl (fun hb => ?_) (fun hb => ?_))
  · have hlt : i < f.blocks.length := by simp only [underG, true_and, and_true, Bool.cond_true_left, Bool.cond_false_left, Bool.cond_true_right, Bool.cond_false_right, Bool.or_eq_true, Bool.and_eq_true, Bool.or_eq_false_iff, Bool.and_eq_false_iff, cond_true, cond_false, Bool.not_eq_eq_eq_not, Bool.not_true, Bool.not_false, decide_eq_true_eq, decide_eq_false_iff_not, Int.toNat_natCast, Nat.zero_add, Decidable.not_not, maxL, inn_iff] at *; omega
    refine .inl ⟨_, _, _, uG (QC.fc (c_lblock hpad m f i hlt) rfl), ?_⟩
    conv => whnf
    (repeat' first | refine AWp_seq ?_ | (refine AWp_reg tok (by rfl) ?_; conv => whnf) | (refine AWp_skip ?_; conv => whnf) | (refine AWp_ret ?_; conv => whnf) | refine AWp_cond rfl (fun hb => ?_) (fun hb => ?_))
    · refine ⟨_, rfl, Rel.bool ?_⟩
      unfold funcB
      rw [all_no default hlt (p := blkB m f) (by simpa using hb)]
      simp
    · refine ⟨i + 1, ⟨hlt, fun j hj => ?_⟩, by omega, ?_⟩
      · by_cases e : j = i
        · subst e; simpa using hb
        · exact hc j (by omega)
      refine Weak.list [((5, 0, 0), .old (5, 0, 0), .row true 4 1 (fun _ => encL m f))] rfl (by rfl) ?_ (.old rfl (BLe.refl _) .nil)
      ((repeat' first | exact TLes.nil | refine TLes.cons (TLe.eq rfl) ?_ | refine TLes.cons (TLe.int ?_) ?_); (all_goals first | ((try (simp only [underG, true_and, and_true, Bool.cond_true_left, Bool.cond_false_left, Bool.cond_true_right, Bool.cond_false_right, Bool.or_eq_true, Bool.and_eq_true, Bool.or_eq_false_iff, Bool.and_eq_false_iff, cond_true, cond_false, Bool.not_eq_eq_eq_not, Bool.not_true, Bool.not_false, decide_eq_true_eq, decide_eq_false_iff_not, Int.toNat_natCast, Nat.zero_add, Decidable.not_not, maxL, inn_iff] at *)); exact wrap64 (by omega) (by omega)) | skip))
  · refine ⟨_, rfl, Rel.bool ?_⟩
    unfold funcB
    rw [decide_eq_true hF, all_yes default (fun j hj => hc j (by simp only [underG, true_and, and_true, Bool.cond_true_left, Bool.cond_false_left, Bool.cond_true_right, Bool.cond_false_right, Bool.or_eq_true, Bool.and_eq_true, Bool.or_eq_false_iff, Bool.and_eq_false_iff, cond_true, cond_false, Bool.not_eq_eq_eq_not, Bool.not_true, Bool.not_false, decide_eq_true_eq, decide_eq_false_iff_not, Int.toNat_natCast, Nat.zero_add, Decidable.not_not, maxL, inn_iff] at *; omega))]; rfl
theorem c_lRight1 (hpad : LPad) (m : Module) (f : Func) : FC Try.prog 104 [.agg (encFunc f), .ip (encMod m)] (.bool (!funcB m f)) := by
  refine FC_intro tok Try.func104 rfl (by decide +kernel) (Nat.le_of_ble_eq_true rfl) ?_
  (repeat' first | refine AWp_seq ?_ | (refine AWp_reg tok (by rfl) ?_; conv => whnf))
  refine .inl ⟨_, _, _, uG (QC.fc (c_lFunc hpad m f) rfl), ?_⟩
  conv => whnf
  (repeat' (refine AWp_ret ?_; conv => whnf))
  exact ⟨_, rfl, Rel.imm rfl⟩
theorem c_lRight (hpad : LPad) (m : Module) : FC Try.prog 62 [.agg (encMod m)] (.bool (rightB m)) := by
  refine FC_intro tok Try.func62 rfl (by decide +kernel) (Nat.le_of_ble_eq_true rfl) ?_
  refine AWp_facts 0 (fun hl => ?_)
  have hl0 : m.funcs.length ≤ maxL := hl.1.1
  ((repeat' first | refine AWp_seq ?_ | (refine AWp_reg tok (by rfl) ?_; conv => whnf) | (refine AWp_skip ?_; conv => whnf) | (refine AWp_ret ?_; conv => whnf) | refine AWp_cond rfl (fun hb => ?_) (fun hb => ?_) | (refine @And.intro (underG _ _ _ _) _ ?_ ?_; rotate_left; (conv => whnf); rotate_right)); all_goals (try ((guard_target = underG _ _ _ _); ((refine underG_some ?_; intro hgd; (conv at hgd => whnf))); (all_goals (try simp only [underG, true_and, and_true, Bool.cond_true_left, Bool.cond_false_left, Bool.cond_true_right, Bool.cond_false_right, Bool.or_eq_true, Bool.and_eq_true, Bool.or_eq_false_iff, Bool.and_eq_false_iff, cond_true, cond_false, Bool.not_eq_eq_eq_not, Bool.not_true, Bool.not_false, decide_eq_true_eq, decide_eq_false_iff_not, Int.toNat_natCast, Nat.zero_add, Decidable.not_not, maxL, inn_iff] at *)); all_goals omega)))
  · refine ⟨_, rfl, Rel.bool ?_⟩
    rw [show Int.toNat 0 = 0 from rfl] at hb
    unfold rightB
    rw [decide_eq_false]
    · rfl
    · rintro ⟨h1, h2, h3⟩
      rw [h3] at hb; simp [-List.length_eq_zero_iff] at hb; omega
  have hF : 1 ≤ m.funcs.length ∧ m.funcs.length ≤ 16 ∧ (m.funcs.getD 0 default).params = 0 := by
    rw [show Int.toNat 0 = 0 from rfl] at hb
    simp only [Bool.cond_true_left, Bool.or_eq_false_iff] at hb
    refine ⟨?_, ?_, by simpa using hb.2⟩ <;> simp only [underG, true_and, and_true, Bool.cond_true_left, Bool.cond_false_left, Bool.cond_true_right, Bool.cond_false_right, Bool.or_eq_true, Bool.and_eq_true, Bool.or_eq_false_iff, Bool.and_eq_false_iff, cond_true, cond_false, Bool.not_eq_eq_eq_not, Bool.not_true, Bool.not_false, decide_eq_true_eq, decide_eq_false_iff_not, Int.toNat_natCast, Nat.zero_add, Decidable.not_not, maxL, inn_iff] at * <;> omega
  clear hb
  refine .inl ⟨_, _, _, uG (QC.sc (rd := [(1, 0, 0)]) (c_HasFunc (g := 104) (cap := [.ip (encMod m)]) (p := fun f => !funcB m f) rfl (fun f => c_lRight1 hpad m f) m.funcs) (.cons (.imm rfl) (.cons (.fn (.cons (.ip rfl (List.mem_singleton.2 rfl) (by decide) (Ress.imms rfl)) .nil)) .nil)) rfl), ?_⟩
  conv => whnf
  (repeat' (refine AWp_ret ?_; conv => whnf))
  refine ⟨_, rfl, Rel.bool ?_⟩
  unfold rightB
  rw [List.not_any_eq_all_not, decide_eq_true hF]
  simp
end Go.Proofs.Ytmanpbgaihdalaa
namespace Go.Proofs.Ytmanpbgaihdalaa
open Go Dv Go.RowKit Go.Maps Go.Sort Go.Shelf
set_option linter.unusedSimpArgs false
@[go_sem, reducible] def encU (k : Int) : Value := .int .u16 k
def SeqU (F : Fence) (n : Nat) (g : Nat) (lb : Array Value) (S : List Int → Prop) (N : Nat) (w : World) : Prop :=
  ∀ (l : Nat) (J : List Int → World → Prop) (W : World), RowKit.Below w.heap.size w W → (∀ pre W', J pre W' → RowKit.Below w.heap.size w W') →
    (∀ pre x W', J pre W' → pre.length < N → YieldAt F (n - 1) Try.prog l #[encU x] W' fun e W2 => e = .returned (.bool true) ∧ J (pre ++ [x]) W2 ∧ KeepsWalks W' W2) → J [] W →
    CallsIn F n Try.prog g (#[.func (.yield l) #[] #[]] ++ lb) W fun e W' => (∃ v, e = .returned v) ∧ ∃ ss, S ss ∧ J ss W'

def Sq.apAssign : Code := (Code.region 2 #[{ dst := some 5, op := Op.assign (Operand.tmp 7), type := 55, pos := "iter.go:51", after := #[], guard := none }] false)
def Sq.apBody : Code := (Code.block 1 (Code.region 3 #[{ dst := some 8, op := Op.load 37 (Operand.tmp 2), type := 37, pos := "iter.go:52", after := #[], guard := none }, { dst := some 9, op := Op.move (Operand.tmp 5), type := 55, pos := "iter.go:52", after := #[], guard := none }, { dst := some 10, op := Op.buildSlice 37 1 #[(0, Operand.tmp 9)], type := 37, pos := "iter.go:52", after := #[{ on := 1, ground := Ground.data }], guard := none }, { dst := some 11, op := Op.call { callee := Callee.builtin Builtin.append, args := #[Operand.tmp 8, Operand.tmp 10], argTypes := #[37, 37] }, type := 37, pos := "iter.go:52", after := #[{ on := 0, ground := Ground.data }, { on := 2, ground := Ground.data }], guard := none }, { dst := none, op := Op.store 37 (Operand.tmp 2) (Operand.tmp 11), type := 0, pos := "iter.go:52", after := #[{ on := 3, ground := Ground.data }, { on := 3, ground := Ground.chain }, { on := 0, ground := Ground.phase }, { on := 1, ground := Ground.phase }, { on := 2, ground := Ground.phase }, { on := 3, ground := Ground.phase }], guard := none }] false))
def Sq.apRec (fn : FuncId) (sv : Value) (Bs D : Nat) (st : LoopState) (pend : Option Code) : Loop :=
  { state := st, pending := pend, fn, tmps := #[.slice none 0 0, sv, .pointer (some ⟨Bs, 0, none⟩), undef, .slice none 0 0, undef, sv, undef, undef, undef, undef, undef, undef], params := #[7], assign := Sq.apAssign, body := Sq.apBody, defers := D }

structure Sq.ApAt (w0 : World) (fn : FuncId) (sv : Value) (Bs l D : Nat) (ss : List Int) (W : World) : Prop where
  box : ∃ v, W.heap[Bs]? = some (.cells #[v] 37 (0, 0)) ∧ W.ownsRow w0.heap.size 55 1 v ss.length (ss.map encU) ∧ (v = .slice none 0 0 ↔ ss = [])
  L : W.heap[l]? = some (.loop (Sq.apRec fn sv Bs D .ready none))
  K : W.heap[D]? = some (.deferred (some []))
  below : Below w0.heap.size w0 W

theorem ownsRow_abides {W W' : World} {row : Option Nat} {base : Nat} {e : TypeId} {size : Nat} {v : Value} {k : Nat} {xs : List Value} (h : W.ownsRow base e size v k xs) (hg : W.grownBy W' row)
    (hrow : ∀ r, row = some r → ∃ o : Obj, W.heap[r]? = some o ∧ o.isWalk = true) : W'.ownsRow base e size v k xs := by
  refine h.kept hg ?_
  rcases h.2 with ⟨rfl, _⟩ | ⟨g, cap, cur, rfl, _, hgb, _⟩
  · exact .inl rfl
  · refine .inr fun e' => ?_
    obtain ⟨o, ho, hw⟩ := hrow g (by simpa [Value.ownBlock] using e'.symm)
    rw [hgb] at ho; cases ho; cases hw

theorem Sq.ap_abides (w0 : World) (fn : FuncId) (sv : Value) (Bs l D B : Nat) (hB : w0.heap.size ≤ B) : AbidesFrom B (Sq.ApAt w0 fn sv Bs l D) := fun s W W' row h hg hrow => by
  have hrow' : ∀ r, row = some r → ∃ o : Obj, W.heap[r]? = some o ∧ o.isWalk = true := fun r e => (hrow r e).2
  obtain ⟨v, hv, hr, hn⟩ := h.box
  exact ⟨⟨v, (grownBy_keeps hg hrow' hv rfl).trans hv, ownsRow_abides hr hg hrow', hn⟩, (grownBy_keeps hg hrow' h.L rfl).trans h.L, (grownBy_keeps hg hrow' h.K rfl).trans h.K,
    h.below.grown hg h.below.size (fun k e => Nat.le_trans hB (hrow k e).1)⟩

theorem grownBy_putObj (W : World) (l : Nat) (o : Obj) : W.grownBy (W.putObj l o) (some l) :=
  ⟨rfl, rfl, rfl, by simp, fun k _ hk => World.putObj_heap_other (fun e => hk (by rw [e]))⟩
theorem grownBy_setCell0 (W : World) (b : Nat) (v : Value) : W.grownBy (W.setCell ⟨b, 0, none⟩ v) (some b) :=
  ⟨rfl, rfl, rfl, (KeepsWalks.setCell W _ v).size, fun k _ hk => Below.heap_setCell _ _ _ k (fun e => hk (by rw [e]))⟩
theorem ownsRow_ne {W : World} {base : Nat} {e : TypeId} {size : Nat} {v : Value} {k : Nat} {xs : List Value} (h : W.ownsRow base e size v k xs) {j : Nat} {o : Obj} (hj : W.heap[j]? = some o) (hno : ∀ cur, o ≠ .cells cur e (0, 0)) :
    v.ownBlock = none ∨ v.ownBlock ≠ some j := by
  rcases h.2 with ⟨rfl, _⟩ | ⟨g, cap, cur, rfl, _, hgb, _⟩
  · exact .inl rfl
  · refine .inr fun e' => ?_
    have : g = j := by simpa [Value.ownBlock] using e'
    subst this; rw [hgb] at hj; cases hj; exact hno cur rfl
theorem cell_of_box {W : World} {B : Nat} {v : Value} {t : TypeId} (h : W.heap[B]? = some (.cells #[v] t (0, 0))) : W.cell? ⟨B, 0, none⟩ = some v ∧ W.frozen? ⟨B, 0, none⟩ = false := by
  constructor <;> simp [World.cell?, World.frozen?, h]

theorem heap_setCell_box {W : World} {B : Nat} {v : Value} {t : TypeId} (v' : Value) (h : W.heap[B]? = some (.cells #[v] t (0, 0))) : (W.setCell ⟨B, 0, none⟩ v').heap[B]? = some (.cells #[v'] t (0, 0)) := by
  obtain ⟨hlt, hk⟩ := Array.getElem?_eq_some_iff.1 h
  show (W.heap.modify B _)[B]? = _
  rw [Array.getElem?_eq_getElem (by rw [Array.size_modify]; exact hlt), Array.getElem_modify_self, hk]
  rfl
theorem ownsRow_not_walk {W : World} {base : Nat} {e : TypeId} {size : Nat} {v : Value} {k : Nat} {xs : List Value} (h : W.ownsRow base e size v k xs) : ∀ (j : Nat) (o : Obj), v.ownBlock = some j → W.heap[j]? = some o → o.isWalk = false := by
  intro j o hj ho
  rcases h.2 with ⟨rfl, _⟩ | ⟨g, cap, cur, rfl, _, hgb, _⟩
  · simp [Value.ownBlock] at hj
  · have : g = j := by simpa [Value.ownBlock] using hj
    subst this; rw [hgb] at ho; cases ho; rfl

theorem Sq.info55 : (Try.prog.info? 55).map (fun i => (i.zero, i.size, i.bytes)) = some (some (.int .u16 0), 1, 2) := by kernel_rfl

set_option maxRecDepth 100000 in
set_option maxHeartbeats 2000000 in
theorem Sq.apYield (F : Fence) (m : Nat) (w0 : World) (fn : FuncId) (hfn : F.fn fn) (sv : Value) (Bs l D : Nat) (hBl : Bs ≠ l) (hDl : D ≠ l) (hDB : D ≠ Bs) (h0B : w0.heap.size ≤ Bs) (h0l : w0.heap.size ≤ l)
    (N : Nat) (hN : N ≤ maxLen) (hNb : N * 2 ≤ 140737488355328) (ss : List Int) (x : Int) (W : World) (h : Sq.ApAt w0 fn sv Bs l D ss W) (hlen : ss.length < N) :
    YieldAt F m Try.prog l #[encU x] W fun e W' => e = .returned (.bool true) ∧ Sq.ApAt w0 fn sv Bs l D (ss ++ [x]) W' ∧ KeepsWalks W W' := by
  obtain ⟨i0, hi, hz0, hz1, hz2⟩ := info_parts Sq.info55
  obtain ⟨v, hv, hrow, _⟩ := h.box
  refine ⟨fn, #[.slice none 0 0, sv, .pointer (some ⟨Bs, 0, none⟩), undef, .slice none 0 0, undef, sv, encU x, undef, undef, undef, undef, undef], Sq.apAssign, Sq.apBody, by simpa [Sq.apRec] using run_yield (P := Try.prog) (args := #[encU x]) h.L rfl, roundIn_of_wpIn hfn ?_⟩
  have hl : l < W.heap.size := (Array.getElem?_eq_some_iff.1 h.L).1
  have hbr := run_beginRound (P := Try.prog) h.L rfl
  obtain ⟨W2, hW2⟩ : ∃ W2, W.putObj l (.loop { Sq.apRec fn sv Bs D .ready none with state := .busy }) = W2 := ⟨_, rfl⟩
  rw [hW2] at hbr
  have hg2 : W.grownBy W2 (some l) := by rw [← hW2]; exact grownBy_putObj _ _ _
  have hk2 : KeepsWalks W W2 := by rw [← hW2]; exact KeepsWalks.putObj _ h.L rfl
  have hv2 : W2.heap[Bs]? = some (.cells #[v] 37 (0, 0)) := by rw [← hW2]; exact (World.putObj_heap_other hBl).trans hv
  have hK2 : W2.heap[D]? = some (.deferred (some [])) := by rw [← hW2]; exact (World.putObj_heap_other hDl).trans h.K
  have hL2 : W2.heap[l]? = some (.loop { Sq.apRec fn sv Bs D .ready none with state := .busy }) := by rw [← hW2]; exact World.putObj_heap_same hl
  have hrow2 : W2.ownsRow w0.heap.size 55 1 v ss.length (ss.map encU) := hrow.kept hg2 (ownsRow_ne hrow h.L (fun cur e => by cases e))
  have hb2 : Below w0.heap.size w0 W2 := h.below.grown hg2 h.below.size (fun k e => by cases e; exact h0l)
  obtain ⟨hc2, hf2⟩ := cell_of_box hv2
  have hBlt : Bs < W2.heap.size := (Array.getElem?_eq_some_iff.1 hv2).1
  have hl2 : l < W2.heap.size := (Array.getElem?_eq_some_iff.1 hL2).1
  have hDlt : D < W2.heap.size := (Array.getElem?_eq_some_iff.1 hK2).1
  have ne_of : ∀ {j : Nat} {o : Obj}, W2.heap[j]? = some o → (∀ cur, o ≠ .cells cur 55 (0, 0)) → some j ≠ v.ownBlock := fun hj hno => by
    rcases ownsRow_ne hrow2 hj hno with e | e
    · rw [e]; simp
    · exact fun e' => e e'.symm
  clear hW2
  unfold Sq.apAssign
  gi_wp2_with (rw [Oper.semAt_eq _ _ _ (fun c h => by cases h)]; go_simp; try go_bits)
  unfold Sq.apBody
  gi_wp2_with (first
    | (gi_at_builtin; refine wpListIn_append_own _ rfl _ _ 37 rfl w0.heap.size 55 i0 (.int .u16 0) 1 2 Try.underlying37 hi hz0 hz1 hz2 rfl (by decide) _ _ _ rfl (hrow2.alloc _) ⟨W2.heap.size, 0, none⟩ 1 1 [encU x] rfl rfl (cell_one_new _ _ _) (by simp [Value.oneCell', encU]) (by omega) (by omega) (by have := hb2.size; simp; omega) ?_; intro v' w3 hown' hg3 hnil3
       have hv3 : w3.heap[Bs]? = some (.cells #[v] 37 (0, 0)) := (hg3.block Bs (by simp; omega) (ne_of hv2 (fun cur e => by cases e))).trans ((Below.heap_alloc _ _ Bs hBlt).trans hv2)
       obtain ⟨hc3, hf3⟩ := cell_of_box hv3
       obtain ⟨g', cap', cur', rfl, hbase', hgb', hr1, hr2, hr3, hr4⟩ : ∃ g' cap' cur', v' = .slice (some ⟨g', 0, none⟩) (ss.length + 1) cap' ∧ w0.heap.size ≤ g' ∧ w3.heap[g']? = some (.cells cur' 55 (0, 0)) ∧ ss.length + 1 ≤ cap' ∧ cap' ≤ maxLen ∧ cur'.size = cap' * 1 ∧ cur'.toList.take ((ss.length + 1) * 1) = ss.map encU ++ [encU x] := by
         rcases hown'.2 with ⟨_, h0⟩ | h'
         · exact absurd h0 (by omega)
         · exact h'
       go_frame)
    | (rw [Oper.semAt_eq _ _ _ (fun c h => by cases h)]; go_simp; try go_bits))
  have hg3' : (W2.alloc (.cells #[encU x] 55)).grownBy w3 v.ownBlock := hg3
  have hL3 : w3.heap[l]? = some (.loop { Sq.apRec fn sv Bs D .ready none with state := .busy }) := (hg3'.block l (by simp; omega) (ne_of hL2 (fun cur e => by cases e))).trans ((Below.heap_alloc _ _ l hl2).trans hL2)
  have hK3 : w3.heap[D]? = some (.deferred (some [])) := (hg3'.block D (by simp; omega) (ne_of hK2 (fun cur e => by cases e))).trans ((Below.heap_alloc _ _ D hDlt).trans hK2)
  obtain ⟨w4, hw4⟩ : ∃ w4, w3.setCell ⟨Bs, 0, none⟩ (.slice (some ⟨g', 0, none⟩) (ss.length + 1) cap') = w4 := ⟨_, rfl⟩
  rw [hw4]
  have hg4 : w3.grownBy w4 (some Bs) := by rw [← hw4]; exact grownBy_setCell0 _ _ _
  have hv4 : w4.heap[Bs]? = some (.cells #[.slice (some ⟨g', 0, none⟩) (ss.length + 1) cap'] 37 (0, 0)) := by rw [← hw4]; exact heap_setCell_box _ hv3
  have hL4 : w4.heap[l]? = some (.loop { Sq.apRec fn sv Bs D .ready none with state := .busy }) := (hg4.block l (Array.getElem?_eq_some_iff.1 hL3).1 (fun e => hBl (by cases e; rfl))).trans hL3
  have hK4 : w4.heap[D]? = some (.deferred (some [])) := (hg4.block D (Array.getElem?_eq_some_iff.1 hK3).1 (fun e => hDB (by cases e; rfl))).trans hK3
  have hrow4 := hown'.kept hg4 (ownsRow_ne hown' hv3 (fun cur e => by cases e))
  have hl4 : l < w4.heap.size := (Array.getElem?_eq_some_iff.1 hL4).1
  have hb3 : Below w0.heap.size w0 w3 := (hb2.alloc hb2.size _).grown hg3' (by have := hb2.size; simp; omega) (fun k e => (hrow2.lt k e).1)
  have hb4 : Below w0.heap.size w0 w4 := hb3.grown hg4 hb3.size (fun k e => by cases e; exact h0B)
  have hk4 : KeepsWalks W w4 := ((hk2.trans (KeepsWalks.alloc _ _)).trans (KeepsWalks.of_grownBy hg3' (ownsRow_not_walk (hrow2.alloc _)))).trans (by rw [← hw4]; exact KeepsWalks.setCell _ _ _)
  clear hw4
  refine ⟨_, _, run_endRound none hL4, rfl, ⟨⟨_, (World.putObj_heap_other hBl).trans hv4, ?_, by simp⟩, World.putObj_heap_same hl4, (World.putObj_heap_other hDl).trans hK4, hb4.grown (grownBy_putObj _ _ _) hb4.size (fun k e => by cases e; exact h0l)⟩, hk4.trans (KeepsWalks.putObj _ hL4 rfl)⟩
  have := hrow4.kept (grownBy_putObj w4 l (.loop { { Sq.apRec fn sv Bs D .ready none with state := .busy } with state := if (none : Option Code).isNone then .ready else .done, pending := none })) (ownsRow_ne hrow4 hL4 (fun cur e => by cases e))
  simpa using this


set_option maxRecDepth 100000 in
set_option maxHeartbeats 2000000 in
theorem Sq.appendSeq_in (F : Fence) (n : Nat) (h11 : F.fn 181) (hro : F.round = none) (hn : 2 ≤ n) (g : Nat) (lb : Array Value) (hFg : F.fn g) (eg : ∀ args w, (callFunc g args).run Try.prog w = .ok (.enter g args) w)
    (S : List Int → Prop) (N : Nat) (hN : N ≤ maxLen) (hNb : N * 2 ≤ 140737488355328) (w : World) (hseq : SeqU F (n - 1) g lb S N w) :
    CallsIn F n Try.prog 181 #[.slice none 0 0, .func (.func g) #[] lb] w fun e w' => ∃ (v : Value) (ss : List Int), e = .returned v ∧ S ss ∧ w'.ownsRow w.heap.size 55 1 v ss.length (ss.map encU) ∧ (v = .slice none 0 0 ↔ ss = []) ∧ Below w.heap.size w w' := by
  have h1 : 1 ≤ n := by omega
  refine callsIn_of_wp_marks Try.func181 rfl h11 ?_ hro
  simp only [Try.ntmps181, List.size_toArray, List.length_cons, List.length_nil, Nat.reduceAdd, Nat.reduceSub, Array.replicate_succ, Array.replicate_zero, List.push_toArray, List.append_toArray, List.nil_append, List.cons_append]
  gi_wp2
  refine wpIn_rangeFunc ?_
  intro fn hfn
  rw [hro]
  obtain ⟨W0, hW0⟩ : ∃ W0, w.alloc (.cells #[.slice none 0 0] 37) = W0 := ⟨_, rfl⟩
  have hs0 : W0.heap.size = w.heap.size + 1 := by rw [← hW0]; simp
  have hv0 : W0.heap[w.heap.size]? = some (.cells #[.slice none 0 0] 37 (0, 0)) := by rw [← hW0]; exact World.alloc_heap_new w _
  have hb0 : Below w.heap.size w W0 := by rw [← hW0]; exact (Below.refl _ w).alloc (Nat.le_refl _) _
  rw [hW0]
  obtain ⟨W1, hW1⟩ : ∃ W1, (W0.alloc (.deferred (some []))).alloc (.loop (Sq.apRec fn (.func (.func g) #[] lb) w.heap.size W0.heap.size .ready none)) = W1 := ⟨_, rfl⟩
  have hold : ∀ k, k < W0.heap.size → W1.heap[k]? = W0.heap[k]? := fun k hk => by
    rw [← hW1]; exact (Below.heap_alloc _ _ k (by simp; omega)).trans (Below.heap_alloc _ _ k hk)
  have hb1 : Below w.heap.size w W1 := by rw [← hW1]; exact (hb0.alloc hb0.size _).alloc (by have := hb0.size; simp; omega) _
  have hs1 : W1.heap.size = W0.heap.size + 2 := by rw [← hW1]; simp
  have hM : Sq.ApAt w fn (.func (.func g) #[] lb) w.heap.size (W0.heap.size + 1) W0.heap.size [] W1 :=
    ⟨⟨_, (hold w.heap.size (by omega)).trans hv0, ⟨rfl, .inl ⟨rfl, rfl⟩⟩, by simp⟩,
     by rw [← hW1]; have := World.alloc_heap_new (W0.alloc (.deferred (some []))) (.loop (Sq.apRec fn (.func (.func g) #[] lb) w.heap.size W0.heap.size .ready none)); rwa [World.size_alloc] at this,
     by rw [← hW1]; exact (Below.heap_alloc _ _ _ (by simp)).trans (World.alloc_heap_new W0 _), hb1⟩
  refine ⟨W0.heap.size + 1, [{ target := .collected W0.heap.size, args := #[] }], W1, { target := .fn (.func g) lb, args := #[.func (.yield (W0.heap.size + 1)) #[] #[]] }, W1, g,
    #[.func (.yield (W0.heap.size + 1)) #[] #[]] ++ lb, W1, ?_, ?_, ?_, ?_, fun _ => h1, ?_⟩
  · rw [← hW1]; exact run_enterLoop_outer _ _ _ _ _
  · simp [resolve, go_sem]
  · intro f' hf'; simp [Target.leads] at hf'; subst hf'; exact hFg
  · simp [invoke, go_sem, eg]
  · refine (hseq (W0.heap.size + 1) (Sq.ApAt w fn (.func (.func g) #[] lb) w.heap.size (W0.heap.size + 1) W0.heap.size) W1 hb1 (fun _ _ h => h.below)
      (fun pre x W hJ hl => Sq.apYield F (n - 1 - 1) w fn hfn _ w.heap.size (W0.heap.size + 1) W0.heap.size (by omega) (by omega) (by omega) (Nat.le_refl _) (by omega) N hN hNb pre x W hJ hl) hM).mono ?_
    rintro e W2 ⟨⟨v0, rfl⟩, ss, hS, h2⟩
    obtain ⟨v, hv, hrow, hnil⟩ := h2.box
    have hend := run_endLoop (P := Try.prog) h2.L (by simp [Sq.apRec])
    obtain ⟨W3, hW3⟩ : ∃ W3, W2.putObj (W0.heap.size + 1) (.loop { Sq.apRec fn (.func (.func g) #[] lb) w.heap.size W0.heap.size .ready none with state := .exhausted }) = W3 := ⟨_, rfl⟩
    rw [hW3] at hend
    have hg3 : W2.grownBy W3 (some (W0.heap.size + 1)) := by rw [← hW3]; exact grownBy_putObj _ _ _
    have hv3 : W3.heap[w.heap.size]? = some (.cells #[v] 37 (0, 0)) := by rw [← hW3]; exact (World.putObj_heap_other (by omega)).trans hv
    have hK3 : W3.heap[W0.heap.size]? = some (.deferred (some [])) := by rw [← hW3]; exact (World.putObj_heap_other (by omega)).trans h2.K
    have hrow3 := hrow.kept hg3 (ownsRow_ne hrow h2.L (fun cur e => by cases e))
    have hb3 : Below w.heap.size w W3 := h2.below.grown hg3 h2.below.size (fun k e => by cases e; omega)
    obtain ⟨hc3, hf3⟩ := cell_of_box hv3
    clear hW3
    refine ⟨none, W3, hend, ?_⟩
    gi_wp2
    rw [← hs0]
    refine ⟨by simp, .inl ⟨_, _, rfl, run_takeDeferred hK3, ?_⟩⟩
    exact ⟨_, results_tmp rfl _ _ _, v, ss, rfl, hS, hrow3.kept (grownBy_putObj _ _ _) (ownsRow_ne hrow3 hK3 (fun cur e => by cases e)), hnil, hb3.grown (grownBy_putObj _ _ _) hb3.size (fun k e => by cases e; omega)⟩



end Go.Proofs.Ytmanpbgaihdalaa
namespace Go.Proofs.Ytmanpbgaihdalaa
open Go Dv Go.RowKit Go.Maps Go.Sort Go.Shelf
attribute [local go_sem] Oper.semAt_some
set_option maxRecDepth 100000 in
set_option maxHeartbeats 2000000 in
theorem Sq.values1_in (F : Fence) (n : Nat) (h7 : F.fn 177) (hro : F.round = none) (hn : 1 ≤ n) (Bs bo b off cap : Nat) (zs : List Int) (hreach : zs.length * 2 ≤ 140737488351232) (w : World) (hBs0 : Bs < w.heap.size) (hb : b < w.heap.size)
    (hBs : w.cell? ⟨Bs, bo, none⟩ = some (.slice (some ⟨b, off, none⟩) zs.length cap)) (hc : ∀ j, j < zs.length → w.cell? ⟨b, off + j, none⟩ = some (.int .u16 (zs[j]?.getD 0))) :
    SeqU F n 177 #[.pointer (some ⟨Bs, bo, none⟩)] (fun ss => ss = zs) zs.length w := by
  intro l J W hW hJB hY h0
  have hBsW := (hW.cell (p := ⟨Bs, bo, none⟩) hBs0).trans hBs
  have hcW : ∀ W', RowKit.Below w.heap.size w W' → ∀ k, k < zs.length → W'.cell? ⟨b, off + k, none⟩ = some (.int .u16 (zs[k]?.getD 0)) := fun W' h k hk => (h.cell (p := ⟨b, off + k, none⟩) hb).trans (hc k hk)
  refine callsIn_of_wp Try.func177 rfl h7 ?_ hro
  simp only [Try.ntmps177, List.size_toArray, List.length_cons, List.length_nil, Nat.reduceAdd, Nat.reduceSub, Array.replicate_succ, Array.replicate_zero, List.push_toArray, List.append_toArray, List.nil_append, List.cons_append]
  gi_wp2
  gi_loopw [7] (fun i wr => ∃ k : Nat, k ≤ zs.length ∧ i = .int .i64 k ∧ J (zs.take k) wr)
    (fun i _ => zs.length - (intOf i).toNat)
  case atStart => exact ⟨0, Nat.zero_le _, rfl, by simpa using h0⟩
  case round =>
    obtain ⟨k, hk, rfl, hJs⟩ := hrel
    by_cases hlt : k < zs.length
    · have hcx' := hcW wr (hJB _ _ hJs) k hlt
      have hJx : ∀ W', J (zs.take k ++ [zs[k]?.getD 0]) W' → J (zs.take (k + 1)) W' := fun W' h => by rw [List.take_add_one]; simpa [List.getElem?_eq_getElem hlt] using h
      generalize zs[k]?.getD 0 = x at hcx' hJx
      obtain ⟨fn, tmps, assign, body, hy, hR⟩ := hY _ x wr hJs (by rw [List.length_take]; omega)
      unfold encU at hy
      gi_wp2
      refine hR.mono ?_
      rintro e W3 ⟨rfl, hJ3, _⟩
      gi_wp2
      go_roundw
      case rel => exact ⟨k + 1, by omega, by simp, hJx _ hJ3⟩
      case measure => simp [intOf]; omega
    · obtain rfl : k = zs.length := by omega
      gi_wp2
      go_end0
      exact ⟨⟨_, rfl⟩, _, rfl, by simpa using hJs⟩
set_option maxRecDepth 100000 in
set_option maxHeartbeats 1000000 in
theorem Sq.values1_nil (F : Fence) (n : Nat) (h7 : F.fn 177) (hro : F.round = none) (Bs bo cap : Nat) (p : Option Addr) (w : World) (hBs0 : Bs < w.heap.size)
    (hBs : w.cell? ⟨Bs, bo, none⟩ = some (.slice p 0 cap)) :
    SeqU F n 177 #[.pointer (some ⟨Bs, bo, none⟩)] (fun ss => ss = []) 0 w := by
  intro l J W hW hJB hY h0
  have hBsW := (hW.cell (p := ⟨Bs, bo, none⟩) hBs0).trans hBs
  refine callsIn_of_wp Try.func177 rfl h7 ?_ hro
  simp only [Try.ntmps177, List.size_toArray, List.length_cons, List.length_nil, Nat.reduceAdd, Nat.reduceSub, Array.replicate_succ, Array.replicate_zero, List.push_toArray, List.append_toArray, List.nil_append, List.cons_append]
  gi_wp2
  gi_loopw [7] (fun i wr => i = .int .i64 0 ∧ J [] wr) (fun _ _ => 0)
  case atStart => exact ⟨rfl, h0⟩
  case round =>
    obtain ⟨rfl, hJs⟩ := hrel
    gi_wp2
    go_end0
    exact ⟨⟨_, rfl⟩, _, rfl, hJs⟩
end Go.Proofs.Ytmanpbgaihdalaa
namespace Go.Proofs.Ytmanpbgaihdalaa
open Go Dv Go.RowKit Go.Maps Go.Sort Go.Shelf
set_option linter.unusedSimpArgs false
theorem fr_below {w w' : World} (h : RowKit.Below w.heap.size w w') : Fr (fun _ => False) w w' :=
  ⟨h.os, h.tape, h.output, h.size, fun b hb _ => h.block b hb, fun a ha => by simp only [World.frozen?, h.block a.block ha]⟩
theorem c_AppendSeq (l : List Int) (hl : l.length ≤ maxL) : FO Try.prog 181 [.nsl, .fn 177 [.ip [u16s l]]] 1 l.length (fun i => [.int .u16 (l.getD i 0)]) := by
  refine ⟨⟨_, Try.func181, rfl, by decide +kernel⟩, fun X w vals hX hv => ?_⟩
  simp only [Vs, V, Vc, u16s] at hv
  obtain ⟨_, _, rfl, rfl, _, _, rfl, ⟨a, rfl, _, _, rfl, ⟨Bs, bo, rfl, hBs, hnX, ⟨v, hcell, _, p, c, rfl, hnc, _, hrow⟩, _⟩, rfl⟩, rfl⟩ := hv
  have hu : ∀ i, i < l.length → IntKind.u16.min ≤ l.getD i 0 ∧ l.getD i 0 ≤ IntKind.u16.max := fun i hi => by
    rcases hrow with h0 | ⟨b, o, _, _, _, hc⟩
    · omega
    · exact (hc i hi).2.1.choose_spec.2.2.2
  have key : ∃ N, SeqU Fence.wide 1 177 #[.pointer (some ⟨Bs, bo, none⟩)] (fun ss => ss = l) N w ∧ N ≤ maxLen ∧ N * 2 ≤ 140737488355328 := by
    rcases hrow with h0 | ⟨b, o, rfl, hb, _, hc⟩
    · have : l = [] := List.length_eq_zero_iff.1 h0
      subst this
      exact ⟨0, Sq.values1_nil Fence.wide 1 trivial rfl Bs bo c p w hBs hcell, by decide, by decide⟩
    · refine ⟨l.length, Sq.values1_in Fence.wide 1 trivial rfl (by omega) Bs bo b o c l (by simp only [maxL] at hl; omega) w hBs hb hcell (fun j hj => ?_), by simp only [maxL] at hl; simp only [maxLen]; omega, by simp only [maxL] at hl; omega⟩
      obtain ⟨_, ⟨v, h1, _, h2, _⟩, _⟩ := hc j hj
      rw [Nat.mul_one] at h1
      rw [h1, h2]; simp
  obtain ⟨N, hseq, hN, hN2⟩ := key
  refine (callsIn_wide.1 (Sq.appendSeq_in Fence.wide 2 trivial rfl (by omega) 177 #[.pointer (some ⟨Bs, bo, none⟩)] trivial (fun args w => run_callFunc ⟨_, Try.func177, rfl, by decide +kernel⟩ args w) (fun ss => ss = l) N hN hN2 w hseq)).mono ?_
  rintro e w' ⟨v, ss, rfl, rfl, hown, hnil, hb⟩
  refine ⟨v, rfl, fr_below hb, hl, ?_⟩
  rcases hown.2 with ⟨h1, h2⟩ | ⟨g, cap, cur, h1, h2, h3, h4, h5, h6, h7⟩
  · exact .inl ⟨h1, h2⟩
  · refine .inr ⟨_, g, cap, h1, h2, .inr rfl, cur, 55, h3, h4, h6, fun i hi => ⟨rfl, ?_⟩⟩
    simp only [Vc, V]
    have hg : cur[i]? = some (.int .u16 (ss.getD i 0)) := by
      have := congrArg (fun l => l[i]?) h7
      simp only [Nat.mul_one, List.getElem?_take, hi, if_true, List.getElem?_map] at this
      rw [← Array.getElem?_toList, this, List.getElem?_eq_getElem hi, List.getD_eq_getElem?_getD, List.getElem?_eq_getElem hi]; rfl
    refine ⟨⟨_, ?_, rfl, rfl, ?_⟩, trivial⟩
    · simp [World.cell?, h3, hg]
    · exact hu i hi
theorem Rel.bp {h : AHeap} {id : Dv.Id} {imm : Bool} {sz k : Nat} {f : Nat → List AV} {g : List AV} (hh : h id = some (.row imm sz k f)) (hk : 0 < k) (hm : Rels h (f 0) g) : Rel h (.bp id 0) (.ip g) := fun X ι w v s hv => by
  simp only [V] at hv ⊢
  cases hl : ι id with
  | none => simp [hl] at hv
  | some l =>
    cases l with
    | ghost => simp [hl] at hv
    | nil => simp [hl] at hv
    | «at» b c =>
      simp only [hl] at hv
      obtain ⟨arr, TT, hc, h4, h5, h6⟩ := s.rel id _ _ hh hl
      refine ⟨b, 0, hv, s.lt hl, s.apart id b c hl, ?_⟩
      obtain ⟨h7, h8⟩ := h6 0 hk
      have h9 := Vc_weak' imm _ _ _ h8
      rw [Nat.zero_mul] at h9
      obtain ⟨vs, hvl, hvc, hvV, hv1⟩ := Vc_read h9
      exact Vc_of_Vs (hm X ι w vs s hvV) hvc hv1
theorem c_Values (l : List Int) : FC Try.prog 166 [u16s l] (.fn 177 [.ip [u16s l]]) := by
  refine FC_intro tok Try.func166 rfl (by decide +kernel) (Nat.le_of_ble_eq_true rfl) ?_
  (repeat' first | refine AWp_seq ?_ | (refine AWp_reg tok (by rfl) ?_; conv => whnf) | (refine AWp_ret ?_; conv => whnf))
  exact ⟨_, rfl, Rel.fn (Rels.cons (Rel.bp rfl Nat.zero_lt_one (Rels.imm rfl)) Rels.nil)⟩
theorem c_Collect (l : List Int) (hl : l.length ≤ maxL) : FO Try.prog 175 [.fn 177 [.ip [u16s l]]] 1 l.length (fun i => [.int .u16 (l.getD i 0)]) := by
  refine FO_intro tok Try.func175 rfl (by decide +kernel) (Nat.le_of_ble_eq_true rfl) ?_
  (repeat' first | refine AWp_seq ?_ | (refine AWp_reg tok (by rfl) ?_; conv => whnf))
  refine .inl ⟨_, _, _, uG (QC.fo (rd := []) (c_AppendSeq l hl) (Ress.imms rfl) (.inl rfl) rfl), ?_⟩
  conv => whnf
  (repeat' (refine AWp_ret ?_; conv => whnf))
  exact ⟨_, rfl, .rs rfl (Nat.le_refl _) rfl (fun _ _ => rfl)⟩
theorem c_Sorted (l : List Int) (hl : l.length ≤ maxL) : FO Try.prog 165 [.fn 177 [.ip [u16s l]]] 1 l.length (fun i => [.int .u16 ((sorted l).getD i 0)]) := by
  refine FO_intro tok Try.func165 rfl (by decide +kernel) (Nat.le_of_ble_eq_true rfl) ?_
  (repeat' first | refine AWp_seq ?_ | (refine AWp_reg tok (by rfl) ?_; conv => whnf))
  refine .inl ⟨_, _, _, uG (QC.fo (rd := []) (c_Collect l hl) (Ress.imms rfl) (.inl rfl) rfl), ?_⟩
  conv => whnf
  (repeat' first | refine AWp_seq ?_ | (refine AWp_reg tok (by rfl) ?_; conv => whnf))
  have hS := c_Sort l.length l.toArray (by simp)
  refine .inr ⟨_, _, _, uG (QH.of (dead := []) [(i0, .old (5, 0, 0), arow l.length l.toArray)] hS rfl (.old rfl (BLe.row rfl (fun x h2 => ?_)) .nil) (.cons (.eq rfl) .nil) [(i0, (5, 0, 0))] rfl (.cons (b' := .row true 1 l.length (fun i => [.int .u16 ((sorted l).getD i 0)])) rfl (BLe.row rfl (fun x h2 => ?_)) .nil) rfl), ?_⟩
  · show [AV.int .u16 (l.getD x 0)] = [.int .u16 l.toArray[x]!]
    rw [bang_list]
  · show [AV.int .u16 (Go.Sort.sort ltInt l.toArray)[x]!] = [.int .u16 ((sorted l).getD x 0)]
    rw [← bang_list]; simp [sorted]
  conv => whnf
  (repeat' first | refine AWp_seq ?_ | (refine AWp_reg tok (by rfl) ?_; conv => whnf) | (refine AWp_ret ?_; conv => whnf))
  exact ⟨_, rfl, .rs rfl (Nat.le_refl _) rfl (fun _ _ => rfl)⟩
end Go.Proofs.Ytmanpbgaihdalaa
namespace Go.Proofs.Ytmanpbgaihdalaa
open Go Dv
set_option maxRecDepth 10000
set_option linter.unusedSimpArgs false
theorem sorted_perm (l : List Int) : (sorted l).Perm l := by rw [sorted_eq]; exact List.mergeSort_perm l _
theorem sorted_asc (l : List Int) : ∀ i j, i < j → j < (sorted l).length → (sorted l).getD i 0 ≤ (sorted l).getD j 0 := by
  have h : (sorted l).Pairwise (fun x y => decide (x ≤ y) = true) := by
    rw [sorted_eq]
    exact List.pairwise_mergeSort (fun a b c h1 h2 => by simp at *; omega) (fun a b => by simp; omega) l
  intro i j hij hj
  rw [List.pairwise_iff_getElem] at h
  have := h i j (by omega) hj hij
  rw [getD_lt _ (by omega), getD_lt _ hj]; simpa using this
theorem runs_sorted (l : List Int) : runs (sorted l).toArray l.length = l.length ↔ l.Nodup := by
  have h := runs_all (sorted_asc l) l.length (by rw [sorted_len]; omega)
  rw [h, ← (sorted_perm l).nodup_iff]
  constructor
  · intro hh; exact nodup_getD (fun i hi k hk => hh i (by rw [sorted_len] at hi; exact hi) k hk)
  · intro hn x hx y hy he
    exact not_nodup (by rw [sorted_len]; exact hx) hy he hn
theorem c_lpad : LPad := by
  intro m f b
  refine FC_intro tok Try.func156 rfl (by decide +kernel) (Nat.le_of_ble_eq_true rfl) ?_
  refine AWp_facts 1 (fun hl => ?_)
  have hl0 : b.pad.catch_.length ≤ maxL := hl.2.2.1.1
  (repeat' first | refine AWp_seq ?_ | (refine AWp_reg tok (by rfl) ?_; conv => whnf) | (refine AWp_skip ?_; conv => whnf) | refine AWp_cond rfl (fun hb => ?_) (fun hb => ?_))
  · refine .inl ⟨_, _, _, uG (QC.sc (rd := []) (c_samePad b.pad ⟨0, [], false, false⟩) (.cons (.imm rfl) (.cons (.agg (.cons (.imm rfl) (.cons .nsl (.cons (.imm rfl) (.cons (.imm rfl) .nil))))) .nil)) rfl), ?_⟩
    conv => whnf
    (repeat' (refine AWp_ret ?_; conv => whnf))
    refine ⟨_, rfl, Rel.bool ?_⟩
    rw [decide_eq_decide]
    obtain ⟨land, ⟨d, c, al, cl⟩, _, _⟩ := b
    simp at hb
    simp [PadP, hb, and_assoc]
  refine .inl ⟨_, _, _, uG (QC.fc (c_Values b.pad.catch_) rfl), ?_⟩
  conv => whnf
  skip
  refine .inl ⟨_, _, _, uG (QC.fo (rd := []) (c_Sorted b.pad.catch_ hl0) (Ress.imms rfl) (.inl rfl) rfl), ?_⟩
  conv => whnf
  (repeat' first | refine AWp_seq ?_ | (refine AWp_any tok mix (by rfl) ?_; conv => whnf))
  refine .inl ⟨_, _, _, uG (QC.fc (c_place m f b.pad.dst) rfl), ?_⟩
  conv => whnf
  skip
  have hC := c_Compact b.pad.catch_.length (sorted b.pad.catch_).toArray (by simp [sorted_len])
  refine .inl ⟨_, _, _, uG (QC.turn (i := (18, 0, 0)) (rd := [(18, 0, 0)]) (b := .row true 1 0 (fun _ => [])) (List.mem_singleton.2 rfl) (fun h' hh => QH.of (dead := []) [(i0, .old (18, 0, 0), arow b.pad.catch_.length (sorted b.pad.catch_).toArray)] hC rfl (.old (hh _ (List.mem_singleton.2 rfl)) (BLe.row rfl (fun x h2 => ?_)) .nil) (.cons (.eq rfl) .nil) [(i0, (18, 0, 0))] rfl (.cons (b' := .row true 1 0 (fun _ => [])) rfl (BLe.rowW (Nat.zero_le _) (fun x h2 => absurd h2 (Nat.not_lt_zero x))) .nil) rfl)), ?_⟩
  · show [AV.int .u16 ((sorted b.pad.catch_).getD x 0)] = [.int .u16 (sorted b.pad.catch_).toArray[x]!]
    rw [bang_list]
  conv => whnf
  (repeat' (refine AWp_ret ?_; conv => whnf))
  refine ⟨_, rfl, Rel.bool ?_⟩
  have h1 := runs_sorted b.pad.catch_
  generalize runs (sorted b.pad.catch_).toArray b.pad.catch_.length = rr at h1 ⊢
  have hland : b.landing = true := by simpa using hb
  rw [Bool.eq_iff_iff]
  have e1 : ((rr : Int) = (b.pad.catch_.length : Int)) ↔ b.pad.catch_.Nodup := by rw [← h1]; omega
  have e2 : ((b.pad.catch_.length : Int) ≤ 8) ↔ b.pad.catch_.length ≤ 8 := by omega
  have e3 : (0 : Int) < (b.pad.catch_.length : Int) ↔ b.pad.catch_ ≠ [] := by
    rw [← List.length_pos_iff]; omega
  simp only [cond_eq_ite, Bool.if_false_right, Bool.if_true_left, Bool.and_eq_true, Bool.or_eq_true, decide_eq_true_eq, e1, e2, e3, PadP, hland, Bool.decide_eq_true]
  simp
  constructor
  · rintro ⟨⟨⟨h2, h3⟩, h4⟩, h5⟩
    refine ⟨h3, h4, h2, ?_⟩
    rcases h5 with (h5 | h5) | h5 <;> simp [h5]
  · rintro ⟨h3, h4, h2, h5⟩
    refine ⟨⟨⟨h2, h3⟩, h4⟩, ?_⟩
    rcases h5 with h5 | h5 | h5 <;> simp [h5]
end Go.Proofs.Ytmanpbgaihdalaa
namespace Go.Proofs.Ytmanpbgaihdalaa
open Go Dv
/-! The least set that a rule leaves as it is. -/
def leL (a b : List Bool) : Prop := ∀ i, a.getD i false = true → b.getD i false = true
theorem leL.refl (a : List Bool) : leL a a := fun _ h => h
theorem leL.trans {a b c : List Bool} (h : leL a b) (k : leL b c) : leL a c := fun i e => k i (h i e)
def cnt (a : List Bool) : Nat := a.count true
theorem cnt_le {a : List Bool} : cnt a ≤ a.length := List.count_le_length
theorem cnt_mono : ∀ {a b : List Bool}, a.length = b.length → leL a b → cnt a ≤ cnt b ∧ (cnt b ≤ cnt a → a = b)
  | [], [], _, _ => ⟨Nat.le_refl _, fun _ => rfl⟩
  | x :: a, y :: b, hl, h => by
      have hl' : a.length = b.length := by simpa using hl
      have h' : leL a b := fun i e => by have := h (i + 1) (by simpa using e); simpa using this
      have h0 : x = true → y = true := fun e => by have := h 0 (by simpa using e); simpa using this
      obtain ⟨h1, h2⟩ := cnt_mono hl' h'
      unfold cnt at h1 h2 ⊢
      cases x <;> cases y
      · refine ⟨by simpa using h1, fun k => ?_⟩
        rw [h2 (by simpa using k)]
      · refine ⟨by simp; omega, fun k => ?_⟩
        simp at k; omega
      · exact absurd (h0 rfl) (by simp)
      · refine ⟨by simpa using h1, fun k => ?_⟩
        rw [h2 (by simpa using k)]
theorem set_get {a : List Bool} {n i : Nat} (hn : n < a.length) : (a.set n true).getD i false = (decide (n = i) || a.getD i false) := by
  rw [getD_set]
  by_cases h : n = i
  · subst h; simp [hn]
  · simp [h]
theorem leL_set (a : List Bool) (n : Nat) : leL a (a.set n true) := fun i h => by
  by_cases hn : n < a.length
  · rw [set_get hn, h]; simp
  · rw [List.set_eq_of_length_le (by omega)]; exact h
theorem cnt_set {a : List Bool} {n : Nat} (hn : n < a.length) (h : a.getD n false = false) : cnt a < cnt (a.set n true) := by
  rcases Nat.lt_or_ge (cnt a) (cnt (a.set n true)) with k | k
  · exact k
  · have := (cnt_mono (by simp) (leL_set a n)).2 k
    rw [this, set_get hn] at h; simp at h
section
variable (len : Nat) (D : Nat → List Bool → Bool)
def MonoD : Prop := ∀ n a b, leL a b → D n a = true → D n b = true
structure Closed (a : List Bool) : Prop where
  sz : a.length = len
  cl : ∀ n, n < len → D n a = true → a.getD n false = true
def Beneath (a : List Bool) : Prop := ∀ c, Closed len D c → leL a c
def nxt (a : List Bool) : List Bool := (List.range len).map fun n => a.getD n false || D n a
def iterN : Nat → List Bool → List Bool
  | 0, a => a
  | k + 1, a => iterN k (nxt len D a)
def lfp : List Bool := iterN len D (len + 1) (List.replicate len false)
variable {len D}
theorem nxt_len (a : List Bool) : (nxt len D a).length = len := by simp [nxt]
theorem nxt_get (a : List Bool) {i : Nat} (hi : i < len) : (nxt len D a).getD i false = (a.getD i false || D i a) := by simp [nxt, List.getD_eq_getElem?_getD, hi]
theorem getD_ge {a : List Bool} {i : Nat} (h : a.length ≤ i) : a.getD i false = false := by simp [List.getD_eq_getElem?_getD, h]
theorem nxt_le {a : List Bool} (hl : a.length = len) : leL a (nxt len D a) := fun i h => by
  by_cases hi : i < len
  · rw [nxt_get a hi, h]; rfl
  · rw [getD_ge (by omega)] at h; cases h
theorem nxt_beneath (hD : MonoD D) {a : List Bool} (h : Beneath len D a) : Beneath len D (nxt len D a) := fun c hc i e => by
  by_cases hi : i < len
  · rw [nxt_get a hi, Bool.or_eq_true] at e
    rcases e with e | e
    · exact h c hc i e
    · exact hc.cl i hi (hD i a c (h c hc) e)
  · rw [getD_ge (by rw [nxt_len]; omega)] at e; cases e
theorem nxt_same {a : List Bool} (hl : a.length = len) (h : cnt (nxt len D a) ≤ cnt a) : Closed len D a := by
  have e := (cnt_mono (by rw [hl, nxt_len]) (nxt_le hl)).2 h
  refine ⟨hl, fun n hn hd => ?_⟩
  rw [e, nxt_get a hn, hd]; simp
theorem nxt_closed {a : List Bool} (h : Closed len D a) : nxt len D a = a := by
  refine list_ext_getD false (by rw [nxt_len, h.sz]) (fun i hi => ?_)
  rw [nxt_len] at hi
  rw [nxt_get a hi]
  cases e : D i a with
  | false => simp
  | true => rw [h.cl i hi e]; rfl
theorem iterN_ok (hD : MonoD D) : ∀ (k : Nat) (a : List Bool), a.length = len → Beneath len D a → (iterN len D k a).length = len ∧ Beneath len D (iterN len D k a) ∧ (Closed len D (iterN len D k a) ∨ k + cnt a ≤ cnt (iterN len D k a))
  | 0, a, hl, hb => ⟨hl, hb, .inr (by simp [iterN])⟩
  | k + 1, a, hl, hb => by
      have ih := iterN_ok hD k (nxt len D a) (nxt_len a) (nxt_beneath hD hb)
      simp only [iterN]
      refine ⟨ih.1, ih.2.1, ?_⟩
      by_cases hc : cnt (nxt len D a) ≤ cnt a
      · have h0 := nxt_same hl hc
        left
        have : ∀ k, iterN len D k a = a := fun k => by
          induction k with
          | zero => rfl
          | succ k ih => rw [iterN, nxt_closed h0, ih]
        rw [nxt_closed h0, this k]; exact h0
      · rcases ih.2.2 with h | h
        · exact .inl h
        · right; omega
theorem lfp_ok (hD : MonoD D) : Closed len D (lfp len D) ∧ Beneath len D (lfp len D) := by
  have h0 : Beneath len D (List.replicate len false) := fun c _ i e => by
    exfalso; simp only [List.getD_eq_getElem?_getD, List.getElem?_replicate] at e; split at e <;> simp at e
  have := iterN_ok hD (len + 1) (List.replicate len false) (by simp) h0
  refine ⟨?_, this.2.1⟩
  rcases this.2.2 with h | h
  · exact h
  · have h2 : cnt (iterN len D (len + 1) (List.replicate len false)) ≤ (iterN len D (len + 1) (List.replicate len false)).length := cnt_le
    rw [this.1] at h2; omega
theorem lfp_uniq (hD : MonoD D) {a : List Bool} (h1 : Closed len D a) (h2 : Beneath len D a) : a = lfp len D := by
  obtain ⟨h3, h4⟩ := lfp_ok hD (len := len)
  refine list_ext_getD false (by rw [h1.sz, h3.sz]) (fun i _ => ?_)
  have e1 := h2 _ h3 i
  have e2 := h4 _ h1 i
  cases hx : a.getD i false <;> cases hy : (lfp len D).getD i false
  · rfl
  · rw [e2 hy] at hx; cases hx
  · rw [e1 hx] at hy; cases hy
  · rfl
end
end Go.Proofs.Ytmanpbgaihdalaa
namespace Go.Proofs.Ytmanpbgaihdalaa
open Go Dv
set_option maxRecDepth 10000
set_option linter.unusedSimpArgs false
def hasB (l : List Int) (n : Int) : Bool := l.any fun y => decide (n = y)
def isAt (is : List Bool) (n : Int) : Bool := is.getD n.toNat false
def callsB (b : Block) (is : List Bool) : Bool := b.ins.any fun x => bif decide (x.op = 11) then isAt is x.f else false
def outB (f : Func) (b : Block) (is : List Bool) : Bool := decide (b.fin.kind = 5) || (decide (b.fin.kind = 6) || ((bif decide (b.fin.kind = 4) then bif isAt is b.fin.f then !(f.blocks.getD b.fin.pad.toNat default).pad.all else false else false) || callsB b is))
def doB (ops : List Int) (_ : Func) (b : Block) (is : List Bool) : Bool := (bif decide (b.fin.kind = 4) then isAt is b.fin.f else false) || (callsB b is || b.ins.any fun x => hasB ops x.op)
structure OkB (nf nb : Nat) (b : Block) : Prop where
  fn : b.fin.kind = 4 → 0 ≤ b.fin.f ∧ b.fin.f < nf
  pad : b.fin.kind = 4 → 0 ≤ b.fin.pad ∧ b.fin.pad < nb
  ins : ∀ i, i < b.ins.length → (b.ins.getD i default).op = 11 → 0 ≤ (b.ins.getD i default).f ∧ (b.ins.getD i default).f < nf
theorem all_at {α : Type} (d : α) {p : α → Bool} {l : List α} (h : l.all p = true) {i : Nat} (hi : i < l.length) : p (l.getD i d) = true := by
  rw [List.all_eq_true] at h; rw [getD_lt d hi]; exact h _ (List.getElem_mem hi)
theorem args_in {m : Module} {f : Func} {n : Int} {l : List Int} (h : argsB m f n l = true) : 0 ≤ n ∧ n < m.funcs.length := by
  unfold argsB at h
  cases h1 : inn n m.funcs.length with
  | true => exact (inn_iff _ _).1 h1
  | false => rw [h1] at h; simp at h
theorem right_funcs {m : Module} (h : rightB m = true) {n : Nat} (hn : n < m.funcs.length) : funcB m (m.funcs.getD n default) = true := by
  unfold rightB at h; rw [Bool.and_eq_true] at h
  exact all_at default h.2 hn
theorem func_blocks {m : Module} {f : Func} (h : funcB m f = true) {i : Nat} (hi : i < f.blocks.length) : blkB m f (f.blocks.getD i default) = true := by
  unfold funcB at h; rw [Bool.and_eq_true] at h
  exact all_at default h.2 hi
theorem blk_ok {m : Module} {f : Func} {b : Block} (h : blkB m f b = true) : OkB m.funcs.length f.blocks.length b := by
  unfold blkB at h; rw [Bool.and_eq_true, decide_eq_true_eq] at h
  obtain ⟨⟨_, _, he⟩, hi⟩ := h
  have k4 : b.fin.kind = 4 → argsB m f b.fin.f b.fin.args = true ∧ inn b.fin.pad f.blocks.length = true := fun k => by
    rcases he with h | h | h | h | h
    · omega
    · omega
    · omega
    · exact ⟨h.2.2.2.1, h.2.2.2.2.2.2.1⟩
    · omega
  refine ⟨fun k => args_in (k4 k).1, fun k => (inn_iff _ _).1 (k4 k).2, fun i hi' k => ?_⟩
  have := all_at default hi hi'
  rw [decide_eq_true_eq] at this
  rcases this with h | h | h | h | h | h | h
  · omega
  · omega
  · omega
  · omega
  · exact args_in h.2.2.2.2.2
  · omega
  · omega
theorem c_called1 (x : Ins) (is : List Bool) (h : x.op = 11 → 0 ≤ x.f ∧ x.f < is.length) : FC Try.prog 110 [.agg (encIns x), .ip [bools is]] (.bool (bif decide (x.op = 11) then isAt is x.f else false)) := by
  refine FC_intro tok Try.func110 rfl (by decide +kernel) (Nat.le_of_ble_eq_true rfl) ?_
  ((repeat' first | refine AWp_seq ?_ | (refine AWp_reg tok (by rfl) ?_; conv => whnf) | (refine AWp_ret ?_; conv => whnf) | (refine @And.intro (underG _ _ _ _) _ ?_ ?_; rotate_left; (conv => whnf); rotate_right)); all_goals (try ((guard_target = underG _ _ _ _); ((refine underG_some ?_; intro hgd; (conv at hgd => whnf))); (all_goals (try simp only [underG, true_and, and_true, Bool.cond_true_left, Bool.cond_false_left, Bool.cond_true_right, Bool.cond_false_right, Bool.or_eq_true, Bool.and_eq_true, Bool.or_eq_false_iff, Bool.and_eq_false_iff, cond_true, cond_false, Bool.not_eq_eq_eq_not, Bool.not_true, Bool.not_false, decide_eq_true_eq, decide_eq_false_iff_not, Int.toNat_natCast, Nat.zero_add, Decidable.not_not, maxL, inn_iff] at *)); all_goals omega)))
  exact ⟨_, rfl, Rel.imm rfl⟩
theorem c_called (b : Block) (is : List Bool) {nf nb : Nat} (h : OkB nf nb b) (hn : is.length = nf) : FC Try.prog 68 [.agg (encBlock b), bools is] (.bool (callsB b is)) := by
  refine FC_intro tok Try.func68 rfl (by decide +kernel) (Nat.le_of_ble_eq_true rfl) ?_
  (repeat' first | refine AWp_seq ?_ | (refine AWp_reg tok (by rfl) ?_; conv => whnf))
  refine .inl ⟨_, _, _, uG (QC.sc (rd := [(3, 0, 0)]) (c_HasInsM (g := 110) (cap := [.ip [bools is]]) (p := fun x => bif decide (x.op = 11) then isAt is x.f else false) rfl b.ins (fun i hi => c_called1 _ is (by subst hn; exact h.ins i hi))) (.cons (.imm rfl) (.cons (.fn (.cons (.ip rfl (List.mem_singleton.2 rfl) (by decide) (Ress.imms rfl)) .nil)) .nil)) rfl), ?_⟩
  conv => whnf
  (repeat' (refine AWp_ret ?_; conv => whnf))
  exact ⟨_, rfl, Rel.imm rfl⟩
theorem c_Out1 (f : Func) (b : Block) (is : List Bool) {nf : Nat} (h : OkB nf f.blocks.length b) (hn : is.length = nf) : FC Try.prog 67 [.agg (encFunc f), .agg (encBlock b), bools is] (.bool (outB f b is)) := by
  refine FC_intro tok Try.func67 rfl (by decide +kernel) (Nat.le_of_ble_eq_true rfl) ?_
  have h1 := h.fn
  have h2 := h.pad
  subst hn
  ((repeat' first | refine AWp_seq ?_ | (refine AWp_reg tok (by rfl) ?_; conv => whnf) | refine AWp_block ?_ | (refine AWp_skip ?_; conv => whnf) | (refine AWp_ret ?_; conv => whnf) | refine AWp_cond rfl (fun hb => ?_) (fun hb => ?_) | (refine @And.intro (underG _ _ _ _) _ ?_ ?_; rotate_left; (conv => whnf); rotate_right)); all_goals (try ((guard_target = underG _ _ _ _); (first | refine underG_none ?_ | (refine underG_some ?_; intro hgd; (conv at hgd => whnf))); (all_goals (try simp only [underG, true_and, and_true, Bool.cond_true_left, Bool.cond_false_left, Bool.cond_true_right, Bool.cond_false_right, Bool.or_eq_true, Bool.and_eq_true, Bool.or_eq_false_iff, Bool.and_eq_false_iff, cond_true, cond_false, Bool.not_eq_eq_eq_not, Bool.not_true, Bool.not_false, decide_eq_true_eq, decide_eq_false_iff_not, Int.toNat_natCast, Nat.zero_add, Decidable.not_not, maxL, inn_iff] at *)); all_goals omega)))
  all_goals (try (refine .inl ⟨_, _, _, uG (QC.fc (c_called b is h rfl) rfl), ?_⟩; conv => whnf))
  (repeat' (refine AWp_ret ?_; conv => whnf))
  all_goals (refine ⟨_, rfl, Rel.bool ?_⟩)
  all_goals (unfold outB isAt)
  all_goals first
    | (exfalso; simp only [decide_eq_true_eq, decide_eq_false_iff_not] at *; omega)
    | (rename_i k5 k6 k4; rw [k5, k6, k4]; simp only [cond_true]; rw [hb]; rfl)
    | (simp only [decide_eq_true_eq, decide_eq_false_iff_not] at *; simp [*]; done)
theorem c_spread1 {g : FuncId} {cap : List AV} {r : Bool} (f : Func) (b : Block) (is : List Bool) (hi : immDs cap = true) (hg : FC Try.prog g (.agg (encFunc f) :: .agg (encBlock b) :: bools is :: cap) (.bool r)) : FC Try.prog 109 [.agg (encBlock b), .ip [.fn g cap], .ip (encFunc f), .ip [bools is]] (.bool r) := by
  refine FC_intro tok Try.func109 rfl (by decide +kernel) (Nat.le_of_ble_eq_true rfl) ?_
  (repeat' first | refine AWp_seq ?_ | (refine AWp_reg tok (by rfl) ?_; conv => whnf) | (refine (forceL_eq _ _).mpr ?_; conv => whnf))
  refine .inl ⟨_, _, _, uG (QC.fc hg (immDs_app (xs := [.agg (encFunc f), .agg (encBlock b), bools is]) rfl hi)), ?_⟩
  conv => whnf
  (repeat' (refine AWp_ret ?_; conv => whnf))
  exact ⟨_, rfl, Rel.imm rfl⟩
def ruleOf (does : Func → Block → List Bool → Bool) (m : Module) (n : Nat) (is : List Bool) : Bool := (m.funcs.getD n default).blocks.any fun b => does (m.funcs.getD n default) b is
def spreadL (does : Func → Block → List Bool → Bool) (m : Module) : List Bool := if rightB m = true then lfp m.funcs.length (ruleOf does m) else []
theorem c_spread {g : FuncId} {cap : List AV} (does : Func → Block → List Bool → Bool) (m : Module) (hi : immDs cap = true)
    (hg : rightB m = true → ∀ n, n < m.funcs.length → ∀ i, i < (m.funcs.getD n default).blocks.length → ∀ is : List Bool, is.length = m.funcs.length →
      FC Try.prog g (.agg (encFunc (m.funcs.getD n default)) :: .agg (encBlock ((m.funcs.getD n default).blocks.getD i default)) :: bools is :: cap) (.bool (does (m.funcs.getD n default) ((m.funcs.getD n default).blocks.getD i default) is)))
    (hmono : ∀ f b, ∀ is js, leL is js → does f b is = true → does f b js = true) :
    FO Try.prog 66 [.agg (encMod m), .fn g cap] 1 (spreadL does m).length (fun i => [.bool ((spreadL does m).getD i false)]) := by
  refine FO_intro tok Try.func66 rfl (by decide +kernel) (Nat.le_of_ble_eq_true rfl) ?_
  refine AWp_facts 0 (fun hl => ?_)
  have hl0 : m.funcs.length ≤ maxL := hl.1.1
  (repeat' first | refine AWp_seq ?_ | (refine AWp_reg tok (by rfl) ?_; conv => whnf) | (refine (forceL_eq _ _).mpr ?_; conv => whnf))
  refine .inl ⟨_, _, _, uG (QC.fc (c_lRight c_lpad m) rfl), ?_⟩
  conv => whnf
  ((repeat' first | refine AWp_seq ?_ | (refine AWp_reg tok (by rfl) ?_; conv => whnf) | refine AWp_block ?_ | (refine AWp_skip ?_; conv => whnf) | (refine AWp_ret ?_; conv => whnf) | refine AWp_cond rfl (fun hb => ?_) (fun hb => ?_) | (refine @And.intro (underG _ _ _ _) _ ?_ ?_; rotate_left; (conv => whnf); rotate_right)); all_goals (try ((guard_target = underG _ _ _ _); refine underG_none ?_; (all_goals (try simp only [underG, true_and, and_true, Bool.cond_true_left, Bool.cond_false_left, Bool.cond_true_right, Bool.cond_false_right, Bool.or_eq_true, Bool.and_eq_true, Bool.or_eq_false_iff, Bool.and_eq_false_iff, cond_true, cond_false, Bool.not_eq_eq_eq_not, Bool.not_true, Bool.not_false, decide_eq_true_eq, decide_eq_false_iff_not, Int.toNat_natCast, Nat.zero_add, Decidable.not_not, maxL, inn_iff] at *)); all_goals omega)))
  · refine ⟨_, rfl, RelO.nsl' ?_⟩
    have : rightB m = false := by simpa using hb
    simp [spreadL, this]
  have hr : rightB m = true := by simpa using hb
  have hsp : spreadL does m = lfp m.funcs.length (ruleOf does m) := by simp [spreadL, hr]
  have hD : MonoD (ruleOf does m) := fun n a b h k => by
    unfold ruleOf at k ⊢
    rw [List.any_eq_true] at k ⊢
    obtain ⟨x, hx, hk⟩ := k
    exact ⟨x, hx, hmono _ _ _ _ h hk⟩
  rw [hsp]
  replace hg := hg hr
  generalize hDe : ruleOf does m = D at *
  clear hb
  refine AWp_loop (fun q : Bool × List Bool => mkS [(2, .bp (2, 0, 0) 0), (3, .bp (3, 0, 0) 0), (5, .bp (5, 0, 0) 0), (6, .bool q.1)]
      [((2, 0, 0), boxed (encMod m)), ((3, 0, 0), boxed [.fn g cap]), ((5, 0, 0), .row false 1 1 (fun _ => [.rs (15, 0, 0) 1 0 m.funcs.length])), ((15, 0, 0), .row true 1 m.funcs.length (fun i => [.bool (q.2.getD i false)]))])
    (fun q => q.2.length = m.funcs.length ∧ Beneath m.funcs.length D q.2 ∧ (q.1 = true ∨ Closed m.funcs.length D q.2)) (fun q => 2 * (m.funcs.length - cnt q.2) + (if q.1 = true then 1 else 0)) (true, List.replicate m.funcs.length false)
      ⟨by simp, fun c _ i e => by exfalso; simp only [List.getD_eq_getElem?_getD, List.getElem?_replicate] at e; split at e <;> simp at e, .inl rfl⟩ ?_ ?_
  · refine Weak.list [((2, 0, 0), .old (2, 0, 0), boxed (encMod m)), ((3, 0, 0), .old (3, 0, 0), boxed [.fn g cap]), ((5, 0, 0), .old (5, 0, 0), .row false 1 1 (fun _ => [.rs (15, 0, 0) 1 0 m.funcs.length])), ((15, 0, 0), .old (15, 0, 0), .row true 1 m.funcs.length (fun i => [.bool ((List.replicate m.funcs.length false).getD i false)]))] rfl (by rfl) ?_ (.old rfl (BLe.refl _) (.old rfl (BLe.boxI (by simp [immDs, immD, hi])) (.old rfl (BLe.rowO rfl) (.old rfl (BLe.rowW (Nat.le_refl _) (fun z hz => ?_)) .nil))))
    · ((repeat' first | exact TLes.nil | refine TLes.cons (TLe.eq rfl) ?_); skip)
    · exact Wks.of (by simp [List.getD_eq_getElem?_getD, List.getElem?_replicate]; split <;> rfl)
  rintro ⟨more, is⟩ ⟨hlen, hbe, hmc⟩
  simp only at hlen hbe hmc ⊢
  (repeat' ((fail_if_success (show AWp _ _ _ (Code.region 8 _ _) _ _)); first | refine AWp_seq ?_ | (refine AWp_reg tok (by rfl) ?_; conv => whnf) | refine AWp_block ?_ | (refine AWp_skip ?_; conv => whnf) | (refine AWp_exit ?_; conv => whnf) | (refine AWp_ret ?_; conv => whnf) | refine AWp_cond rfl (fun hb => ?_) (fun hb => ?_)))
  · have hm : more = true := hb
    subst hm
    refine AWp_loop (fun q : Nat × Bool × List Bool => mkS [(2, .bp (2, 0, 0) 0), (3, .bp (3, 0, 0) 0), (5, .bp (5, 0, 0) 0), (6, .bool q.2.1), (18, funcss m.funcs), (19, iv m.funcs.length), (20, iv q.1)]
        [((2, 0, 0), boxed (encMod m)), ((3, 0, 0), boxed [.fn g cap]), ((5, 0, 0), .row false 1 1 (fun _ => [.rs (15, 0, 0) 1 0 m.funcs.length])), ((15, 0, 0), .row true 1 m.funcs.length (fun i => [.bool (q.2.2.getD i false)]))])
      (fun q => q.1 ≤ m.funcs.length ∧ q.2.2.length = m.funcs.length ∧ Beneath m.funcs.length D q.2.2 ∧ ((q.2.1 = true ∧ cnt is < cnt q.2.2) ∨ (q.2.1 = false ∧ q.2.2 = is ∧ ∀ j, j < q.1 → D j is = true → is.getD j false = true)))
      (fun q => m.funcs.length - q.1) (0, false, is) ⟨Nat.zero_le _, hlen, hbe, .inr ⟨rfl, rfl, fun j hj => absurd hj (Nat.not_lt_zero j)⟩⟩ ?_ ?_
    · refine Weak.list [((2, 0, 0), .old (2, 0, 0), boxed (encMod m)), ((3, 0, 0), .old (3, 0, 0), boxed [.fn g cap]), ((5, 0, 0), .old (5, 0, 0), .row false 1 1 (fun _ => [.rs (15, 0, 0) 1 0 m.funcs.length])), ((15, 0, 0), .old (15, 0, 0), .row true 1 m.funcs.length (fun i => [.bool (is.getD i false)]))] rfl (by rfl) ?_ (.old rfl (BLe.refl _) (.old rfl (BLe.boxI (by simp [immDs, immD, hi])) (.old rfl (BLe.refl _) (.old rfl (BLe.refl _) .nil))))
      ((repeat' first | exact TLes.nil | refine TLes.cons (TLe.eq rfl) ?_); skip)
    rintro ⟨n, mo, js⟩ ⟨hn, hl2, hb2, hcase⟩
    simp only at hn hl2 hb2 hcase ⊢
    ((repeat' ((fail_if_success (show AWp _ _ _ (Code.region 11 _ _) _ _)); first | refine AWp_seq ?_ | (refine AWp_reg tok (by rfl) ?_; conv => whnf) | refine AWp_block ?_ | (refine AWp_skip ?_; conv => whnf) | (refine AWp_exit ?_; conv => whnf) | refine AWp_cond rfl (fun hb => ?_) (fun hb => ?_) | (refine @And.intro (underG _ _ _ _) _ ?_ ?_; rotate_left; (conv => whnf); rotate_right))); all_goals (try ((guard_target = underG _ _ _ _); refine underG_none ?_; (all_goals (try simp only [underG, true_and, and_true, Bool.cond_true_left, Bool.cond_false_left, Bool.cond_true_right, Bool.cond_false_right, Bool.or_eq_true, Bool.and_eq_true, Bool.or_eq_false_iff, Bool.and_eq_false_iff, cond_true, cond_false, Bool.not_eq_eq_eq_not, Bool.not_true, Bool.not_false, decide_eq_true_eq, decide_eq_false_iff_not, Int.toNat_natCast, Nat.zero_add, Decidable.not_not, maxL, inn_iff] at *)); all_goals omega)))
    · have hlt : n < m.funcs.length := by simp only [decide_eq_true_eq] at hb; omega
      have hnn : (n : Int).toNat = n := Int.toNat_natCast n
      have hrule : ruleOf does m n js = D n js := by rw [← hDe]
      refine .inl ⟨_, _, _, uG (QC.sc (rd := [(3, 0, 0), (8, 0, 0), (5, 0, 0), (15, 0, 0)]) (r := .bool (ruleOf does m n js)) (c_HasBlockM (g := 109) (cap := [.ip [.fn g cap], .ip (encFunc (m.funcs.getD n default)), .ip [bools js]]) (p := fun b => does (m.funcs.getD n default) b js) rfl (m.funcs.getD n default).blocks (fun i hi2 => c_spread1 _ _ js hi (hg n hlt i hi2 js hl2))) ?_ rfl), ?_⟩
      · refine .cons (.imm rfl) (.cons (.fn (.cons (.ip rfl (memI_iff.1 rfl) Nat.zero_lt_one (Ress.imms (by simp [immDs, immD, hi]))) (.cons (.ip rfl (memI_iff.1 rfl) Nat.zero_lt_one (Ress.imms rfl)) (.cons (.ip rfl (memI_iff.1 rfl) Nat.zero_lt_one (.cons (.row rfl (memI_iff.1 rfl) rfl hl2.symm (fun _ _ => rfl)) .nil)) .nil)))) .nil)
      conv => whnf
      rw [hrule]
      ((repeat' first | (refine AWp_reg tok (by rfl) ?_; conv => whnf) | (refine AWp_skip ?_; conv => whnf) | refine AWp_cond rfl (fun hb => ?_) (fun hb => ?_) | (refine @And.intro (underG _ _ _ _) _ ?_ ?_; rotate_left; (conv => whnf); rotate_right)); all_goals (try ((guard_target = underG _ _ _ _); refine underG_none ?_; (all_goals (try simp only [underG, true_and, and_true, Bool.cond_true_left, Bool.cond_false_left, Bool.cond_true_right, Bool.cond_false_right, Bool.or_eq_true, Bool.and_eq_true, Bool.or_eq_false_iff, Bool.and_eq_false_iff, cond_true, cond_false, Bool.not_eq_eq_eq_not, Bool.not_true, Bool.not_false, decide_eq_true_eq, decide_eq_false_iff_not, Int.toNat_natCast, Nat.zero_add, Decidable.not_not, maxL, inn_iff] at *)); all_goals omega)))
      · have hz : js.getD n false = false ∧ D n js = true := by
          rw [hnn, Nat.zero_add] at hb
          cases h1 : js.getD n false <;> cases h2 : D n js <;> rw [h1, h2] at hb <;> simp at hb ⊢
        refine ⟨(n + 1, true, js.set n true), ⟨by simp; omega, by simp [hl2], fun c hc i e => ?_, .inl ⟨rfl, ?_⟩⟩, by simp; omega, ?_⟩
        · simp only at e
          rw [set_get (by omega), Bool.or_eq_true] at e
          rcases e with e | e
          · have : n = i := by simpa using e
            subst this
            exact hc.cl n hlt (hD n js c (hb2 c hc) hz.2)
          · exact hb2 c hc i e
        · have := cnt_set (a := js) (n := n) (by omega) hz.1
          rcases hcase with h | h
          · simp only; omega
          · rw [h.2.1] at this; simp only; rw [h.2.1]; exact this
        refine Weak.list [((2, 0, 0), .old (2, 0, 0), boxed (encMod m)), ((3, 0, 0), .old (3, 0, 0), boxed [.fn g cap]), ((5, 0, 0), .old (5, 0, 0), .row false 1 1 (fun _ => [.rs (15, 0, 0) 1 0 m.funcs.length])), ((15, 0, 0), .old (15, 0, 0), .row true 1 m.funcs.length (fun i => [.bool ((js.set n true).getD i false)]))] rfl (by rfl) ?_ (.old rfl (BLe.refl _) (.old rfl (BLe.boxI (by simp [immDs, immD, hi])) (.old rfl (BLe.refl _) (.old rfl (BLe.rowW (Nat.le_refl _) (fun z hz2 => Wks.of ?_)) .nil))))
        · ((repeat' first | exact TLes.nil | refine TLes.cons (TLe.eq rfl) ?_ | refine TLes.cons (TLe.int ?_) ?_); (all_goals first | ((try (simp only [underG, true_and, and_true, Bool.cond_true_left, Bool.cond_false_left, Bool.cond_true_right, Bool.cond_false_right, Bool.or_eq_true, Bool.and_eq_true, Bool.or_eq_false_iff, Bool.and_eq_false_iff, cond_true, cond_false, Bool.not_eq_eq_eq_not, Bool.not_true, Bool.not_false, decide_eq_true_eq, decide_eq_false_iff_not, Int.toNat_natCast, Nat.zero_add, Decidable.not_not, maxL, inn_iff] at *)); exact wrap64 (by omega) (by omega)) | skip))
        · exact upd_row' (fun b => [AV.bool b]) false js (by omega) (by simp) rfl z
      · refine ⟨(n + 1, mo, js), ⟨by simp; omega, hl2, hb2, ?_⟩, by simp; omega, ?_⟩
        · rcases hcase with h | ⟨h1, h2, h3⟩
          · exact .inl h
          · refine .inr ⟨h1, h2, fun j hj hd => ?_⟩
            by_cases e : j = n
            · subst e
              rw [hnn, Nat.zero_add, h2, hd] at hb
              cases h4 : is.getD j false with
              | true => rfl
              | false => rw [h4] at hb; simp at hb
            · exact h3 j (by simp at hj; omega) hd
        refine Weak.list [((2, 0, 0), .old (2, 0, 0), boxed (encMod m)), ((3, 0, 0), .old (3, 0, 0), boxed [.fn g cap]), ((5, 0, 0), .old (5, 0, 0), .row false 1 1 (fun _ => [.rs (15, 0, 0) 1 0 m.funcs.length])), ((15, 0, 0), .old (15, 0, 0), .row true 1 m.funcs.length (fun i => [.bool (js.getD i false)]))] rfl (by rfl) ?_ (.old rfl (BLe.refl _) (.old rfl (BLe.boxI (by simp [immDs, immD, hi])) (.old rfl (BLe.refl _) (.old rfl (BLe.refl _) .nil))))
        ((repeat' first | exact TLes.nil | refine TLes.cons (TLe.eq rfl) ?_ | refine TLes.cons (TLe.int ?_) ?_); (all_goals first | ((try (simp only [underG, true_and, and_true, Bool.cond_true_left, Bool.cond_false_left, Bool.cond_true_right, Bool.cond_false_right, Bool.or_eq_true, Bool.and_eq_true, Bool.or_eq_false_iff, Bool.and_eq_false_iff, cond_true, cond_false, Bool.not_eq_eq_eq_not, Bool.not_true, Bool.not_false, decide_eq_true_eq, decide_eq_false_iff_not, Int.toNat_natCast, Nat.zero_add, Decidable.not_not, maxL, inn_iff] at *)); exact wrap64 (by omega) (by omega)) | skip))
    · have hn2 : n = m.funcs.length := by simp only [decide_eq_false_iff_not] at hb; omega
      refine ⟨(mo, js), ⟨hl2, hb2, ?_⟩, ?_, ?_⟩
      · rcases hcase with h | ⟨h1, h2, h3⟩
        · exact .inl h.1
        · exact .inr ⟨hl2, fun j hj hd => by simp only at hd ⊢; rw [h2] at hd ⊢; exact h3 j (by omega) hd⟩
      · have hle := cnt_le (a := js)
        rcases hcase with ⟨h1, h2⟩ | ⟨h1, h2, h3⟩
        · simp only [h1, if_true]; omega
        · simp only [h1, h2]; simp
      refine Weak.list [((2, 0, 0), .old (2, 0, 0), boxed (encMod m)), ((3, 0, 0), .old (3, 0, 0), boxed [.fn g cap]), ((5, 0, 0), .old (5, 0, 0), .row false 1 1 (fun _ => [.rs (15, 0, 0) 1 0 m.funcs.length])), ((15, 0, 0), .old (15, 0, 0), .row true 1 m.funcs.length (fun i => [.bool (js.getD i false)]))] rfl (by rfl) ?_ (.old rfl (BLe.refl _) (.old rfl (BLe.boxI (by simp [immDs, immD, hi])) (.old rfl (BLe.refl _) (.old rfl (BLe.refl _) .nil))))
      ((repeat' first | exact TLes.nil | refine TLes.cons (TLe.eq rfl) ?_); skip)
  · have hm : more = false := by simpa using hb
    have hcl : Closed m.funcs.length D is := by rcases hmc with h | h; (rw [hm] at h; cases h); exact h
    have he := lfp_uniq hD hcl hbe
    skip
    refine ⟨_, rfl, .rs rfl (Nat.le_refl _) ?_ (fun _ _ => ?_)⟩
    · rw [← he, hlen]
    · rw [← he]
end Go.Proofs.Ytmanpbgaihdalaa
namespace Go.Proofs.Ytmanpbgaihdalaa
open Go Dv
set_option maxRecDepth 10000
set_option linter.unusedSimpArgs false
theorem isAt_mono {is js : List Bool} (h : leL is js) {n : Int} (k : isAt is n = true) : isAt js n = true := h _ k
theorem callsB_mono {b : Block} {is js : List Bool} (h : leL is js) (k : callsB b is = true) : callsB b js = true := by
  unfold callsB at k ⊢
  rw [List.any_eq_true] at k ⊢
  obtain ⟨x, hx, hk⟩ := k
  refine ⟨x, hx, ?_⟩
  cases e : decide (x.op = 11) with
  | false => rw [e] at hk; exact hk
  | true => rw [e] at hk; exact isAt_mono h hk
theorem outB_mono (f : Func) (b : Block) (is js : List Bool) (h : leL is js) (k : outB f b is = true) : outB f b js = true := by
  unfold outB at k ⊢
  simp only [Bool.or_eq_true] at k ⊢
  rcases k with k | k | k | k
  · exact .inl k
  · exact .inr (.inl k)
  · refine .inr (.inr (.inl ?_))
    cases e : decide (b.fin.kind = 4) with
    | false => rw [e] at k; exact k
    | true =>
      rw [e] at k
      simp only [cond_true] at k ⊢
      cases e2 : isAt is b.fin.f with
      | false => rw [e2] at k; cases k
      | true => rw [e2] at k; rw [isAt_mono h e2]; exact k
  · exact .inr (.inr (.inr (callsB_mono h k)))
theorem doB_mono (ops : List Int) (f : Func) (b : Block) (is js : List Bool) (h : leL is js) (k : doB ops f b is = true) : doB ops f b js = true := by
  unfold doB at k ⊢
  simp only [Bool.or_eq_true] at k ⊢
  rcases k with k | k | k
  · left
    cases e : decide (b.fin.kind = 4) with
    | false => rw [e] at k; exact k
    | true => rw [e] at k; exact isAt_mono h k
  · exact .inr (.inl (callsB_mono h k))
  · exact .inr (.inr k)
def outL (m : Module) : List Bool := spreadL outB m
def doL (ops : List Int) (m : Module) : List Bool := spreadL (doB ops) m
abbrev FOb (f : FuncId) (args : List AV) (l : List Bool) : Prop := FO Try.prog f args 1 l.length (fun i => [.bool (l.getD i false)])
theorem okB_of {m : Module} (h : rightB m = true) {n i : Nat} (hn : n < m.funcs.length) (hi : i < (m.funcs.getD n default).blocks.length) : OkB m.funcs.length (m.funcs.getD n default).blocks.length ((m.funcs.getD n default).blocks.getD i default) := blk_ok (func_blocks (right_funcs h hn) hi)
theorem c_tOut (m : Module) : FOb 17 [.agg (encMod m)] (outL m) := by
  refine FO_intro tok Try.func17 rfl (by decide +kernel) (Nat.le_of_ble_eq_true rfl) ?_
  (repeat' first | refine AWp_seq ?_ | (refine AWp_reg tok (by rfl) ?_; conv => whnf))
  refine .inl ⟨_, _, _, uG (QC.fo (rd := []) (c_spread (g := 67) (cap := []) outB m rfl (fun h n hn i hi is hl => c_Out1 _ _ is (okB_of h hn hi) hl) outB_mono) (Ress.imms rfl) (.inl rfl) rfl), ?_⟩
  conv => whnf
  (repeat' (refine AWp_ret ?_; conv => whnf))
  exact ⟨_, rfl, .rs rfl (Nat.le_refl _) rfl (fun _ _ => rfl)⟩
theorem c_Index (l : List Int) (n : Int) : FC Try.prog 138 [ints l, iv n] (iv (idxG (fun y => decide (n = y)) l)) := by
  refine FC_intro tok Try.func138 rfl (by decide +kernel) (Nat.le_of_ble_eq_true rfl) ?_
  refine AWp_facts 0 (fun hl => ?_)
  have hl0 : l.length ≤ maxL := hl.1
  (repeat' first | refine AWp_seq ?_ | (refine AWp_reg tok (by rfl) ?_; conv => whnf) | refine AWp_block ?_)
  refine AWp_loop (fun i : Nat => mkS [(0, ints l), (1, iv n), (7, iv l.length), (8, iv i)] [])
    (fun i => i ≤ l.length ∧ ∀ j, j < i → decide (n = l.getD j 0) = false) (fun i => l.length - i) 0 ⟨Nat.zero_le _, by simp⟩ ?_ ?_
  · refine Weak.list [] rfl (by rfl) ?_ .nil
    ((repeat' first | exact TLes.nil | refine TLes.cons (TLe.eq rfl) ?_); skip)
  rintro i ⟨hi2, hc⟩
  ((repeat' first | refine AWp_seq ?_ | (refine AWp_reg tok (by rfl) ?_; conv => whnf) | refine AWp_block ?_ | (refine AWp_skip ?_; conv => whnf) | (refine AWp_exit ?_; conv => whnf) | (refine AWp_ret ?_; conv => whnf) | refine AWp_cond rfl (fun hb => ?_) (fun hb => ?_) | (refine @And.intro (underG _ _ _ _) _ ?_ ?_; rotate_left; (conv => whnf); rotate_right)); all_goals (try ((guard_target = underG _ _ _ _); refine underG_none ?_; (all_goals (try simp only [underG, true_and, and_true, Bool.cond_true_left, Bool.cond_false_left, Bool.cond_true_right, Bool.cond_false_right, Bool.or_eq_true, Bool.and_eq_true, Bool.or_eq_false_iff, Bool.and_eq_false_iff, cond_true, cond_false, Bool.not_eq_eq_eq_not, Bool.not_true, Bool.not_false, decide_eq_true_eq, decide_eq_false_iff_not, Int.toNat_natCast, Nat.zero_add, Decidable.not_not, maxL, inn_iff] at *)); all_goals omega)))
  · have hlt : i < l.length := by rename_i h; simp only [underG, true_and, and_true, Bool.cond_true_left, Bool.cond_false_left, Bool.cond_true_right, Bool.cond_false_right, Bool.or_eq_true, Bool.and_eq_true, Bool.or_eq_false_iff, Bool.and_eq_false_iff, cond_true, cond_false, Bool.not_eq_eq_eq_not, Bool.not_true, Bool.not_false, decide_eq_true_eq, decide_eq_false_iff_not, Int.toNat_natCast, Nat.zero_add, Decidable.not_not, maxL, inn_iff] at *; omega
    refine ⟨_, rfl, Rel.int ?_⟩
    exact (idxG_at 0 hlt hc (by simpa using hb)).symm
  · have hlt : i < l.length := by rename_i h; simp only [underG, true_and, and_true, Bool.cond_true_left, Bool.cond_false_left, Bool.cond_true_right, Bool.cond_false_right, Bool.or_eq_true, Bool.and_eq_true, Bool.or_eq_false_iff, Bool.and_eq_false_iff, cond_true, cond_false, Bool.not_eq_eq_eq_not, Bool.not_true, Bool.not_false, decide_eq_true_eq, decide_eq_false_iff_not, Int.toNat_natCast, Nat.zero_add, Decidable.not_not, maxL, inn_iff] at *; omega
    refine ⟨i + 1, ⟨hlt, fun j hj => ?_⟩, by omega, ?_⟩
    · by_cases e : j = i
      · subst e; simpa using hb
      · exact hc j (by omega)
    refine Weak.list [] rfl (by rfl) ?_ .nil
    ((repeat' first | exact TLes.nil | refine TLes.cons (TLe.eq rfl) ?_ | refine TLes.cons (TLe.int ?_) ?_); (all_goals first | ((try (simp only [underG, true_and, and_true, Bool.cond_true_left, Bool.cond_false_left, Bool.cond_true_right, Bool.cond_false_right, Bool.or_eq_true, Bool.and_eq_true, Bool.or_eq_false_iff, Bool.and_eq_false_iff, cond_true, cond_false, Bool.not_eq_eq_eq_not, Bool.not_true, Bool.not_false, decide_eq_true_eq, decide_eq_false_iff_not, Int.toNat_natCast, Nat.zero_add, Decidable.not_not, maxL, inn_iff] at *)); exact wrap64 (by omega) (by omega)) | skip))
  · refine ⟨_, rfl, Rel.int ?_⟩
    exact (idxG_none 0 (fun j hj => hc j (by simp only [underG, true_and, and_true, Bool.cond_true_left, Bool.cond_false_left, Bool.cond_true_right, Bool.cond_false_right, Bool.or_eq_true, Bool.and_eq_true, Bool.or_eq_false_iff, Bool.and_eq_false_iff, cond_true, cond_false, Bool.not_eq_eq_eq_not, Bool.not_true, Bool.not_false, decide_eq_true_eq, decide_eq_false_iff_not, Int.toNat_natCast, Nat.zero_add, Decidable.not_not, maxL, inn_iff] at *; omega))).symm
theorem c_Contains (l : List Int) (n : Int) : FC Try.prog 113 [ints l, iv n] (.bool (hasB l n)) := by
  refine FC_intro tok Try.func113 rfl (by decide +kernel) (Nat.le_of_ble_eq_true rfl) ?_
  (repeat' first | refine AWp_seq ?_ | (refine AWp_reg tok (by rfl) ?_; conv => whnf))
  refine .inl ⟨_, _, _, uG (QC.fc (c_Index l n) rfl), ?_⟩
  conv => whnf
  (repeat' (refine AWp_ret ?_; conv => whnf))
  refine ⟨_, rfl, Rel.bool ?_⟩
  unfold hasB; rw [← idxG_any]
theorem c_do11 (ops : List Int) (x : Ins) : FC Try.prog 112 [.agg (encIns x), .ip [ints ops]] (.bool (hasB ops x.op)) := by
  refine FC_intro tok Try.func112 rfl (by decide +kernel) (Nat.le_of_ble_eq_true rfl) ?_
  (repeat' first | refine AWp_seq ?_ | (refine AWp_reg tok (by rfl) ?_; conv => whnf))
  refine .inl ⟨_, _, _, uG (QC.fc (c_Contains ops x.op) rfl), ?_⟩
  conv => whnf
  (repeat' (refine AWp_ret ?_; conv => whnf))
  exact ⟨_, rfl, Rel.imm rfl⟩
theorem c_do1 (ops : List Int) (f : Func) (b : Block) (is : List Bool) {nf : Nat} (h : OkB nf f.blocks.length b) (hn : is.length = nf) : FC Try.prog 111 [.agg (encFunc f), .agg (encBlock b), bools is, .ip [ints ops]] (.bool (doB ops f b is)) := by
  refine FC_intro tok Try.func111 rfl (by decide +kernel) (Nat.le_of_ble_eq_true rfl) ?_
  have h1 := h.fn
  subst hn
  ((repeat' first | refine AWp_seq ?_ | (refine AWp_reg tok (by rfl) ?_; conv => whnf) | (refine @And.intro (underG _ _ _ _) _ ?_ ?_; rotate_left; (conv => whnf); rotate_right)); all_goals (try ((guard_target = underG _ _ _ _); ((refine underG_some ?_; intro hgd; (conv at hgd => whnf))); (all_goals (try simp only [underG, true_and, and_true, Bool.cond_true_left, Bool.cond_false_left, Bool.cond_true_right, Bool.cond_false_right, Bool.or_eq_true, Bool.and_eq_true, Bool.or_eq_false_iff, Bool.and_eq_false_iff, cond_true, cond_false, Bool.not_eq_eq_eq_not, Bool.not_true, Bool.not_false, decide_eq_true_eq, decide_eq_false_iff_not, Int.toNat_natCast, Nat.zero_add, Decidable.not_not, maxL, inn_iff] at *)); all_goals omega)))
  refine .inl ⟨_, _, _, uG (QC.fc (c_called b is h rfl) rfl), ?_⟩; conv => whnf
  (repeat' first | refine AWp_seq ?_ | (refine AWp_reg tok (by rfl) ?_; conv => whnf) | (refine AWp_skip ?_; conv => whnf) | (refine AWp_ret ?_; conv => whnf) | refine AWp_cond rfl (fun hb => ?_) (fun hb => ?_))
  · refine ⟨_, rfl, Rel.bool ?_⟩
    unfold doB isAt
    cases e : (bif decide (b.fin.kind = 4) then is.getD b.fin.f.toNat false else false)
    · rw [e] at hb; simp only [cond_false] at hb; rw [hb]; rfl
    · rfl
  · refine .inl ⟨_, _, _, uG (QC.fc (c_HasIns (g := 112) (cap := [.ip [ints ops]]) rfl (fun x => c_do11 ops x) b.ins) rfl), ?_⟩
    conv => whnf
    (repeat' (refine AWp_ret ?_; conv => whnf))
    refine ⟨_, rfl, Rel.bool ?_⟩
    unfold doB isAt
    cases e : (bif decide (b.fin.kind = 4) then is.getD b.fin.f.toNat false else false)
    · rw [e] at hb; simp only [cond_false] at hb; rw [hb]; rfl
    · rw [e] at hb; cases hb
theorem c_doing (m : Module) (ops : List Int) : FOb 69 [.agg (encMod m), ints ops] (doL ops m) := by
  refine FO_intro tok Try.func69 rfl (by decide +kernel) (Nat.le_of_ble_eq_true rfl) ?_
  (repeat' first | refine AWp_seq ?_ | (refine AWp_reg tok (by rfl) ?_; conv => whnf))
  refine .inl ⟨_, _, _, uG (QC.fo (rd := [(3, 0, 0)]) (c_spread (g := 111) (cap := [.ip [ints ops]]) (doB ops) m rfl (fun h n hn i hi is hl => c_do1 ops _ _ is (okB_of h hn hi) hl) (doB_mono ops)) (.cons (.imm rfl) (.cons (.fn (.cons (.ip rfl (memI_iff.1 rfl) Nat.zero_lt_one (Ress.imms rfl)) .nil)) .nil)) (.inr (fun _ _ => rfl)) rfl), ?_⟩
  conv => whnf
  (repeat' (refine AWp_ret ?_; conv => whnf))
  exact ⟨_, rfl, .rs rfl (Nat.le_refl _) rfl (fun _ _ => rfl)⟩
theorem c_Tells (m : Module) : FOb 18 [.agg (encMod m)] (doL [12, 13] m) := by
  refine FO_intro tok Try.func18 rfl (by decide +kernel) (Nat.le_of_ble_eq_true rfl) ?_
  (repeat' first | refine AWp_seq ?_ | (refine AWp_reg tok (by rfl) ?_; conv => whnf))
  refine .inl ⟨_, _, _, uG (QC.fo (rd := [(4, 0, 0)]) (c_doing m [12, 13]) (.cons (.imm rfl) (.cons (.row rfl (memI_iff.1 rfl) rfl rfl (fun i hi => ?_)) .nil)) (.inr (fun _ _ => rfl)) rfl), ?_⟩
  · match i, hi with
    | 0, _ => rfl
    | 1, _ => rfl
  conv => whnf
  (repeat' (refine AWp_ret ?_; conv => whnf))
  exact ⟨_, rfl, .rs rfl (Nat.le_refl _) rfl (fun _ _ => rfl)⟩
theorem c_Writes (m : Module) : FOb 19 [.agg (encMod m)] (doL [10] m) := by
  refine FO_intro tok Try.func19 rfl (by decide +kernel) (Nat.le_of_ble_eq_true rfl) ?_
  (repeat' first | refine AWp_seq ?_ | (refine AWp_reg tok (by rfl) ?_; conv => whnf))
  refine .inl ⟨_, _, _, uG (QC.fo (rd := [(4, 0, 0)]) (c_doing m [10]) (.cons (.imm rfl) (.cons (.row rfl (memI_iff.1 rfl) rfl rfl (fun i hi => ?_)) .nil)) (.inr (fun _ _ => rfl)) rfl), ?_⟩
  · match i, hi with
    | 0, _ => rfl
  conv => whnf
  (repeat' (refine AWp_ret ?_; conv => whnf))
  exact ⟨_, rfl, .rs rfl (Nat.le_refl _) rfl (fun _ _ => rfl)⟩
end Go.Proofs.Ytmanpbgaihdalaa
namespace Go.Proofs.Ytmanpbgaihdalaa
open Go Dv
set_option maxRecDepth 10000
set_option linter.unusedSimpArgs false
/-! What the reference's rounds keep. -/
structure Iv2 (len : Nat) (D : Nat → List Bool → Bool) (is : List Bool) (n : Nat) (js : List Bool) : Prop where
  sz : js.length = len
  be : Beneath len D js
  le : leL is js
  don : ∀ j, j < n → D j is = true → js.getD j false = true
theorem Iv2.set {len : Nat} {D : Nat → List Bool → Bool} {is js : List Bool} {n m : Nat} (h : Iv2 len D is n js) (hD : MonoD D) (hm : m < len) (hd : D m js = true) : Iv2 len D is n (js.set m true) := by
  have hs := h.sz
  refine ⟨by simp [hs], fun c hc i e => ?_, h.le.trans (leL_set _ _), fun j hj hd => leL_set _ _ j (h.don j hj hd)⟩
  rw [set_get (by omega), Bool.or_eq_true] at e
  rcases e with e | e
  · have : m = i := by simpa using e
    subst this
    exact hc.cl m hm (hD m js c (h.be c hc) hd)
  · exact h.be c hc i e
/-- From one round to the next. -/
structure Iv0 (len : Nat) (D : Nat → List Bool → Bool) (r : Nat) (is : List Bool) : Prop where
  sz : is.length = len
  be : Beneath len D is
  pr : Closed len D is ∨ r ≤ cnt is
theorem Iv0.next {len : Nat} {D : Nat → List Bool → Bool} {is js : List Bool} {r : Nat} (h0 : Iv0 len D r is) (h : Iv2 len D is len js) : Iv0 len D (r + 1) js := by
  refine ⟨h.sz, h.be, ?_⟩
  obtain ⟨h1, h2⟩ := cnt_mono (by rw [h0.sz, h.sz]) h.le
  by_cases hc : cnt js ≤ cnt is
  · have e := h2 hc
    left
    refine ⟨h.sz, fun n hn hd => ?_⟩
    exact h.don n hn (by rw [e]; exact hd)
  · rcases h0.pr with hcl | hcl
    · exfalso
      have e1 := h.be is hcl
      have := (cnt_mono (by rw [h0.sz, h.sz]) e1).1
      omega
    · right; omega
theorem Iv0.done {len : Nat} {D : Nat → List Bool → Bool} (hD : MonoD D) {is : List Bool} (h0 : Iv0 len D (len + 1) is) : is = lfp len D := by
  refine lfp_uniq hD ?_ h0.be
  rcases h0.pr with h | h
  · exact h
  · have := cnt_le (a := is); rw [h0.sz] at this; omega
theorem ruleOf_mono {does : Func → Block → List Bool → Bool} {m : Module} (hmono : ∀ f b, ∀ is js, leL is js → does f b is = true → does f b js = true) : MonoD (ruleOf does m) := fun n a b h k => by
  unfold ruleOf at k ⊢
  rw [List.any_eq_true] at k ⊢
  obtain ⟨x, hx, hk⟩ := k
  exact ⟨x, hx, hmono _ _ _ _ h hk⟩
theorem ruleOf_at {does : Func → Block → List Bool → Bool} {m : Module} {n i : Nat} {is : List Bool} (hi : i < (m.funcs.getD n default).blocks.length) (h : does (m.funcs.getD n default) ((m.funcs.getD n default).blocks.getD i default) is = true) : ruleOf does m n is = true := by
  unfold ruleOf
  rw [List.any_eq_true]
  exact ⟨_, by rw [getD_lt default hi]; exact List.getElem_mem hi, h⟩
theorem rep_beneath (len : Nat) (D : Nat → List Bool → Bool) : Beneath len D (List.replicate len false) := fun c _ i e => by
  exfalso; simp only [List.getD_eq_getElem?_getD, List.getElem?_replicate] at e; split at e <;> simp at e
def endO (f : Func) (b : Block) (is : List Bool) : Bool := bif bif decide (b.fin.kind = 5) then true else decide (b.fin.kind = 6) then true else bif bif decide (b.fin.kind = 4) then isAt is b.fin.f else false then !(f.blocks.getD b.fin.pad.toNat default).pad.all else false
def insO (x : Ins) (is : List Bool) : Bool := bif decide (x.op = 11) then isAt is x.f else false
theorem outB_of (f : Func) (b : Block) (is : List Bool) : outB f b is = (endO f b is || b.ins.any fun x => insO x is) := by
  unfold outB endO callsB insO
  cases decide (b.fin.kind = 5) <;> cases decide (b.fin.kind = 6) <;> cases decide (b.fin.kind = 4) <;> cases isAt is b.fin.f <;> simp
theorem insO_mono (x : Ins) (is js : List Bool) (h : leL is js) (k : insO x is = true) : insO x js = true := by
  unfold insO at *
  cases e : decide (x.op = 11) with
  | false => rw [e] at k; exact k
  | true => rw [e] at k; exact isAt_mono h k
theorem endO_mono (f : Func) (b : Block) (is js : List Bool) (h : leL is js) (k : endO f b is = true) : endO f b js = true := by
  unfold endO at *
  cases e1 : (bif decide (b.fin.kind = 5) then true else decide (b.fin.kind = 6)) with
  | true => rfl
  | false =>
    rw [e1] at k
    simp only [cond_false] at k ⊢
    cases e2 : decide (b.fin.kind = 4) with
    | false => rw [e2] at k; exact k
    | true =>
      rw [e2] at k
      simp only [cond_true] at k ⊢
      cases e3 : isAt is b.fin.f with
      | false => rw [e3] at k; cases k
      | true => rw [e3] at k; rw [isAt_mono h e3]; exact k
theorem c_rOut (m : Module) (hr : rightB m = true) : FOb 22 [.agg (encMod m)] (outL m) := by
  refine FO_intro tok Try.func22 rfl (by decide +kernel) (Nat.le_of_ble_eq_true rfl) ?_
  refine AWp_facts 0 (fun hl => ?_)
  have hl0 : m.funcs.length ≤ maxL := hl.1.1
  have hD : MonoD (ruleOf (outB) m) := ruleOf_mono (outB_mono)
  have hsp : outL m = lfp m.funcs.length (ruleOf (outB) m) := by simp [outL, spreadL, hr]
  rw [hsp]
  ((repeat' first | refine AWp_seq ?_ | (refine AWp_reg tok (by rfl) ?_; conv => whnf) | refine AWp_block ?_ | (refine @And.intro (underG _ _ _ _) _ ?_ ?_; rotate_left; (conv => whnf); rotate_right)); all_goals (try ((guard_target = underG _ _ _ _); refine underG_none ?_; (all_goals (try simp only [underG, true_and, and_true, Bool.cond_true_left, Bool.cond_false_left, Bool.cond_true_right, Bool.cond_false_right, Bool.or_eq_true, Bool.and_eq_true, Bool.or_eq_false_iff, Bool.and_eq_false_iff, cond_true, cond_false, Bool.not_eq_eq_eq_not, Bool.not_true, Bool.not_false, decide_eq_true_eq, decide_eq_false_iff_not, Int.toNat_natCast, Nat.zero_add, Decidable.not_not, maxL, inn_iff] at *)); all_goals omega)))
  refine AWp_loop (fun q : Nat × List Bool => mkS [(1, .bp (1, 0, 0) 0), (3, .rs (13, 0, 0) 1 0 m.funcs.length), (4, iv q.1)] [((1, 0, 0), boxed (encMod m)), ((13, 0, 0), .row true 1 m.funcs.length (fun i => [.bool (q.2.getD i false)]))])
    (fun q => q.1 ≤ m.funcs.length + 1 ∧ Iv0 m.funcs.length (ruleOf (outB) m) q.1 q.2) (fun q => m.funcs.length + 1 - q.1) (0, List.replicate m.funcs.length false)
      ⟨by simp, by simp, rep_beneath _ _, .inr (Nat.zero_le _)⟩ ?_ ?_
  · refine Weak.list [((1, 0, 0), .old (1, 0, 0), boxed (encMod m)), ((13, 0, 0), .old (13, 0, 0), .row true 1 m.funcs.length (fun i => [.bool ((List.replicate m.funcs.length false).getD i false)]))] rfl (by rfl) ?_ (.old rfl (BLe.refl _) (.old rfl (BLe.rowW (Nat.le_refl _) (fun z hz => ?_)) .nil))
    · ((repeat' first | exact TLes.nil | refine TLes.cons (TLe.eq rfl) ?_); skip)
    · exact Wks.of (by simp [List.getD_eq_getElem?_getD, List.getElem?_replicate]; split <;> rfl)
  rintro ⟨r, is⟩ ⟨hrl, h0⟩
  simp only at hrl h0 ⊢
  (repeat' ((fail_if_success (show AWp _ _ _ (Code.region 5 _ _) _ _)); first | refine AWp_seq ?_ | (refine AWp_reg tok (by rfl) ?_; conv => whnf) | refine AWp_block ?_ | (refine AWp_skip ?_; conv => whnf) | (refine AWp_exit ?_; conv => whnf) | (refine AWp_ret ?_; conv => whnf) | refine AWp_cond rfl (fun hb => ?_) (fun hb => ?_)))
  · have hrl2 : r ≤ m.funcs.length := by simp only [decide_eq_true_eq] at hb; omega
    clear hb
    (repeat' ((fail_if_success (show AWp _ _ _ (Code.region 2 _ _) _ _)); first | (refine AWp_reg tok (by rfl) ?_; conv => whnf) | refine AWp_block ?_))
    refine AWp_loop (fun q : Nat × List Bool => mkS [(1, .bp (1, 0, 0) 0), (3, .rs (13, 0, 0) 1 0 m.funcs.length), (4, iv r), (5, iv q.1)] [((1, 0, 0), boxed (encMod m)), ((13, 0, 0), .row true 1 m.funcs.length (fun i => [.bool (q.2.getD i false)]))])
      (fun q => q.1 ≤ m.funcs.length ∧ Iv2 m.funcs.length (ruleOf (outB) m) is q.1 q.2) (fun q => m.funcs.length - q.1) (0, is)
      ⟨Nat.zero_le _, h0.sz, h0.be, leL.refl _, fun j hj => absurd hj (Nat.not_lt_zero j)⟩ ?_ ?_
    · refine Weak.list [((1, 0, 0), .old (1, 0, 0), boxed (encMod m)), ((13, 0, 0), .old (13, 0, 0), .row true 1 m.funcs.length (fun i => [.bool (is.getD i false)]))] rfl (by rfl) ?_ (.old rfl (BLe.refl _) (.old rfl (BLe.refl _) .nil))
      ((repeat' first | exact TLes.nil | refine TLes.cons (TLe.eq rfl) ?_); skip)
    rintro ⟨n, js⟩ ⟨hn, hv⟩
    simp only at hn hv ⊢
    (repeat' ((fail_if_success (show AWp _ _ _ (Code.region 8 _ _) _ _)); first | refine AWp_seq ?_ | (refine AWp_reg tok (by rfl) ?_; conv => whnf) | refine AWp_block ?_ | (refine AWp_skip ?_; conv => whnf) | (refine AWp_exit ?_; conv => whnf) | refine AWp_cond rfl (fun hb => ?_) (fun hb => ?_)))
    · have hlt : n < m.funcs.length := by simp only [decide_eq_true_eq] at hb; omega
      have hnn : (n : Int).toNat = n := Int.toNat_natCast n
      clear hb
      have hbl : (m.funcs.getD n default).blocks.length ≤ 64 := by
        have := right_funcs hr hlt
        unfold funcB at this; rw [Bool.and_eq_true, decide_eq_true_eq] at this
        exact this.1.2.2.2.2.2.1
      ((repeat' ((fail_if_success (show AWp _ _ _ (Code.region 4 _ _) _ _)); first | refine AWp_seq ?_ | (refine AWp_reg tok (by rfl) ?_; conv => whnf) | refine AWp_block ?_ | (refine @And.intro (underG _ _ _ _) _ ?_ ?_; rotate_left; (conv => whnf); rotate_right))); all_goals (try ((guard_target = underG _ _ _ _); refine underG_none ?_; (all_goals (try simp only [underG, true_and, and_true, Bool.cond_true_left, Bool.cond_false_left, Bool.cond_true_right, Bool.cond_false_right, Bool.or_eq_true, Bool.and_eq_true, Bool.or_eq_false_iff, Bool.and_eq_false_iff, cond_true, cond_false, Bool.not_eq_eq_eq_not, Bool.not_true, Bool.not_false, decide_eq_true_eq, decide_eq_false_iff_not, Int.toNat_natCast, Nat.zero_add, Decidable.not_not, maxL, inn_iff] at *)); all_goals omega)))
      refine AWp_loop (fun q : Nat × List Bool => mkS [(1, .bp (1, 0, 0) 0), (3, .rs (13, 0, 0) 1 0 m.funcs.length), (4, iv r), (5, iv n), (6, .bp (6, 0, 0) 0), (7, iv q.1)] [((1, 0, 0), boxed (encMod m)), ((13, 0, 0), .row true 1 m.funcs.length (fun i => [.bool (q.2.getD i false)])), ((6, 0, 0), .row true 3 1 (fun _ => encFunc (m.funcs.getD n default)))])
        (fun q => q.1 ≤ (m.funcs.getD n default).blocks.length ∧ Iv2 m.funcs.length (ruleOf (outB) m) is n q.2 ∧ ∀ j, j < q.1 → outB (m.funcs.getD n default) ((m.funcs.getD n default).blocks.getD j default) is = true → q.2.getD n false = true) (fun q => (m.funcs.getD n default).blocks.length - q.1) (0, js)
        ⟨Nat.zero_le _, hv, fun j hj => absurd hj (Nat.not_lt_zero j)⟩ ?_ ?_
      · refine Weak.list [((1, 0, 0), .old (1, 0, 0), boxed (encMod m)), ((13, 0, 0), .old (13, 0, 0), .row true 1 m.funcs.length (fun i => [.bool (js.getD i false)])), ((6, 0, 0), .old (6, 0, 0), .row true 3 1 (fun _ => encFunc (m.funcs.getD n default)))] rfl (by rfl) ?_ (.old rfl (BLe.refl _) (.old rfl (BLe.refl _) (.old rfl (BLe.rowW (Nat.le_refl _) (fun z hz2 => Wks.of (match z, hz2 with | 0, _ => rfl))) .nil)))
        ((repeat' first | exact TLes.nil | refine TLes.cons (TLe.eq rfl) ?_); skip)
      clear hv js
      rintro ⟨i, js⟩ ⟨hi, hv, hdone⟩
      simp only at hi hv hdone ⊢
      (repeat' ((fail_if_success (show AWp _ _ _ (Code.region 12 _ _) _ _)); first | refine AWp_seq ?_ | (refine AWp_reg tok (by rfl) ?_; conv => whnf) | refine AWp_block ?_ | (refine AWp_skip ?_; conv => whnf) | (refine AWp_exit ?_; conv => whnf) | refine AWp_cond rfl (fun hb => ?_) (fun hb => ?_)))
      · have hlt2 : i < (m.funcs.getD n default).blocks.length := by simp only [decide_eq_true_eq] at hb; omega
        have hii : (i : Int).toNat = i := Int.toNat_natCast i
        clear hb
        have hok := okB_of hr hlt hlt2
        have hins : ((m.funcs.getD n default).blocks.getD i default).ins.length ≤ 64 := by
          have := func_blocks (right_funcs hr hlt) hlt2
          unfold blkB at this; rw [Bool.and_eq_true, decide_eq_true_eq] at this
          exact this.1.1
        have h1 := hok.fn
        have h2 := hok.pad
        have h3 := hok.ins
        have hsz := hv.sz
        ((repeat' ((fail_if_success (show AWp _ _ _ (Code.region 13 _ _) _ _)); first | refine AWp_seq ?_ | (refine AWp_reg tok (by rfl) ?_; conv => whnf) | (refine @And.intro (underG _ _ _ _) _ ?_ ?_; rotate_left; (conv => whnf); rotate_right))); all_goals (try ((guard_target = underG _ _ _ _); refine underG_none ?_; (all_goals (try simp only [underG, true_and, and_true, Bool.cond_true_left, Bool.cond_false_left, Bool.cond_true_right, Bool.cond_false_right, Bool.or_eq_true, Bool.and_eq_true, Bool.or_eq_false_iff, Bool.and_eq_false_iff, cond_true, cond_false, Bool.not_eq_eq_eq_not, Bool.not_true, Bool.not_false, decide_eq_true_eq, decide_eq_false_iff_not, Int.toNat_natCast, Nat.zero_add, Decidable.not_not, maxL, inn_iff] at *)); all_goals omega)))
        refine AWp_weak (Weak.list (tl := [(1, .bp (1, 0, 0) 0), (3, .rs (13, 0, 0) 1 0 m.funcs.length), (4, iv r), (5, iv n), (6, .bp (6, 0, 0) 0), (7, iv i), (8, .bp (8, 0, 0) 0)]) [((1, 0, 0), .old (1, 0, 0), boxed (encMod m)), ((13, 0, 0), .old (13, 0, 0), .row true 1 m.funcs.length (fun i => [.bool (js.getD i false)])), ((6, 0, 0), .old (6, 0, 0), .row true 3 1 (fun _ => encFunc (m.funcs.getD n default))), ((8, 0, 0), .old (8, 0, 0), .row true 14 1 (fun _ => encBlock ((m.funcs.getD n default).blocks.getD i default)))] rfl (by rfl) ?_ (.old rfl (BLe.refl _) (.old rfl (BLe.refl _) (.old rfl (BLe.refl _) (.old rfl (BLe.rowW (Nat.le_refl _) (fun z hz2 => Wks.of (match z, hz2 with | 0, _ => rfl))) .nil))))) ?_
        · ((repeat' first | exact TLes.nil | refine TLes.cons (TLe.eq rfl) ?_); skip)
        have hgen : ∃ f, m.funcs.getD n default = f := ⟨_, rfl⟩
        obtain ⟨f, hfe⟩ := hgen
        have hf2 : ∀ x, x = n → m.funcs.getD x default = f := fun x e => by rw [e]; exact hfe
        simp only [hfe] at *
        have hgen : ∃ b, f.blocks.getD i default = b := ⟨_, rfl⟩
        obtain ⟨b, hbe⟩ := hgen
        have hb2 : ∀ x, x = i → f.blocks.getD x default = b := fun x e => by rw [e]; exact hbe
        have hat : ∀ js, outB f b js = true → ruleOf (outB) m n js = true := fun js h => ruleOf_at (by rw [hf2 n rfl]; exact hlt2) (by rw [hf2 n rfl, hbe]; exact h)
        simp only [hbe] at *
        have hset : ∀ js : List Bool, js.length = m.funcs.length → (js.set n true).getD n false = true := fun js h => by rw [set_get (by omega)]; simp
        ((repeat' ((fail_if_success (show AWp _ _ _ (Code.region 6 _ _) _ _)); first | refine AWp_seq ?_ | (refine AWp_reg tok (by rfl) ?_; conv => whnf) | refine AWp_block ?_ | (refine AWp_skip ?_; conv => whnf) | refine AWp_cond rfl (fun hb => ?_) (fun hb => ?_) | (refine @And.intro (underG _ _ _ _) _ ?_ ?_; rotate_left; (conv => whnf); rotate_right))); all_goals (try ((guard_target = underG _ _ _ _); (first | refine underG_none ?_ | (refine underG_some ?_; intro hgd; (conv at hgd => whnf); (try simp (disch := omega) only [wrap64] at hgd))); (all_goals (try simp only [underG, true_and, and_true, Bool.cond_true_left, Bool.cond_false_left, Bool.cond_true_right, Bool.cond_false_right, Bool.or_eq_true, Bool.and_eq_true, Bool.or_eq_false_iff, Bool.and_eq_false_iff, cond_true, cond_false, Bool.not_eq_eq_eq_not, Bool.not_true, Bool.not_false, decide_eq_true_eq, decide_eq_false_iff_not, Int.toNat_natCast, Nat.zero_add, Decidable.not_not, maxL, inn_iff] at *)); all_goals omega)))
        · have hx : endO f b js = true := by simpa [endO, isAt] using hb
          have hv1 := hv.set hD hlt (hat js (by rw [outB_of, hx]; rfl))
          have hd1 : ∀ j, j < i → outB f (f.blocks.getD j default) is = true → (js.set n true).getD n false = true := fun _ _ _ => hset js hsz
          have he1 : endO f b is = true → (js.set n true).getD n false = true := fun _ => hset js hsz
          refine AWp_weak (Weak.list (tl := [(1, .bp (1, 0, 0) 0), (3, .rs (13, 0, 0) 1 0 m.funcs.length), (4, iv r), (5, iv n), (6, .bp (6, 0, 0) 0), (7, iv i), (8, .bp (8, 0, 0) 0), (9, iv 0)]) [((1, 0, 0), .old (1, 0, 0), boxed (encMod m)), ((13, 0, 0), .old (13, 0, 0), .row true 1 m.funcs.length (fun i => [.bool ((js.set n true).getD i false)])), ((6, 0, 0), .old (6, 0, 0), .row true 3 1 (fun _ => encFunc f)), ((8, 0, 0), .old (8, 0, 0), .row true 14 1 (fun _ => encBlock b))] rfl (by rfl) ?_ (.old rfl (BLe.refl _) (.old rfl (BLe.rowW (Nat.le_refl _) (fun z hz2 => Wks.of ?_)) (.old rfl (BLe.refl _) (.old rfl (BLe.refl _) .nil))))) ?_
          · ((repeat' first | exact TLes.nil | refine TLes.cons (TLe.eq rfl) ?_); skip)
          · exact upd_row' (fun b => [AV.bool b]) false js (by omega) (by simp) rfl z
          clear hv hdone hsz hb hx
          generalize js.set n true = js at hv1 hd1 he1 ⊢
          refine AWp_loop (fun q : Nat × List Bool => mkS [(1, .bp (1, 0, 0) 0), (3, .rs (13, 0, 0) 1 0 m.funcs.length), (4, iv r), (5, iv n), (6, .bp (6, 0, 0) 0), (7, iv i), (8, .bp (8, 0, 0) 0), (9, iv q.1)] [((1, 0, 0), boxed (encMod m)), ((13, 0, 0), .row true 1 m.funcs.length (fun i => [.bool (q.2.getD i false)])), ((6, 0, 0), .row true 3 1 (fun _ => encFunc f)), ((8, 0, 0), .row true 14 1 (fun _ => encBlock b))])
            (fun q => q.1 ≤ b.ins.length ∧ Iv2 m.funcs.length (ruleOf (outB) m) is n q.2 ∧ (∀ j, j < i → outB f (f.blocks.getD j default) is = true → q.2.getD n false = true) ∧ (endO f b is = true → q.2.getD n false = true) ∧ ∀ j, j < q.1 → insO (b.ins.getD j default) is = true → q.2.getD n false = true)
            (fun q => b.ins.length - q.1) (0, js) ⟨Nat.zero_le _, hv1, hd1, he1, fun j hj => absurd hj (Nat.not_lt_zero j)⟩ ?_ ?_
          · refine Weak.list [((1, 0, 0), .old (1, 0, 0), boxed (encMod m)), ((13, 0, 0), .old (13, 0, 0), .row true 1 m.funcs.length (fun i => [.bool (js.getD i false)])), ((6, 0, 0), .old (6, 0, 0), .row true 3 1 (fun _ => encFunc f)), ((8, 0, 0), .old (8, 0, 0), .row true 14 1 (fun _ => encBlock b))] rfl (by rfl) ?_ (.old rfl (BLe.refl _) (.old rfl (BLe.refl _) (.old rfl (BLe.refl _) (.old rfl (BLe.refl _) .nil))))
            ((repeat' first | exact TLes.nil | refine TLes.cons (TLe.eq rfl) ?_); skip)
          clear hv1 hd1 he1 js
          rintro ⟨k, js⟩ ⟨hk, hv, hd, he, hin⟩
          simp only at hk hv hd he hin ⊢
          have hsz := hv.sz
          have hkk : (k : Int).toNat = k := Int.toNat_natCast k
          (repeat' ((fail_if_success (show AWp _ _ _ (Code.region 18 _ _) _ _)); first | refine AWp_seq ?_ | (refine AWp_reg tok (by rfl) ?_; conv => whnf) | refine AWp_block ?_ | (refine AWp_skip ?_; conv => whnf) | (refine AWp_exit ?_; conv => whnf) | refine AWp_cond rfl (fun hb => ?_) (fun hb => ?_)))
          · have hk2 : k < b.ins.length := by simp only [decide_eq_true_eq] at hb; omega
            have hop := h3 k hk2
            clear hb
            ((repeat' first | (refine AWp_reg tok (by rfl) ?_; conv => whnf) | (refine AWp_skip ?_; conv => whnf) | refine AWp_cond rfl (fun hb => ?_) (fun hb => ?_) | (refine @And.intro (underG _ _ _ _) _ ?_ ?_; rotate_left; (conv => whnf); rotate_right)); all_goals (try ((guard_target = underG _ _ _ _); (first | refine underG_none ?_ | (refine underG_some ?_; intro hgd; (conv at hgd => whnf))); (all_goals (try simp only [underG, true_and, and_true, Bool.cond_true_left, Bool.cond_false_left, Bool.cond_true_right, Bool.cond_false_right, Bool.or_eq_true, Bool.and_eq_true, Bool.or_eq_false_iff, Bool.and_eq_false_iff, cond_true, cond_false, Bool.not_eq_eq_eq_not, Bool.not_true, Bool.not_false, decide_eq_true_eq, decide_eq_false_iff_not, Int.toNat_natCast, Nat.zero_add, Decidable.not_not, maxL, inn_iff] at *)); all_goals omega)))
            skip
            · have hx : insO (b.ins.getD k default) js = true := by simpa [insO, isAt] using hb
              refine ⟨(k + 1, js.set n true), ⟨by simp; omega, hv.set hD hlt (hat js ?_), fun _ _ _ => hset js hsz, fun _ => hset js hsz, fun _ _ _ => hset js hsz⟩, by simp; omega, ?_⟩
              · rw [outB_of, Bool.or_eq_true, List.any_eq_true]
                exact .inr ⟨_, by rw [getD_lt default hk2]; exact List.getElem_mem hk2, hx⟩
              refine Weak.list [((1, 0, 0), .old (1, 0, 0), boxed (encMod m)), ((13, 0, 0), .old (13, 0, 0), .row true 1 m.funcs.length (fun i => [.bool ((js.set n true).getD i false)])), ((6, 0, 0), .old (6, 0, 0), .row true 3 1 (fun _ => encFunc f)), ((8, 0, 0), .old (8, 0, 0), .row true 14 1 (fun _ => encBlock b))] rfl (by rfl) ?_ (.old rfl (BLe.refl _) (.old rfl (BLe.rowW (Nat.le_refl _) (fun z hz2 => Wks.of ?_)) (.old rfl (BLe.refl _) (.old rfl (BLe.refl _) .nil))))
              · ((repeat' first | exact TLes.nil | refine TLes.cons (TLe.eq rfl) ?_ | refine TLes.cons (TLe.int ?_) ?_); (all_goals first | ((try (simp only [underG, true_and, and_true, Bool.cond_true_left, Bool.cond_false_left, Bool.cond_true_right, Bool.cond_false_right, Bool.or_eq_true, Bool.and_eq_true, Bool.or_eq_false_iff, Bool.and_eq_false_iff, cond_true, cond_false, Bool.not_eq_eq_eq_not, Bool.not_true, Bool.not_false, decide_eq_true_eq, decide_eq_false_iff_not, Int.toNat_natCast, Nat.zero_add, Decidable.not_not, maxL, inn_iff] at *)); exact wrap64 (by omega) (by omega)) | skip))
              · exact upd_row' (fun b => [AV.bool b]) false js (by omega) (by simp) rfl z
            · have hx : insO (b.ins.getD k default) js = false := by simpa [insO, isAt] using hb
              refine ⟨(k + 1, js), ⟨by simp; omega, hv, hd, he, fun j hj h => ?_⟩, by simp; omega, ?_⟩
              · by_cases e : j = k
                · subst e
                  have := insO_mono (b.ins.getD j default) is js hv.le h
                  rw [hx] at this; cases this
                · exact hin j (by simp at hj; omega) h
              refine Weak.list [((1, 0, 0), .old (1, 0, 0), boxed (encMod m)), ((13, 0, 0), .old (13, 0, 0), .row true 1 m.funcs.length (fun i => [.bool (js.getD i false)])), ((6, 0, 0), .old (6, 0, 0), .row true 3 1 (fun _ => encFunc f)), ((8, 0, 0), .old (8, 0, 0), .row true 14 1 (fun _ => encBlock b))] rfl (by rfl) ?_ (.old rfl (BLe.refl _) (.old rfl (BLe.refl _) (.old rfl (BLe.refl _) (.old rfl (BLe.refl _) .nil))))
              ((repeat' first | exact TLes.nil | refine TLes.cons (TLe.eq rfl) ?_ | refine TLes.cons (TLe.int ?_) ?_); (all_goals first | ((try (simp only [underG, true_and, and_true, Bool.cond_true_left, Bool.cond_false_left, Bool.cond_true_right, Bool.cond_false_right, Bool.or_eq_true, Bool.and_eq_true, Bool.or_eq_false_iff, Bool.and_eq_false_iff, cond_true, cond_false, Bool.not_eq_eq_eq_not, Bool.not_true, Bool.not_false, decide_eq_true_eq, decide_eq_false_iff_not, Int.toNat_natCast, Nat.zero_add, Decidable.not_not, maxL, inn_iff] at *)); exact wrap64 (by omega) (by omega)) | skip))
          · have hk2 : k = b.ins.length := by simp only [decide_eq_false_iff_not] at hb; omega
            clear hb
            skip
            refine ⟨(i + 1, js), ⟨by simp; omega, hv, fun j hj h => ?_⟩, by simp; omega, ?_⟩
            · by_cases e : j = i
              · subst e
                rw [hb2 j rfl, outB_of, Bool.or_eq_true, List.any_eq_true] at h
                rcases h with h | ⟨x, hx, h⟩
                · exact he h
                · obtain ⟨q, hq, rfl⟩ := List.getElem_of_mem hx
                  exact hin q (by omega) (by rw [getD_lt default hq]; exact h)
              · exact hd j (by simp at hj; omega) h
            refine Weak.list [((1, 0, 0), .old (1, 0, 0), boxed (encMod m)), ((13, 0, 0), .old (13, 0, 0), .row true 1 m.funcs.length (fun i => [.bool (js.getD i false)])), ((6, 0, 0), .old (6, 0, 0), .row true 3 1 (fun _ => encFunc f))] rfl (by rfl) ?_ (.old rfl (BLe.refl _) (.old rfl (BLe.refl _) (.old rfl (BLe.refl _) .nil)))
            ((repeat' first | exact TLes.nil | refine TLes.cons (TLe.eq rfl) ?_ | refine TLes.cons (TLe.int ?_) ?_); (all_goals first | ((try (simp only [underG, true_and, and_true, Bool.cond_true_left, Bool.cond_false_left, Bool.cond_true_right, Bool.cond_false_right, Bool.or_eq_true, Bool.and_eq_true, Bool.or_eq_false_iff, Bool.and_eq_false_iff, cond_true, cond_false, Bool.not_eq_eq_eq_not, Bool.not_true, Bool.not_false, decide_eq_true_eq, decide_eq_false_iff_not, Int.toNat_natCast, Nat.zero_add, Decidable.not_not, maxL, inn_iff] at *)); exact wrap64 (by omega) (by omega)) | skip))
        · have hx : endO f b js = false := by simpa [endO, isAt] using hb
          have hv1 := hv
          have hd1 := hdone
          have he1 : endO f b is = true → js.getD n false = true := fun h => by
            have := endO_mono f b is js hv.le h
            rw [hx] at this; cases this
          refine AWp_weak (Weak.list (tl := [(1, .bp (1, 0, 0) 0), (3, .rs (13, 0, 0) 1 0 m.funcs.length), (4, iv r), (5, iv n), (6, .bp (6, 0, 0) 0), (7, iv i), (8, .bp (8, 0, 0) 0), (9, iv 0)]) [((1, 0, 0), .old (1, 0, 0), boxed (encMod m)), ((13, 0, 0), .old (13, 0, 0), .row true 1 m.funcs.length (fun i => [.bool (js.getD i false)])), ((6, 0, 0), .old (6, 0, 0), .row true 3 1 (fun _ => encFunc f)), ((8, 0, 0), .old (8, 0, 0), .row true 14 1 (fun _ => encBlock b))] rfl (by rfl) ?_ (.old rfl (BLe.refl _) (.old rfl (BLe.refl _) (.old rfl (BLe.refl _) (.old rfl (BLe.refl _) .nil))))) ?_
          · ((repeat' first | exact TLes.nil | refine TLes.cons (TLe.eq rfl) ?_); skip)
          clear hv hdone hsz hb hx
          refine AWp_loop (fun q : Nat × List Bool => mkS [(1, .bp (1, 0, 0) 0), (3, .rs (13, 0, 0) 1 0 m.funcs.length), (4, iv r), (5, iv n), (6, .bp (6, 0, 0) 0), (7, iv i), (8, .bp (8, 0, 0) 0), (9, iv q.1)] [((1, 0, 0), boxed (encMod m)), ((13, 0, 0), .row true 1 m.funcs.length (fun i => [.bool (q.2.getD i false)])), ((6, 0, 0), .row true 3 1 (fun _ => encFunc f)), ((8, 0, 0), .row true 14 1 (fun _ => encBlock b))])
            (fun q => q.1 ≤ b.ins.length ∧ Iv2 m.funcs.length (ruleOf (outB) m) is n q.2 ∧ (∀ j, j < i → outB f (f.blocks.getD j default) is = true → q.2.getD n false = true) ∧ (endO f b is = true → q.2.getD n false = true) ∧ ∀ j, j < q.1 → insO (b.ins.getD j default) is = true → q.2.getD n false = true)
            (fun q => b.ins.length - q.1) (0, js) ⟨Nat.zero_le _, hv1, hd1, he1, fun j hj => absurd hj (Nat.not_lt_zero j)⟩ ?_ ?_
          · refine Weak.list [((1, 0, 0), .old (1, 0, 0), boxed (encMod m)), ((13, 0, 0), .old (13, 0, 0), .row true 1 m.funcs.length (fun i => [.bool (js.getD i false)])), ((6, 0, 0), .old (6, 0, 0), .row true 3 1 (fun _ => encFunc f)), ((8, 0, 0), .old (8, 0, 0), .row true 14 1 (fun _ => encBlock b))] rfl (by rfl) ?_ (.old rfl (BLe.refl _) (.old rfl (BLe.refl _) (.old rfl (BLe.refl _) (.old rfl (BLe.refl _) .nil))))
            ((repeat' first | exact TLes.nil | refine TLes.cons (TLe.eq rfl) ?_); skip)
          clear hv1 hd1 he1 js
          rintro ⟨k, js⟩ ⟨hk, hv, hd, he, hin⟩
          simp only at hk hv hd he hin ⊢
          have hsz := hv.sz
          have hkk : (k : Int).toNat = k := Int.toNat_natCast k
          (repeat' ((fail_if_success (show AWp _ _ _ (Code.region 18 _ _) _ _)); first | refine AWp_seq ?_ | (refine AWp_reg tok (by rfl) ?_; conv => whnf) | refine AWp_block ?_ | (refine AWp_skip ?_; conv => whnf) | (refine AWp_exit ?_; conv => whnf) | refine AWp_cond rfl (fun hb => ?_) (fun hb => ?_)))
          · have hk2 : k < b.ins.length := by simp only [decide_eq_true_eq] at hb; omega
            have hop := h3 k hk2
            clear hb
            ((repeat' first | (refine AWp_reg tok (by rfl) ?_; conv => whnf) | (refine AWp_skip ?_; conv => whnf) | refine AWp_cond rfl (fun hb => ?_) (fun hb => ?_) | (refine @And.intro (underG _ _ _ _) _ ?_ ?_; rotate_left; (conv => whnf); rotate_right)); all_goals (try ((guard_target = underG _ _ _ _); (first | refine underG_none ?_ | (refine underG_some ?_; intro hgd; (conv at hgd => whnf))); (all_goals (try simp only [underG, true_and, and_true, Bool.cond_true_left, Bool.cond_false_left, Bool.cond_true_right, Bool.cond_false_right, Bool.or_eq_true, Bool.and_eq_true, Bool.or_eq_false_iff, Bool.and_eq_false_iff, cond_true, cond_false, Bool.not_eq_eq_eq_not, Bool.not_true, Bool.not_false, decide_eq_true_eq, decide_eq_false_iff_not, Int.toNat_natCast, Nat.zero_add, Decidable.not_not, maxL, inn_iff] at *)); all_goals omega)))
            skip
            · have hx : insO (b.ins.getD k default) js = true := by simpa [insO, isAt] using hb
              refine ⟨(k + 1, js.set n true), ⟨by simp; omega, hv.set hD hlt (hat js ?_), fun _ _ _ => hset js hsz, fun _ => hset js hsz, fun _ _ _ => hset js hsz⟩, by simp; omega, ?_⟩
              · rw [outB_of, Bool.or_eq_true, List.any_eq_true]
                exact .inr ⟨_, by rw [getD_lt default hk2]; exact List.getElem_mem hk2, hx⟩
              refine Weak.list [((1, 0, 0), .old (1, 0, 0), boxed (encMod m)), ((13, 0, 0), .old (13, 0, 0), .row true 1 m.funcs.length (fun i => [.bool ((js.set n true).getD i false)])), ((6, 0, 0), .old (6, 0, 0), .row true 3 1 (fun _ => encFunc f)), ((8, 0, 0), .old (8, 0, 0), .row true 14 1 (fun _ => encBlock b))] rfl (by rfl) ?_ (.old rfl (BLe.refl _) (.old rfl (BLe.rowW (Nat.le_refl _) (fun z hz2 => Wks.of ?_)) (.old rfl (BLe.refl _) (.old rfl (BLe.refl _) .nil))))
              · ((repeat' first | exact TLes.nil | refine TLes.cons (TLe.eq rfl) ?_ | refine TLes.cons (TLe.int ?_) ?_); (all_goals first | ((try (simp only [underG, true_and, and_true, Bool.cond_true_left, Bool.cond_false_left, Bool.cond_true_right, Bool.cond_false_right, Bool.or_eq_true, Bool.and_eq_true, Bool.or_eq_false_iff, Bool.and_eq_false_iff, cond_true, cond_false, Bool.not_eq_eq_eq_not, Bool.not_true, Bool.not_false, decide_eq_true_eq, decide_eq_false_iff_not, Int.toNat_natCast, Nat.zero_add, Decidable.not_not, maxL, inn_iff] at *)); exact wrap64 (by omega) (by omega)) | skip))
              · exact upd_row' (fun b => [AV.bool b]) false js (by omega) (by simp) rfl z
            · have hx : insO (b.ins.getD k default) js = false := by simpa [insO, isAt] using hb
              refine ⟨(k + 1, js), ⟨by simp; omega, hv, hd, he, fun j hj h => ?_⟩, by simp; omega, ?_⟩
              · by_cases e : j = k
                · subst e
                  have := insO_mono (b.ins.getD j default) is js hv.le h
                  rw [hx] at this; cases this
                · exact hin j (by simp at hj; omega) h
              refine Weak.list [((1, 0, 0), .old (1, 0, 0), boxed (encMod m)), ((13, 0, 0), .old (13, 0, 0), .row true 1 m.funcs.length (fun i => [.bool (js.getD i false)])), ((6, 0, 0), .old (6, 0, 0), .row true 3 1 (fun _ => encFunc f)), ((8, 0, 0), .old (8, 0, 0), .row true 14 1 (fun _ => encBlock b))] rfl (by rfl) ?_ (.old rfl (BLe.refl _) (.old rfl (BLe.refl _) (.old rfl (BLe.refl _) (.old rfl (BLe.refl _) .nil))))
              ((repeat' first | exact TLes.nil | refine TLes.cons (TLe.eq rfl) ?_ | refine TLes.cons (TLe.int ?_) ?_); (all_goals first | ((try (simp only [underG, true_and, and_true, Bool.cond_true_left, Bool.cond_false_left, Bool.cond_true_right, Bool.cond_false_right, Bool.or_eq_true, Bool.and_eq_true, Bool.or_eq_false_iff, Bool.and_eq_false_iff, cond_true, cond_false, Bool.not_eq_eq_eq_not, Bool.not_true, Bool.not_false, decide_eq_true_eq, decide_eq_false_iff_not, Int.toNat_natCast, Nat.zero_add, Decidable.not_not, maxL, inn_iff] at *)); exact wrap64 (by omega) (by omega)) | skip))
          · have hk2 : k = b.ins.length := by simp only [decide_eq_false_iff_not] at hb; omega
            clear hb
            skip
            refine ⟨(i + 1, js), ⟨by simp; omega, hv, fun j hj h => ?_⟩, by simp; omega, ?_⟩
            · by_cases e : j = i
              · subst e
                rw [hb2 j rfl, outB_of, Bool.or_eq_true, List.any_eq_true] at h
                rcases h with h | ⟨x, hx, h⟩
                · exact he h
                · obtain ⟨q, hq, rfl⟩ := List.getElem_of_mem hx
                  exact hin q (by omega) (by rw [getD_lt default hq]; exact h)
              · exact hd j (by simp at hj; omega) h
            refine Weak.list [((1, 0, 0), .old (1, 0, 0), boxed (encMod m)), ((13, 0, 0), .old (13, 0, 0), .row true 1 m.funcs.length (fun i => [.bool (js.getD i false)])), ((6, 0, 0), .old (6, 0, 0), .row true 3 1 (fun _ => encFunc f))] rfl (by rfl) ?_ (.old rfl (BLe.refl _) (.old rfl (BLe.refl _) (.old rfl (BLe.refl _) .nil)))
            ((repeat' first | exact TLes.nil | refine TLes.cons (TLe.eq rfl) ?_ | refine TLes.cons (TLe.int ?_) ?_); (all_goals first | ((try (simp only [underG, true_and, and_true, Bool.cond_true_left, Bool.cond_false_left, Bool.cond_true_right, Bool.cond_false_right, Bool.or_eq_true, Bool.and_eq_true, Bool.or_eq_false_iff, Bool.and_eq_false_iff, cond_true, cond_false, Bool.not_eq_eq_eq_not, Bool.not_true, Bool.not_false, decide_eq_true_eq, decide_eq_false_iff_not, Int.toNat_natCast, Nat.zero_add, Decidable.not_not, maxL, inn_iff] at *)); exact wrap64 (by omega) (by omega)) | skip))
      · have hi2 : i = (m.funcs.getD n default).blocks.length := by simp only [decide_eq_false_iff_not] at hb; omega
        refine ⟨(n + 1, js), ⟨by simp; omega, hv.sz, hv.be, hv.le, fun j hj hd => ?_⟩, by simp; omega, ?_⟩
        · by_cases e : j = n
          · subst e
            unfold ruleOf at hd
            rw [List.any_eq_true] at hd
            obtain ⟨x, hx, hk⟩ := hd
            obtain ⟨q, hq, rfl⟩ := List.getElem_of_mem hx
            exact hdone q (by omega) (by rw [getD_lt default hq]; exact hk)
          · exact hv.don j (by simp at hj; omega) hd
        refine Weak.list [((1, 0, 0), .old (1, 0, 0), boxed (encMod m)), ((13, 0, 0), .old (13, 0, 0), .row true 1 m.funcs.length (fun i => [.bool (js.getD i false)]))] rfl (by rfl) ?_ (.old rfl (BLe.refl _) (.old rfl (BLe.refl _) .nil))
        ((repeat' first | exact TLes.nil | refine TLes.cons (TLe.eq rfl) ?_ | refine TLes.cons (TLe.int ?_) ?_); (all_goals first | ((try (simp only [underG, true_and, and_true, Bool.cond_true_left, Bool.cond_false_left, Bool.cond_true_right, Bool.cond_false_right, Bool.or_eq_true, Bool.and_eq_true, Bool.or_eq_false_iff, Bool.and_eq_false_iff, cond_true, cond_false, Bool.not_eq_eq_eq_not, Bool.not_true, Bool.not_false, decide_eq_true_eq, decide_eq_false_iff_not, Int.toNat_natCast, Nat.zero_add, Decidable.not_not, maxL, inn_iff] at *)); exact wrap64 (by omega) (by omega)) | skip))
    · have hn2 : n = m.funcs.length := by simp only [decide_eq_false_iff_not] at hb; omega
      subst hn2
      refine ⟨(r + 1, js), ⟨by simp; omega, h0.next hv⟩, by simp; omega, ?_⟩
      refine Weak.list [((1, 0, 0), .old (1, 0, 0), boxed (encMod m)), ((13, 0, 0), .old (13, 0, 0), .row true 1 m.funcs.length (fun i => [.bool (js.getD i false)]))] rfl (by rfl) ?_ (.old rfl (BLe.refl _) (.old rfl (BLe.refl _) .nil))
      ((repeat' first | exact TLes.nil | refine TLes.cons (TLe.eq rfl) ?_ | refine TLes.cons (TLe.int ?_) ?_); (all_goals first | ((try (simp only [underG, true_and, and_true, Bool.cond_true_left, Bool.cond_false_left, Bool.cond_true_right, Bool.cond_false_right, Bool.or_eq_true, Bool.and_eq_true, Bool.or_eq_false_iff, Bool.and_eq_false_iff, cond_true, cond_false, Bool.not_eq_eq_eq_not, Bool.not_true, Bool.not_false, decide_eq_true_eq, decide_eq_false_iff_not, Int.toNat_natCast, Nat.zero_add, Decidable.not_not, maxL, inn_iff] at *)); exact wrap64 (by omega) (by omega)) | skip))
  · have hr2 : r = m.funcs.length + 1 := by simp only [decide_eq_false_iff_not] at hb; omega
    subst hr2
    have he := h0.done hD
    refine ⟨_, rfl, .rs rfl (Nat.le_refl _) ?_ (fun _ _ => ?_)⟩
    · rw [← he, h0.sz]
    · rw [← he]
end Go.Proofs.Ytmanpbgaihdalaa
namespace Go.Proofs.Ytmanpbgaihdalaa
open Go Dv
set_option maxRecDepth 10000
set_option linter.unusedSimpArgs false
theorem c_Has (l : List Int) (n : Int) : FC Try.prog 71 [ints l, iv n] (.bool (hasB l n)) := by
  refine FC_intro tok Try.func71 rfl (by decide +kernel) (Nat.le_of_ble_eq_true rfl) ?_
  refine AWp_facts 0 (fun hl => ?_)
  have hl0 : l.length ≤ maxL := hl.1
  (repeat' first | refine AWp_seq ?_ | (refine AWp_reg tok (by rfl) ?_; conv => whnf) | refine AWp_block ?_)
  refine AWp_loop (fun i : Nat => mkS [(0, ints l), (1, iv n), (5, iv i)] [])
    (fun i => i ≤ l.length ∧ ∀ j, j < i → decide (n = l.getD j 0) = false) (fun i => l.length - i) 0 ⟨Nat.zero_le _, by simp⟩ ?_ ?_
  · refine Weak.list [] rfl (by rfl) ?_ .nil
    ((repeat' first | exact TLes.nil | refine TLes.cons (TLe.eq rfl) ?_); skip)
  rintro i ⟨hi2, hc⟩
  ((repeat' first | refine AWp_seq ?_ | (refine AWp_reg tok (by rfl) ?_; conv => whnf) | refine AWp_block ?_ | (refine AWp_skip ?_; conv => whnf) | (refine AWp_exit ?_; conv => whnf) | (refine AWp_ret ?_; conv => whnf) | refine AWp_cond rfl (fun hb => ?_) (fun hb => ?_) | (refine @And.intro (underG _ _ _ _) _ ?_ ?_; rotate_left; (conv => whnf); rotate_right)); all_goals (try ((guard_target = underG _ _ _ _); refine underG_none ?_; (all_goals (try simp only [underG, true_and, and_true, Bool.cond_true_left, Bool.cond_false_left, Bool.cond_true_right, Bool.cond_false_right, Bool.or_eq_true, Bool.and_eq_true, Bool.or_eq_false_iff, Bool.and_eq_false_iff, cond_true, cond_false, Bool.not_eq_eq_eq_not, Bool.not_true, Bool.not_false, decide_eq_true_eq, decide_eq_false_iff_not, Int.toNat_natCast, Nat.zero_add, Decidable.not_not, maxL, inn_iff] at *)); all_goals omega)))
  · have hlt : i < l.length := by rename_i h; simp only [underG, true_and, and_true, Bool.cond_true_left, Bool.cond_false_left, Bool.cond_true_right, Bool.cond_false_right, Bool.or_eq_true, Bool.and_eq_true, Bool.or_eq_false_iff, Bool.and_eq_false_iff, cond_true, cond_false, Bool.not_eq_eq_eq_not, Bool.not_true, Bool.not_false, decide_eq_true_eq, decide_eq_false_iff_not, Int.toNat_natCast, Nat.zero_add, Decidable.not_not, maxL, inn_iff] at *; omega
    refine ⟨_, rfl, Rel.bool ?_⟩
    unfold hasB
    symm; rw [List.any_eq_true]
    exact ⟨l.getD i 0, by rw [getD_lt 0 hlt]; exact List.getElem_mem hlt, by simp at hb; simp [hb]⟩
  · have hlt : i < l.length := by rename_i h; simp only [underG, true_and, and_true, Bool.cond_true_left, Bool.cond_false_left, Bool.cond_true_right, Bool.cond_false_right, Bool.or_eq_true, Bool.and_eq_true, Bool.or_eq_false_iff, Bool.and_eq_false_iff, cond_true, cond_false, Bool.not_eq_eq_eq_not, Bool.not_true, Bool.not_false, decide_eq_true_eq, decide_eq_false_iff_not, Int.toNat_natCast, Nat.zero_add, Decidable.not_not, maxL, inn_iff] at *; omega
    refine ⟨i + 1, ⟨hlt, fun j hj => ?_⟩, by omega, ?_⟩
    · by_cases e : j = i
      · subst e; simp at hb ⊢; exact fun e => hb e.symm
      · exact hc j (by omega)
    refine Weak.list [] rfl (by rfl) ?_ .nil
    ((repeat' first | exact TLes.nil | refine TLes.cons (TLe.eq rfl) ?_ | refine TLes.cons (TLe.int ?_) ?_); (all_goals first | ((try (simp only [underG, true_and, and_true, Bool.cond_true_left, Bool.cond_false_left, Bool.cond_true_right, Bool.cond_false_right, Bool.or_eq_true, Bool.and_eq_true, Bool.or_eq_false_iff, Bool.and_eq_false_iff, cond_true, cond_false, Bool.not_eq_eq_eq_not, Bool.not_true, Bool.not_false, decide_eq_true_eq, decide_eq_false_iff_not, Int.toNat_natCast, Nat.zero_add, Decidable.not_not, maxL, inn_iff] at *)); exact wrap64 (by omega) (by omega)) | skip))
  · refine ⟨_, rfl, Rel.bool ?_⟩
    unfold hasB
    symm; rw [List.any_eq_false]
    intro x hx
    obtain ⟨j, hj, rfl⟩ := List.getElem_of_mem hx
    have := hc j (by simp only [underG, true_and, and_true, Bool.cond_true_left, Bool.cond_false_left, Bool.cond_true_right, Bool.cond_false_right, Bool.or_eq_true, Bool.and_eq_true, Bool.or_eq_false_iff, Bool.and_eq_false_iff, cond_true, cond_false, Bool.not_eq_eq_eq_not, Bool.not_true, Bool.not_false, decide_eq_true_eq, decide_eq_false_iff_not, Int.toNat_natCast, Nat.zero_add, Decidable.not_not, maxL, inn_iff] at *; omega)
    rw [getD_lt 0 hj] at this; simp at this ⊢; exact this
def endD (_ : Func) (b : Block) (is : List Bool) : Bool := bif decide (b.fin.kind = 4) then isAt is b.fin.f else false
def insD (ops : List Int) (x : Ins) (is : List Bool) : Bool := bif hasB ops x.op then true else bif decide (x.op = 11) then isAt is x.f else false
theorem doB_of (f : Func) (b : Block) (is : List Bool) {ops : List Int} : doB ops f b is = (endD f b is || b.ins.any fun x => insD ops x is) := by
  unfold doB endD callsB insD
  cases (bif decide (b.fin.kind = 4) then isAt is b.fin.f else false) with
  | true => rfl
  | false =>
    rw [Bool.false_or, Bool.false_or, Bool.eq_iff_iff]
    simp only [Bool.or_eq_true, List.any_eq_true]
    constructor
    · rintro (⟨x, hx, h⟩ | ⟨x, hx, h⟩)
      · refine ⟨x, hx, ?_⟩
        cases hasB ops x.op
        · exact h
        · rfl
      · exact ⟨x, hx, by rw [h]; rfl⟩
    · rintro ⟨x, hx, h⟩
      cases e : hasB ops x.op
      · rw [e] at h; exact .inl ⟨x, hx, h⟩
      · exact .inr ⟨x, hx, e⟩
theorem endD_mono (f : Func) (b : Block) (is js : List Bool) (h : leL is js) (k : endD f b is = true) : endD f b js = true := by
  unfold endD at *
  cases e : decide (b.fin.kind = 4) with
  | false => rw [e] at k; exact k
  | true => rw [e] at k; exact isAt_mono h k
theorem insD_mono (ops : List Int) (x : Ins) (is js : List Bool) (h : leL is js) (k : insD ops x is = true) : insD ops x js = true := by
  unfold insD at *
  cases e0 : hasB ops x.op with
  | true => rfl
  | false =>
    rw [e0] at k
    simp only [cond_false] at k ⊢
    cases e : decide (x.op = 11) with
    | false => rw [e] at k; exact k
    | true => rw [e] at k; exact isAt_mono h k
theorem c_rDoes (m : Module) (ops : List Int) (hr : rightB m = true) : FOb 23 [.agg (encMod m), ints ops] (doL ops m) := by
  refine FO_intro tok Try.func23 rfl (by decide +kernel) (Nat.le_of_ble_eq_true rfl) ?_
  refine AWp_facts 0 (fun hl => ?_)
  have hl0 : m.funcs.length ≤ maxL := hl.1.1
  have hD : MonoD (ruleOf (doB ops) m) := ruleOf_mono (doB_mono ops)
  have hsp : doL ops m = lfp m.funcs.length (ruleOf (doB ops) m) := by simp [doL, spreadL, hr]
  rw [hsp]
  ((repeat' first | refine AWp_seq ?_ | (refine AWp_reg tok (by rfl) ?_; conv => whnf) | refine AWp_block ?_ | (refine @And.intro (underG _ _ _ _) _ ?_ ?_; rotate_left; (conv => whnf); rotate_right)); all_goals (try ((guard_target = underG _ _ _ _); refine underG_none ?_; (all_goals (try simp only [underG, true_and, and_true, Bool.cond_true_left, Bool.cond_false_left, Bool.cond_true_right, Bool.cond_false_right, Bool.or_eq_true, Bool.and_eq_true, Bool.or_eq_false_iff, Bool.and_eq_false_iff, cond_true, cond_false, Bool.not_eq_eq_eq_not, Bool.not_true, Bool.not_false, decide_eq_true_eq, decide_eq_false_iff_not, Int.toNat_natCast, Nat.zero_add, Decidable.not_not, maxL, inn_iff] at *)); all_goals omega)))
  refine AWp_loop (fun q : Nat × List Bool => mkS [(1, ints ops), (2, .bp (2, 0, 0) 0), (5, .rs (15, 0, 0) 1 0 m.funcs.length), (6, iv q.1)] [((2, 0, 0), boxed (encMod m)), ((15, 0, 0), .row true 1 m.funcs.length (fun i => [.bool (q.2.getD i false)]))])
    (fun q => q.1 ≤ m.funcs.length + 1 ∧ Iv0 m.funcs.length (ruleOf (doB ops) m) q.1 q.2) (fun q => m.funcs.length + 1 - q.1) (0, List.replicate m.funcs.length false)
      ⟨by simp, by simp, rep_beneath _ _, .inr (Nat.zero_le _)⟩ ?_ ?_
  · refine Weak.list [((2, 0, 0), .old (2, 0, 0), boxed (encMod m)), ((15, 0, 0), .old (15, 0, 0), .row true 1 m.funcs.length (fun i => [.bool ((List.replicate m.funcs.length false).getD i false)]))] rfl (by rfl) ?_ (.old rfl (BLe.refl _) (.old rfl (BLe.rowW (Nat.le_refl _) (fun z hz => ?_)) .nil))
    · ((repeat' first | exact TLes.nil | refine TLes.cons (TLe.eq rfl) ?_); skip)
    · exact Wks.of (by simp [List.getD_eq_getElem?_getD, List.getElem?_replicate]; split <;> rfl)
  rintro ⟨r, is⟩ ⟨hrl, h0⟩
  simp only at hrl h0 ⊢
  (repeat' ((fail_if_success (show AWp _ _ _ (Code.region 5 _ _) _ _)); first | refine AWp_seq ?_ | (refine AWp_reg tok (by rfl) ?_; conv => whnf) | refine AWp_block ?_ | (refine AWp_skip ?_; conv => whnf) | (refine AWp_exit ?_; conv => whnf) | (refine AWp_ret ?_; conv => whnf) | refine AWp_cond rfl (fun hb => ?_) (fun hb => ?_)))
  · have hrl2 : r ≤ m.funcs.length := by simp only [decide_eq_true_eq] at hb; omega
    clear hb
    (repeat' ((fail_if_success (show AWp _ _ _ (Code.region 2 _ _) _ _)); first | (refine AWp_reg tok (by rfl) ?_; conv => whnf) | refine AWp_block ?_))
    refine AWp_loop (fun q : Nat × List Bool => mkS [(1, ints ops), (2, .bp (2, 0, 0) 0), (5, .rs (15, 0, 0) 1 0 m.funcs.length), (6, iv r), (7, iv q.1)] [((2, 0, 0), boxed (encMod m)), ((15, 0, 0), .row true 1 m.funcs.length (fun i => [.bool (q.2.getD i false)]))])
      (fun q => q.1 ≤ m.funcs.length ∧ Iv2 m.funcs.length (ruleOf (doB ops) m) is q.1 q.2) (fun q => m.funcs.length - q.1) (0, is)
      ⟨Nat.zero_le _, h0.sz, h0.be, leL.refl _, fun j hj => absurd hj (Nat.not_lt_zero j)⟩ ?_ ?_
    · refine Weak.list [((2, 0, 0), .old (2, 0, 0), boxed (encMod m)), ((15, 0, 0), .old (15, 0, 0), .row true 1 m.funcs.length (fun i => [.bool (is.getD i false)]))] rfl (by rfl) ?_ (.old rfl (BLe.refl _) (.old rfl (BLe.refl _) .nil))
      ((repeat' first | exact TLes.nil | refine TLes.cons (TLe.eq rfl) ?_); skip)
    rintro ⟨n, js⟩ ⟨hn, hv⟩
    simp only at hn hv ⊢
    (repeat' ((fail_if_success (show AWp _ _ _ (Code.region 8 _ _) _ _)); first | refine AWp_seq ?_ | (refine AWp_reg tok (by rfl) ?_; conv => whnf) | refine AWp_block ?_ | (refine AWp_skip ?_; conv => whnf) | (refine AWp_exit ?_; conv => whnf) | refine AWp_cond rfl (fun hb => ?_) (fun hb => ?_)))
    · have hlt : n < m.funcs.length := by simp only [decide_eq_true_eq] at hb; omega
      have hnn : (n : Int).toNat = n := Int.toNat_natCast n
      clear hb
      have hbl : (m.funcs.getD n default).blocks.length ≤ 64 := by
        have := right_funcs hr hlt
        unfold funcB at this; rw [Bool.and_eq_true, decide_eq_true_eq] at this
        exact this.1.2.2.2.2.2.1
      ((repeat' ((fail_if_success (show AWp _ _ _ (Code.region 4 _ _) _ _)); first | refine AWp_seq ?_ | (refine AWp_reg tok (by rfl) ?_; conv => whnf) | refine AWp_block ?_ | (refine @And.intro (underG _ _ _ _) _ ?_ ?_; rotate_left; (conv => whnf); rotate_right))); all_goals (try ((guard_target = underG _ _ _ _); refine underG_none ?_; (all_goals (try simp only [underG, true_and, and_true, Bool.cond_true_left, Bool.cond_false_left, Bool.cond_true_right, Bool.cond_false_right, Bool.or_eq_true, Bool.and_eq_true, Bool.or_eq_false_iff, Bool.and_eq_false_iff, cond_true, cond_false, Bool.not_eq_eq_eq_not, Bool.not_true, Bool.not_false, decide_eq_true_eq, decide_eq_false_iff_not, Int.toNat_natCast, Nat.zero_add, Decidable.not_not, maxL, inn_iff] at *)); all_goals omega)))
      refine AWp_loop (fun q : Nat × List Bool => mkS [(1, ints ops), (2, .bp (2, 0, 0) 0), (5, .rs (15, 0, 0) 1 0 m.funcs.length), (6, iv r), (7, iv n), (8, .bp (8, 0, 0) 0), (9, iv q.1)] [((2, 0, 0), boxed (encMod m)), ((15, 0, 0), .row true 1 m.funcs.length (fun i => [.bool (q.2.getD i false)])), ((8, 0, 0), .row true 3 1 (fun _ => encFunc (m.funcs.getD n default)))])
        (fun q => q.1 ≤ (m.funcs.getD n default).blocks.length ∧ Iv2 m.funcs.length (ruleOf (doB ops) m) is n q.2 ∧ ∀ j, j < q.1 → doB ops (m.funcs.getD n default) ((m.funcs.getD n default).blocks.getD j default) is = true → q.2.getD n false = true) (fun q => (m.funcs.getD n default).blocks.length - q.1) (0, js)
        ⟨Nat.zero_le _, hv, fun j hj => absurd hj (Nat.not_lt_zero j)⟩ ?_ ?_
      · refine Weak.list [((2, 0, 0), .old (2, 0, 0), boxed (encMod m)), ((15, 0, 0), .old (15, 0, 0), .row true 1 m.funcs.length (fun i => [.bool (js.getD i false)])), ((8, 0, 0), .old (8, 0, 0), .row true 3 1 (fun _ => encFunc (m.funcs.getD n default)))] rfl (by rfl) ?_ (.old rfl (BLe.refl _) (.old rfl (BLe.refl _) (.old rfl (BLe.rowW (Nat.le_refl _) (fun z hz2 => Wks.of (match z, hz2 with | 0, _ => rfl))) .nil)))
        ((repeat' first | exact TLes.nil | refine TLes.cons (TLe.eq rfl) ?_); skip)
      clear hv js
      rintro ⟨i, js⟩ ⟨hi, hv, hdone⟩
      simp only at hi hv hdone ⊢
      (repeat' ((fail_if_success (show AWp _ _ _ (Code.region 12 _ _) _ _)); first | refine AWp_seq ?_ | (refine AWp_reg tok (by rfl) ?_; conv => whnf) | refine AWp_block ?_ | (refine AWp_skip ?_; conv => whnf) | (refine AWp_exit ?_; conv => whnf) | refine AWp_cond rfl (fun hb => ?_) (fun hb => ?_)))
      · have hlt2 : i < (m.funcs.getD n default).blocks.length := by simp only [decide_eq_true_eq] at hb; omega
        have hii : (i : Int).toNat = i := Int.toNat_natCast i
        clear hb
        have hok := okB_of hr hlt hlt2
        have hins : ((m.funcs.getD n default).blocks.getD i default).ins.length ≤ 64 := by
          have := func_blocks (right_funcs hr hlt) hlt2
          unfold blkB at this; rw [Bool.and_eq_true, decide_eq_true_eq] at this
          exact this.1.1
        have h1 := hok.fn
        have h2 := hok.pad
        have h3 := hok.ins
        have hsz := hv.sz
        ((repeat' ((fail_if_success (show AWp _ _ _ (Code.region 13 _ _) _ _)); first | refine AWp_seq ?_ | (refine AWp_reg tok (by rfl) ?_; conv => whnf) | (refine @And.intro (underG _ _ _ _) _ ?_ ?_; rotate_left; (conv => whnf); rotate_right))); all_goals (try ((guard_target = underG _ _ _ _); refine underG_none ?_; (all_goals (try simp only [underG, true_and, and_true, Bool.cond_true_left, Bool.cond_false_left, Bool.cond_true_right, Bool.cond_false_right, Bool.or_eq_true, Bool.and_eq_true, Bool.or_eq_false_iff, Bool.and_eq_false_iff, cond_true, cond_false, Bool.not_eq_eq_eq_not, Bool.not_true, Bool.not_false, decide_eq_true_eq, decide_eq_false_iff_not, Int.toNat_natCast, Nat.zero_add, Decidable.not_not, maxL, inn_iff] at *)); all_goals omega)))
        refine AWp_weak (Weak.list (tl := [(1, ints ops), (2, .bp (2, 0, 0) 0), (5, .rs (15, 0, 0) 1 0 m.funcs.length), (6, iv r), (7, iv n), (8, .bp (8, 0, 0) 0), (9, iv i), (10, .bp (10, 0, 0) 0)]) [((2, 0, 0), .old (2, 0, 0), boxed (encMod m)), ((15, 0, 0), .old (15, 0, 0), .row true 1 m.funcs.length (fun i => [.bool (js.getD i false)])), ((8, 0, 0), .old (8, 0, 0), .row true 3 1 (fun _ => encFunc (m.funcs.getD n default))), ((10, 0, 0), .old (10, 0, 0), .row true 14 1 (fun _ => encBlock ((m.funcs.getD n default).blocks.getD i default)))] rfl (by rfl) ?_ (.old rfl (BLe.refl _) (.old rfl (BLe.refl _) (.old rfl (BLe.refl _) (.old rfl (BLe.rowW (Nat.le_refl _) (fun z hz2 => Wks.of (match z, hz2 with | 0, _ => rfl))) .nil))))) ?_
        · ((repeat' first | exact TLes.nil | refine TLes.cons (TLe.eq rfl) ?_); skip)
        have hgen : ∃ f, m.funcs.getD n default = f := ⟨_, rfl⟩
        obtain ⟨f, hfe⟩ := hgen
        have hf2 : ∀ x, x = n → m.funcs.getD x default = f := fun x e => by rw [e]; exact hfe
        simp only [hfe] at *
        have hgen : ∃ b, f.blocks.getD i default = b := ⟨_, rfl⟩
        obtain ⟨b, hbe⟩ := hgen
        have hb2 : ∀ x, x = i → f.blocks.getD x default = b := fun x e => by rw [e]; exact hbe
        have hat : ∀ js, doB ops f b js = true → ruleOf (doB ops) m n js = true := fun js h => ruleOf_at (by rw [hf2 n rfl]; exact hlt2) (by rw [hf2 n rfl, hbe]; exact h)
        simp only [hbe] at *
        have hset : ∀ js : List Bool, js.length = m.funcs.length → (js.set n true).getD n false = true := fun js h => by rw [set_get (by omega)]; simp
        ((repeat' ((fail_if_success (show AWp _ _ _ (Code.region 6 _ _) _ _)); first | refine AWp_seq ?_ | (refine AWp_reg tok (by rfl) ?_; conv => whnf) | refine AWp_block ?_ | (refine AWp_skip ?_; conv => whnf) | refine AWp_cond rfl (fun hb => ?_) (fun hb => ?_) | (refine @And.intro (underG _ _ _ _) _ ?_ ?_; rotate_left; (conv => whnf); rotate_right))); all_goals (try ((guard_target = underG _ _ _ _); (first | refine underG_none ?_ | (refine underG_some ?_; intro hgd; (conv at hgd => whnf))); (all_goals (try simp only [underG, true_and, and_true, Bool.cond_true_left, Bool.cond_false_left, Bool.cond_true_right, Bool.cond_false_right, Bool.or_eq_true, Bool.and_eq_true, Bool.or_eq_false_iff, Bool.and_eq_false_iff, cond_true, cond_false, Bool.not_eq_eq_eq_not, Bool.not_true, Bool.not_false, decide_eq_true_eq, decide_eq_false_iff_not, Int.toNat_natCast, Nat.zero_add, Decidable.not_not, maxL, inn_iff] at *)); all_goals omega)))
        · have hx : endD f b js = true := by simpa [endD, isAt] using hb
          have hv1 := hv.set hD hlt (hat js (by rw [doB_of, hx]; rfl))
          have hd1 : ∀ j, j < i → doB ops f (f.blocks.getD j default) is = true → (js.set n true).getD n false = true := fun _ _ _ => hset js hsz
          have he1 : endD f b is = true → (js.set n true).getD n false = true := fun _ => hset js hsz
          refine AWp_weak (Weak.list (tl := [(1, ints ops), (2, .bp (2, 0, 0) 0), (5, .rs (15, 0, 0) 1 0 m.funcs.length), (6, iv r), (7, iv n), (8, .bp (8, 0, 0) 0), (9, iv i), (10, .bp (10, 0, 0) 0), (11, iv 0)]) [((2, 0, 0), .old (2, 0, 0), boxed (encMod m)), ((15, 0, 0), .old (15, 0, 0), .row true 1 m.funcs.length (fun i => [.bool ((js.set n true).getD i false)])), ((8, 0, 0), .old (8, 0, 0), .row true 3 1 (fun _ => encFunc f)), ((10, 0, 0), .old (10, 0, 0), .row true 14 1 (fun _ => encBlock b))] rfl (by rfl) ?_ (.old rfl (BLe.refl _) (.old rfl (BLe.rowW (Nat.le_refl _) (fun z hz2 => Wks.of ?_)) (.old rfl (BLe.refl _) (.old rfl (BLe.refl _) .nil))))) ?_
          · ((repeat' first | exact TLes.nil | refine TLes.cons (TLe.eq rfl) ?_); skip)
          · exact upd_row' (fun b => [AV.bool b]) false js (by omega) (by simp) rfl z
          clear hv hdone hsz hb hx
          generalize js.set n true = js at hv1 hd1 he1 ⊢
          refine AWp_loop (fun q : Nat × List Bool => mkS [(1, ints ops), (2, .bp (2, 0, 0) 0), (5, .rs (15, 0, 0) 1 0 m.funcs.length), (6, iv r), (7, iv n), (8, .bp (8, 0, 0) 0), (9, iv i), (10, .bp (10, 0, 0) 0), (11, iv q.1)] [((2, 0, 0), boxed (encMod m)), ((15, 0, 0), .row true 1 m.funcs.length (fun i => [.bool (q.2.getD i false)])), ((8, 0, 0), .row true 3 1 (fun _ => encFunc f)), ((10, 0, 0), .row true 14 1 (fun _ => encBlock b))])
            (fun q => q.1 ≤ b.ins.length ∧ Iv2 m.funcs.length (ruleOf (doB ops) m) is n q.2 ∧ (∀ j, j < i → doB ops f (f.blocks.getD j default) is = true → q.2.getD n false = true) ∧ (endD f b is = true → q.2.getD n false = true) ∧ ∀ j, j < q.1 → insD ops (b.ins.getD j default) is = true → q.2.getD n false = true)
            (fun q => b.ins.length - q.1) (0, js) ⟨Nat.zero_le _, hv1, hd1, he1, fun j hj => absurd hj (Nat.not_lt_zero j)⟩ ?_ ?_
          · refine Weak.list [((2, 0, 0), .old (2, 0, 0), boxed (encMod m)), ((15, 0, 0), .old (15, 0, 0), .row true 1 m.funcs.length (fun i => [.bool (js.getD i false)])), ((8, 0, 0), .old (8, 0, 0), .row true 3 1 (fun _ => encFunc f)), ((10, 0, 0), .old (10, 0, 0), .row true 14 1 (fun _ => encBlock b))] rfl (by rfl) ?_ (.old rfl (BLe.refl _) (.old rfl (BLe.refl _) (.old rfl (BLe.refl _) (.old rfl (BLe.refl _) .nil))))
            ((repeat' first | exact TLes.nil | refine TLes.cons (TLe.eq rfl) ?_); skip)
          clear hv1 hd1 he1 js
          rintro ⟨k, js⟩ ⟨hk, hv, hd, he, hin⟩
          simp only at hk hv hd he hin ⊢
          have hsz := hv.sz
          have hkk : (k : Int).toNat = k := Int.toNat_natCast k
          (repeat' ((fail_if_success (show AWp _ _ _ (Code.region 18 _ _) _ _)); first | refine AWp_seq ?_ | (refine AWp_reg tok (by rfl) ?_; conv => whnf) | refine AWp_block ?_ | (refine AWp_skip ?_; conv => whnf) | (refine AWp_exit ?_; conv => whnf) | refine AWp_cond rfl (fun hb => ?_) (fun hb => ?_)))
          · have hk2 : k < b.ins.length := by simp only [decide_eq_true_eq] at hb; omega
            have hop := h3 k hk2
            clear hb
            ((repeat' first | (refine AWp_reg tok (by rfl) ?_; conv => whnf) | (refine @And.intro (underG _ _ _ _) _ ?_ ?_; rotate_left; (conv => whnf); rotate_right)); all_goals (try ((guard_target = underG _ _ _ _); refine underG_none ?_; (all_goals (try simp only [underG, true_and, and_true, Bool.cond_true_left, Bool.cond_false_left, Bool.cond_true_right, Bool.cond_false_right, Bool.or_eq_true, Bool.and_eq_true, Bool.or_eq_false_iff, Bool.and_eq_false_iff, cond_true, cond_false, Bool.not_eq_eq_eq_not, Bool.not_true, Bool.not_false, decide_eq_true_eq, decide_eq_false_iff_not, Int.toNat_natCast, Nat.zero_add, Decidable.not_not, maxL, inn_iff] at *)); all_goals omega)))
            refine .inl ⟨_, _, _, uG (QC.fc (c_Has ops (b.ins.getD k default).op) rfl), ?_⟩
            conv => whnf
            ((repeat' first | (refine AWp_reg tok (by rfl) ?_; conv => whnf) | (refine AWp_skip ?_; conv => whnf) | refine AWp_cond rfl (fun hb => ?_) (fun hb => ?_) | (refine @And.intro (underG _ _ _ _) _ ?_ ?_; rotate_left; (conv => whnf); rotate_right)); all_goals (try ((guard_target = underG _ _ _ _); (first | refine underG_none ?_ | (refine underG_some ?_; intro hgd; (conv at hgd => whnf); (try simp (disch := omega) only [wrap64] at hgd))); (all_goals (try simp only [underG, true_and, and_true, Bool.cond_true_left, Bool.cond_false_left, Bool.cond_true_right, Bool.cond_false_right, Bool.or_eq_true, Bool.and_eq_true, Bool.or_eq_false_iff, Bool.and_eq_false_iff, cond_true, cond_false, Bool.not_eq_eq_eq_not, Bool.not_true, Bool.not_false, decide_eq_true_eq, decide_eq_false_iff_not, Int.toNat_natCast, Nat.zero_add, Decidable.not_not, maxL, inn_iff] at *)); all_goals omega)))
            · have hx : insD ops (b.ins.getD k default) js = true := by simpa [insD, isAt] using hb
              refine ⟨(k + 1, js.set n true), ⟨by simp; omega, hv.set hD hlt (hat js ?_), fun _ _ _ => hset js hsz, fun _ => hset js hsz, fun _ _ _ => hset js hsz⟩, by simp; omega, ?_⟩
              · rw [doB_of, Bool.or_eq_true, List.any_eq_true]
                exact .inr ⟨_, by rw [getD_lt default hk2]; exact List.getElem_mem hk2, hx⟩
              refine Weak.list [((2, 0, 0), .old (2, 0, 0), boxed (encMod m)), ((15, 0, 0), .old (15, 0, 0), .row true 1 m.funcs.length (fun i => [.bool ((js.set n true).getD i false)])), ((8, 0, 0), .old (8, 0, 0), .row true 3 1 (fun _ => encFunc f)), ((10, 0, 0), .old (10, 0, 0), .row true 14 1 (fun _ => encBlock b))] rfl (by rfl) ?_ (.old rfl (BLe.refl _) (.old rfl (BLe.rowW (Nat.le_refl _) (fun z hz2 => Wks.of ?_)) (.old rfl (BLe.refl _) (.old rfl (BLe.refl _) .nil))))
              · ((repeat' first | exact TLes.nil | refine TLes.cons (TLe.eq rfl) ?_ | refine TLes.cons (TLe.int ?_) ?_); (all_goals first | ((try (simp only [underG, true_and, and_true, Bool.cond_true_left, Bool.cond_false_left, Bool.cond_true_right, Bool.cond_false_right, Bool.or_eq_true, Bool.and_eq_true, Bool.or_eq_false_iff, Bool.and_eq_false_iff, cond_true, cond_false, Bool.not_eq_eq_eq_not, Bool.not_true, Bool.not_false, decide_eq_true_eq, decide_eq_false_iff_not, Int.toNat_natCast, Nat.zero_add, Decidable.not_not, maxL, inn_iff] at *)); exact wrap64 (by omega) (by omega)) | skip))
              · exact upd_row' (fun b => [AV.bool b]) false js (by omega) (by simp) rfl z
            · have hx : insD ops (b.ins.getD k default) js = false := by simpa [insD, isAt] using hb
              refine ⟨(k + 1, js), ⟨by simp; omega, hv, hd, he, fun j hj h => ?_⟩, by simp; omega, ?_⟩
              · by_cases e : j = k
                · subst e
                  have := insD_mono ops (b.ins.getD j default) is js hv.le h
                  rw [hx] at this; cases this
                · exact hin j (by simp at hj; omega) h
              refine Weak.list [((2, 0, 0), .old (2, 0, 0), boxed (encMod m)), ((15, 0, 0), .old (15, 0, 0), .row true 1 m.funcs.length (fun i => [.bool (js.getD i false)])), ((8, 0, 0), .old (8, 0, 0), .row true 3 1 (fun _ => encFunc f)), ((10, 0, 0), .old (10, 0, 0), .row true 14 1 (fun _ => encBlock b))] rfl (by rfl) ?_ (.old rfl (BLe.refl _) (.old rfl (BLe.refl _) (.old rfl (BLe.refl _) (.old rfl (BLe.refl _) .nil))))
              ((repeat' first | exact TLes.nil | refine TLes.cons (TLe.eq rfl) ?_ | refine TLes.cons (TLe.int ?_) ?_); (all_goals first | ((try (simp only [underG, true_and, and_true, Bool.cond_true_left, Bool.cond_false_left, Bool.cond_true_right, Bool.cond_false_right, Bool.or_eq_true, Bool.and_eq_true, Bool.or_eq_false_iff, Bool.and_eq_false_iff, cond_true, cond_false, Bool.not_eq_eq_eq_not, Bool.not_true, Bool.not_false, decide_eq_true_eq, decide_eq_false_iff_not, Int.toNat_natCast, Nat.zero_add, Decidable.not_not, maxL, inn_iff] at *)); exact wrap64 (by omega) (by omega)) | skip))
          · have hk2 : k = b.ins.length := by simp only [decide_eq_false_iff_not] at hb; omega
            clear hb
            skip
            refine ⟨(i + 1, js), ⟨by simp; omega, hv, fun j hj h => ?_⟩, by simp; omega, ?_⟩
            · by_cases e : j = i
              · subst e
                rw [hb2 j rfl, doB_of, Bool.or_eq_true, List.any_eq_true] at h
                rcases h with h | ⟨x, hx, h⟩
                · exact he h
                · obtain ⟨q, hq, rfl⟩ := List.getElem_of_mem hx
                  exact hin q (by omega) (by rw [getD_lt default hq]; exact h)
              · exact hd j (by simp at hj; omega) h
            refine Weak.list [((2, 0, 0), .old (2, 0, 0), boxed (encMod m)), ((15, 0, 0), .old (15, 0, 0), .row true 1 m.funcs.length (fun i => [.bool (js.getD i false)])), ((8, 0, 0), .old (8, 0, 0), .row true 3 1 (fun _ => encFunc f))] rfl (by rfl) ?_ (.old rfl (BLe.refl _) (.old rfl (BLe.refl _) (.old rfl (BLe.refl _) .nil)))
            ((repeat' first | exact TLes.nil | refine TLes.cons (TLe.eq rfl) ?_ | refine TLes.cons (TLe.int ?_) ?_); (all_goals first | ((try (simp only [underG, true_and, and_true, Bool.cond_true_left, Bool.cond_false_left, Bool.cond_true_right, Bool.cond_false_right, Bool.or_eq_true, Bool.and_eq_true, Bool.or_eq_false_iff, Bool.and_eq_false_iff, cond_true, cond_false, Bool.not_eq_eq_eq_not, Bool.not_true, Bool.not_false, decide_eq_true_eq, decide_eq_false_iff_not, Int.toNat_natCast, Nat.zero_add, Decidable.not_not, maxL, inn_iff] at *)); exact wrap64 (by omega) (by omega)) | skip))
        · have hx : endD f b js = false := by simpa [endD, isAt] using hb
          have hv1 := hv
          have hd1 := hdone
          have he1 : endD f b is = true → js.getD n false = true := fun h => by
            have := endD_mono f b is js hv.le h
            rw [hx] at this; cases this
          refine AWp_weak (Weak.list (tl := [(1, ints ops), (2, .bp (2, 0, 0) 0), (5, .rs (15, 0, 0) 1 0 m.funcs.length), (6, iv r), (7, iv n), (8, .bp (8, 0, 0) 0), (9, iv i), (10, .bp (10, 0, 0) 0), (11, iv 0)]) [((2, 0, 0), .old (2, 0, 0), boxed (encMod m)), ((15, 0, 0), .old (15, 0, 0), .row true 1 m.funcs.length (fun i => [.bool (js.getD i false)])), ((8, 0, 0), .old (8, 0, 0), .row true 3 1 (fun _ => encFunc f)), ((10, 0, 0), .old (10, 0, 0), .row true 14 1 (fun _ => encBlock b))] rfl (by rfl) ?_ (.old rfl (BLe.refl _) (.old rfl (BLe.refl _) (.old rfl (BLe.refl _) (.old rfl (BLe.refl _) .nil))))) ?_
          · ((repeat' first | exact TLes.nil | refine TLes.cons (TLe.eq rfl) ?_); skip)
          clear hv hdone hsz hb hx
          refine AWp_loop (fun q : Nat × List Bool => mkS [(1, ints ops), (2, .bp (2, 0, 0) 0), (5, .rs (15, 0, 0) 1 0 m.funcs.length), (6, iv r), (7, iv n), (8, .bp (8, 0, 0) 0), (9, iv i), (10, .bp (10, 0, 0) 0), (11, iv q.1)] [((2, 0, 0), boxed (encMod m)), ((15, 0, 0), .row true 1 m.funcs.length (fun i => [.bool (q.2.getD i false)])), ((8, 0, 0), .row true 3 1 (fun _ => encFunc f)), ((10, 0, 0), .row true 14 1 (fun _ => encBlock b))])
            (fun q => q.1 ≤ b.ins.length ∧ Iv2 m.funcs.length (ruleOf (doB ops) m) is n q.2 ∧ (∀ j, j < i → doB ops f (f.blocks.getD j default) is = true → q.2.getD n false = true) ∧ (endD f b is = true → q.2.getD n false = true) ∧ ∀ j, j < q.1 → insD ops (b.ins.getD j default) is = true → q.2.getD n false = true)
            (fun q => b.ins.length - q.1) (0, js) ⟨Nat.zero_le _, hv1, hd1, he1, fun j hj => absurd hj (Nat.not_lt_zero j)⟩ ?_ ?_
          · refine Weak.list [((2, 0, 0), .old (2, 0, 0), boxed (encMod m)), ((15, 0, 0), .old (15, 0, 0), .row true 1 m.funcs.length (fun i => [.bool (js.getD i false)])), ((8, 0, 0), .old (8, 0, 0), .row true 3 1 (fun _ => encFunc f)), ((10, 0, 0), .old (10, 0, 0), .row true 14 1 (fun _ => encBlock b))] rfl (by rfl) ?_ (.old rfl (BLe.refl _) (.old rfl (BLe.refl _) (.old rfl (BLe.refl _) (.old rfl (BLe.refl _) .nil))))
            ((repeat' first | exact TLes.nil | refine TLes.cons (TLe.eq rfl) ?_); skip)
          clear hv1 hd1 he1 js
          rintro ⟨k, js⟩ ⟨hk, hv, hd, he, hin⟩
          simp only at hk hv hd he hin ⊢
          have hsz := hv.sz
          have hkk : (k : Int).toNat = k := Int.toNat_natCast k
          (repeat' ((fail_if_success (show AWp _ _ _ (Code.region 18 _ _) _ _)); first | refine AWp_seq ?_ | (refine AWp_reg tok (by rfl) ?_; conv => whnf) | refine AWp_block ?_ | (refine AWp_skip ?_; conv => whnf) | (refine AWp_exit ?_; conv => whnf) | refine AWp_cond rfl (fun hb => ?_) (fun hb => ?_)))
          · have hk2 : k < b.ins.length := by simp only [decide_eq_true_eq] at hb; omega
            have hop := h3 k hk2
            clear hb
            ((repeat' first | (refine AWp_reg tok (by rfl) ?_; conv => whnf) | (refine @And.intro (underG _ _ _ _) _ ?_ ?_; rotate_left; (conv => whnf); rotate_right)); all_goals (try ((guard_target = underG _ _ _ _); refine underG_none ?_; (all_goals (try simp only [underG, true_and, and_true, Bool.cond_true_left, Bool.cond_false_left, Bool.cond_true_right, Bool.cond_false_right, Bool.or_eq_true, Bool.and_eq_true, Bool.or_eq_false_iff, Bool.and_eq_false_iff, cond_true, cond_false, Bool.not_eq_eq_eq_not, Bool.not_true, Bool.not_false, decide_eq_true_eq, decide_eq_false_iff_not, Int.toNat_natCast, Nat.zero_add, Decidable.not_not, maxL, inn_iff] at *)); all_goals omega)))
            refine .inl ⟨_, _, _, uG (QC.fc (c_Has ops (b.ins.getD k default).op) rfl), ?_⟩
            conv => whnf
            ((repeat' first | (refine AWp_reg tok (by rfl) ?_; conv => whnf) | (refine AWp_skip ?_; conv => whnf) | refine AWp_cond rfl (fun hb => ?_) (fun hb => ?_) | (refine @And.intro (underG _ _ _ _) _ ?_ ?_; rotate_left; (conv => whnf); rotate_right)); all_goals (try ((guard_target = underG _ _ _ _); (first | refine underG_none ?_ | (refine underG_some ?_; intro hgd; (conv at hgd => whnf); (try simp (disch := omega) only [wrap64] at hgd))); (all_goals (try simp only [underG, true_and, and_true, Bool.cond_true_left, Bool.cond_false_left, Bool.cond_true_right, Bool.cond_false_right, Bool.or_eq_true, Bool.and_eq_true, Bool.or_eq_false_iff, Bool.and_eq_false_iff, cond_true, cond_false, Bool.not_eq_eq_eq_not, Bool.not_true, Bool.not_false, decide_eq_true_eq, decide_eq_false_iff_not, Int.toNat_natCast, Nat.zero_add, Decidable.not_not, maxL, inn_iff] at *)); all_goals omega)))
            · have hx : insD ops (b.ins.getD k default) js = true := by simpa [insD, isAt] using hb
              refine ⟨(k + 1, js.set n true), ⟨by simp; omega, hv.set hD hlt (hat js ?_), fun _ _ _ => hset js hsz, fun _ => hset js hsz, fun _ _ _ => hset js hsz⟩, by simp; omega, ?_⟩
              · rw [doB_of, Bool.or_eq_true, List.any_eq_true]
                exact .inr ⟨_, by rw [getD_lt default hk2]; exact List.getElem_mem hk2, hx⟩
              refine Weak.list [((2, 0, 0), .old (2, 0, 0), boxed (encMod m)), ((15, 0, 0), .old (15, 0, 0), .row true 1 m.funcs.length (fun i => [.bool ((js.set n true).getD i false)])), ((8, 0, 0), .old (8, 0, 0), .row true 3 1 (fun _ => encFunc f)), ((10, 0, 0), .old (10, 0, 0), .row true 14 1 (fun _ => encBlock b))] rfl (by rfl) ?_ (.old rfl (BLe.refl _) (.old rfl (BLe.rowW (Nat.le_refl _) (fun z hz2 => Wks.of ?_)) (.old rfl (BLe.refl _) (.old rfl (BLe.refl _) .nil))))
              · ((repeat' first | exact TLes.nil | refine TLes.cons (TLe.eq rfl) ?_ | refine TLes.cons (TLe.int ?_) ?_); (all_goals first | ((try (simp only [underG, true_and, and_true, Bool.cond_true_left, Bool.cond_false_left, Bool.cond_true_right, Bool.cond_false_right, Bool.or_eq_true, Bool.and_eq_true, Bool.or_eq_false_iff, Bool.and_eq_false_iff, cond_true, cond_false, Bool.not_eq_eq_eq_not, Bool.not_true, Bool.not_false, decide_eq_true_eq, decide_eq_false_iff_not, Int.toNat_natCast, Nat.zero_add, Decidable.not_not, maxL, inn_iff] at *)); exact wrap64 (by omega) (by omega)) | skip))
              · exact upd_row' (fun b => [AV.bool b]) false js (by omega) (by simp) rfl z
            · have hx : insD ops (b.ins.getD k default) js = false := by simpa [insD, isAt] using hb
              refine ⟨(k + 1, js), ⟨by simp; omega, hv, hd, he, fun j hj h => ?_⟩, by simp; omega, ?_⟩
              · by_cases e : j = k
                · subst e
                  have := insD_mono ops (b.ins.getD j default) is js hv.le h
                  rw [hx] at this; cases this
                · exact hin j (by simp at hj; omega) h
              refine Weak.list [((2, 0, 0), .old (2, 0, 0), boxed (encMod m)), ((15, 0, 0), .old (15, 0, 0), .row true 1 m.funcs.length (fun i => [.bool (js.getD i false)])), ((8, 0, 0), .old (8, 0, 0), .row true 3 1 (fun _ => encFunc f)), ((10, 0, 0), .old (10, 0, 0), .row true 14 1 (fun _ => encBlock b))] rfl (by rfl) ?_ (.old rfl (BLe.refl _) (.old rfl (BLe.refl _) (.old rfl (BLe.refl _) (.old rfl (BLe.refl _) .nil))))
              ((repeat' first | exact TLes.nil | refine TLes.cons (TLe.eq rfl) ?_ | refine TLes.cons (TLe.int ?_) ?_); (all_goals first | ((try (simp only [underG, true_and, and_true, Bool.cond_true_left, Bool.cond_false_left, Bool.cond_true_right, Bool.cond_false_right, Bool.or_eq_true, Bool.and_eq_true, Bool.or_eq_false_iff, Bool.and_eq_false_iff, cond_true, cond_false, Bool.not_eq_eq_eq_not, Bool.not_true, Bool.not_false, decide_eq_true_eq, decide_eq_false_iff_not, Int.toNat_natCast, Nat.zero_add, Decidable.not_not, maxL, inn_iff] at *)); exact wrap64 (by omega) (by omega)) | skip))
          · have hk2 : k = b.ins.length := by simp only [decide_eq_false_iff_not] at hb; omega
            clear hb
            skip
            refine ⟨(i + 1, js), ⟨by simp; omega, hv, fun j hj h => ?_⟩, by simp; omega, ?_⟩
            · by_cases e : j = i
              · subst e
                rw [hb2 j rfl, doB_of, Bool.or_eq_true, List.any_eq_true] at h
                rcases h with h | ⟨x, hx, h⟩
                · exact he h
                · obtain ⟨q, hq, rfl⟩ := List.getElem_of_mem hx
                  exact hin q (by omega) (by rw [getD_lt default hq]; exact h)
              · exact hd j (by simp at hj; omega) h
            refine Weak.list [((2, 0, 0), .old (2, 0, 0), boxed (encMod m)), ((15, 0, 0), .old (15, 0, 0), .row true 1 m.funcs.length (fun i => [.bool (js.getD i false)])), ((8, 0, 0), .old (8, 0, 0), .row true 3 1 (fun _ => encFunc f))] rfl (by rfl) ?_ (.old rfl (BLe.refl _) (.old rfl (BLe.refl _) (.old rfl (BLe.refl _) .nil)))
            ((repeat' first | exact TLes.nil | refine TLes.cons (TLe.eq rfl) ?_ | refine TLes.cons (TLe.int ?_) ?_); (all_goals first | ((try (simp only [underG, true_and, and_true, Bool.cond_true_left, Bool.cond_false_left, Bool.cond_true_right, Bool.cond_false_right, Bool.or_eq_true, Bool.and_eq_true, Bool.or_eq_false_iff, Bool.and_eq_false_iff, cond_true, cond_false, Bool.not_eq_eq_eq_not, Bool.not_true, Bool.not_false, decide_eq_true_eq, decide_eq_false_iff_not, Int.toNat_natCast, Nat.zero_add, Decidable.not_not, maxL, inn_iff] at *)); exact wrap64 (by omega) (by omega)) | skip))
      · have hi2 : i = (m.funcs.getD n default).blocks.length := by simp only [decide_eq_false_iff_not] at hb; omega
        refine ⟨(n + 1, js), ⟨by simp; omega, hv.sz, hv.be, hv.le, fun j hj hd => ?_⟩, by simp; omega, ?_⟩
        · by_cases e : j = n
          · subst e
            unfold ruleOf at hd
            rw [List.any_eq_true] at hd
            obtain ⟨x, hx, hk⟩ := hd
            obtain ⟨q, hq, rfl⟩ := List.getElem_of_mem hx
            exact hdone q (by omega) (by rw [getD_lt default hq]; exact hk)
          · exact hv.don j (by simp at hj; omega) hd
        refine Weak.list [((2, 0, 0), .old (2, 0, 0), boxed (encMod m)), ((15, 0, 0), .old (15, 0, 0), .row true 1 m.funcs.length (fun i => [.bool (js.getD i false)]))] rfl (by rfl) ?_ (.old rfl (BLe.refl _) (.old rfl (BLe.refl _) .nil))
        ((repeat' first | exact TLes.nil | refine TLes.cons (TLe.eq rfl) ?_ | refine TLes.cons (TLe.int ?_) ?_); (all_goals first | ((try (simp only [underG, true_and, and_true, Bool.cond_true_left, Bool.cond_false_left, Bool.cond_true_right, Bool.cond_false_right, Bool.or_eq_true, Bool.and_eq_true, Bool.or_eq_false_iff, Bool.and_eq_false_iff, cond_true, cond_false, Bool.not_eq_eq_eq_not, Bool.not_true, Bool.not_false, decide_eq_true_eq, decide_eq_false_iff_not, Int.toNat_natCast, Nat.zero_add, Decidable.not_not, maxL, inn_iff] at *)); exact wrap64 (by omega) (by omega)) | skip))
    · have hn2 : n = m.funcs.length := by simp only [decide_eq_false_iff_not] at hb; omega
      subst hn2
      refine ⟨(r + 1, js), ⟨by simp; omega, h0.next hv⟩, by simp; omega, ?_⟩
      refine Weak.list [((2, 0, 0), .old (2, 0, 0), boxed (encMod m)), ((15, 0, 0), .old (15, 0, 0), .row true 1 m.funcs.length (fun i => [.bool (js.getD i false)]))] rfl (by rfl) ?_ (.old rfl (BLe.refl _) (.old rfl (BLe.refl _) .nil))
      ((repeat' first | exact TLes.nil | refine TLes.cons (TLe.eq rfl) ?_ | refine TLes.cons (TLe.int ?_) ?_); (all_goals first | ((try (simp only [underG, true_and, and_true, Bool.cond_true_left, Bool.cond_false_left, Bool.cond_true_right, Bool.cond_false_right, Bool.or_eq_true, Bool.and_eq_true, Bool.or_eq_false_iff, Bool.and_eq_false_iff, cond_true, cond_false, Bool.not_eq_eq_eq_not, Bool.not_true, Bool.not_false, decide_eq_true_eq, decide_eq_false_iff_not, Int.toNat_natCast, Nat.zero_add, Decidable.not_not, maxL, inn_iff] at *)); exact wrap64 (by omega) (by omega)) | skip))
  · have hr2 : r = m.funcs.length + 1 := by simp only [decide_eq_false_iff_not] at hb; omega
    subst hr2
    have he := h0.done hD
    refine ⟨_, rfl, .rs rfl (Nat.le_refl _) ?_ (fun _ _ => ?_)⟩
    · rw [← he, h0.sz]
    · rw [← he]
end Go.Proofs.Ytmanpbgaihdalaa
namespace Go.Proofs.Ytmanpbgaihdalaa
open Go Dv Go.ChangeShapes Go.WideShapes Go.ChangeAt Go.RowKit
open Go.Proofs.Ytmanpbgaihdalaa
set_option maxRecDepth 10000
set_option linter.unusedVariables false
section
variable {H : Type} {enc : TypeId × Value → H} {w : World}
abbrev Sm (H : Type) : DataW H → Prop := fun d => Rows.uptoBulk d ≤ 1048576
theorem bulk_all {ds : List (DataW H)} {n : Nat} (h : Rows.uptoBulkAll ds ≤ n) : ∀ d ∈ ds, Rows.uptoBulk d ≤ n := by
  induction ds with
  | nil => intro d hd; cases hd
  | cons x r ih =>
    simp only [Rows.uptoBulkAll] at h
    intro d hd
    simp only [List.mem_cons] at hd
    rcases hd with rfl | hd
    · omega
    · exact ih (by omega) d hd
theorem bulk_pos (d : DataW H) : 1 ≤ Rows.uptoBulk d := by
  cases d with
  | lit l => cases l <;> simp only [Rows.uptoBulk] <;> omega
  | _ => simp only [Rows.uptoBulk]; omega
theorem bulk_len {ds : List (DataW H)} {n : Nat} (h : Rows.uptoBulkAll ds ≤ n) : ds.length ≤ n := by
  induction ds generalizing n with
  | nil => simp
  | cons x r ih =>
    simp only [Rows.uptoBulkAll] at h
    have := bulk_pos x
    have := ih (n := n - Rows.uptoBulk x) (by omega)
    simp only [List.length_cons]; omega
theorem sm_agg (ds : List (DataW H)) (h : Sm H (.agg ds)) : ∀ d ∈ ds, Sm H d := by
  simp only [Sm, Rows.uptoBulk] at h; exact bulk_all (by omega)
theorem sm_slice (es sp : List (DataW H)) (h : Sm H (.slice es sp)) : es.length ≤ maxL ∧ ∀ x ∈ es, Sm H x := by
  simp only [Sm, Rows.uptoBulk] at h
  have h1 : Rows.uptoBulkAll es ≤ 1048576 := by omega
  exact ⟨Nat.le_trans (bulk_len h1) (by decide), bulk_all h1⟩
theorem rd_int : Rd enc Try.prog w (Sm H) 3 Int (fun n => [iv n]) := Rd.int Try.underlying3
theorem rd_u16 : Rd enc Try.prog w (Sm H) 55 Int (fun n => [.int .u16 n]) := Rd.int Try.underlying55
theorem rd_bool : Rd enc Try.prog w (Sm H) 4 Bool (fun b => [.bool b]) := Rd.bool Try.underlying4
theorem rd_ints : Rd enc Try.prog w (Sm H) 31 (List Int) (fun l => [ints l]) := Rd.slice Try.underlying31 (by decide +kernel) (Nat.le_refl _) (fun _ => ⟨rfl, rfl⟩) rd_int sm_slice
theorem rd_u16s : Rd enc Try.prog w (Sm H) 37 (List Int) (fun l => [u16s l]) := Rd.slice Try.underlying37 (by decide +kernel) (Nat.le_refl _) (fun _ => ⟨rfl, rfl⟩) rd_u16 sm_slice
theorem rd_Ins : Rd enc Try.prog w (Sm H) 57 Ins encIns :=
  Rd.map (fun x => ⟨x.1, x.2.1, x.2.2.1, x.2.2.2.1, x.2.2.2.2.1, x.2.2.2.2.2.1, x.2.2.2.2.2.2.1⟩)
    (Rd.struct (fl := [(3, 1), (3, 1), (3, 1), (3, 1), (55, 1), (3, 1), (31, 1)]) Try.underlying57 (.cons rd_int (.cons rd_int (.cons rd_int (.cons rd_int (.cons rd_u16 (.cons rd_int (.cons rd_ints .nil)))))))
      rfl (by decide +kernel) (by decide +kernel) sm_agg) (fun _ => rfl)
theorem rd_inss : Rd enc Try.prog w (Sm H) 40 (List Ins) (fun l => [inss l]) := Rd.slice Try.underlying40 (by decide +kernel) (by decide) (fun _ => ⟨rfl, rfl⟩) rd_Ins sm_slice
theorem rd_End : Rd enc Try.prog w (Sm H) 36 End encEnd :=
  Rd.map (fun x => ⟨x.1, x.2.1, x.2.2.1, x.2.2.2.1, x.2.2.2.2.1, x.2.2.2.2.2.1, x.2.2.2.2.2.2.1, x.2.2.2.2.2.2.2.1⟩)
    (Rd.struct (fl := [(3, 1), (3, 1), (3, 1), (3, 1), (31, 1), (3, 1), (3, 1), (3, 1)]) Try.underlying36 (.cons rd_int (.cons rd_int (.cons rd_int (.cons rd_int (.cons rd_ints (.cons rd_int (.cons rd_int (.cons rd_int .nil))))))))
      rfl (by decide +kernel) (by decide +kernel) sm_agg) (fun _ => rfl)
theorem rd_Pad : Rd enc Try.prog w (Sm H) 39 Pad encPad :=
  Rd.map (fun x => ⟨x.1, x.2.1, x.2.2.1, x.2.2.2.1⟩)
    (Rd.struct (fl := [(3, 1), (37, 1), (4, 1), (4, 1)]) Try.underlying39 (.cons rd_int (.cons rd_u16s (.cons rd_bool (.cons rd_bool .nil))))
      rfl (by decide +kernel) (by decide +kernel) sm_agg) (fun _ => rfl)
theorem rd_Block : Rd enc Try.prog w (Sm H) 42 Block encBlock :=
  Rd.map (fun x => ⟨x.1, x.2.1, x.2.2.1, x.2.2.2.1⟩)
    (Rd.struct (fl := [(4, 1), (39, 4), (40, 1), (36, 8)]) Try.underlying42 (.cons rd_bool (.cons rd_Pad (.cons rd_inss (.cons rd_End .nil))))
      rfl (by decide +kernel) (by decide +kernel) sm_agg) (fun _ => rfl)
theorem rd_blocks : Rd enc Try.prog w (Sm H) 32 (List Block) (fun l => [blockss l]) := Rd.slice Try.underlying32 (by decide +kernel) (by decide) (fun _ => ⟨rfl, rfl⟩) rd_Block sm_slice
theorem rd_Func : Rd enc Try.prog w (Sm H) 34 Func encFunc :=
  Rd.map (fun x => ⟨x.1, x.2.1, x.2.2.1⟩)
    (Rd.struct (fl := [(3, 1), (3, 1), (32, 1)]) Try.underlying34 (.cons rd_int (.cons rd_int (.cons rd_blocks .nil)))
      rfl (by decide +kernel) (by decide +kernel) sm_agg) (fun _ => rfl)
theorem rd_funcs : Rd enc Try.prog w (Sm H) 22 (List Func) (fun l => [funcss l]) := Rd.slice Try.underlying22 (by decide +kernel) (by decide) (fun _ => ⟨rfl, rfl⟩) rd_Func sm_slice
theorem rd_Module : Rd enc Try.prog w (Sm H) 24 Module encMod :=
  Rd.map (fun x => ⟨x.1⟩)
    (Rd.struct (fl := [(22, 1)]) Try.underlying24 (.cons rd_funcs .nil)
      rfl (by decide +kernel) (by decide +kernel) sm_agg) (fun _ => rfl)
end
theorem small_of {H : Type} {ds gs : List (DataW H)} (hk : Rows.uptoSmall H (ds ++ gs) = true) : ∀ d ∈ ds, Sm H d := by
  have h := of_decide_eq_true hk
  exact fun d hd => bulk_all h d (List.mem_append_left _ hd)
end Go.Proofs.Ytmanpbgaihdalaa
namespace Go.Proofs.Ytmanpbgaihdalaa
open Go Dv
set_option maxRecDepth 10000
set_option linter.unusedSimpArgs false
def nilEnd : End := ⟨0, 0, 0, 0, [], 0, 0, 0⟩
def nilPad : Pad := ⟨0, [], false, false⟩
def awT : Module := ⟨[⟨0, 1, [⟨false, nilPad, [], ⟨4, 0, 0, 1, [], 0, 0, 1⟩⟩, ⟨true, ⟨0, [], true, false⟩, [], ⟨1, 0, 0, 0, [], 0, 0, 0⟩⟩]⟩, ⟨0, 1, [⟨false, nilPad, [⟨12, 0, 0, 0, 0, 0, []⟩], ⟨5, 0, 0, 0, [], 0, 0, 0⟩⟩]⟩]⟩
theorem c_awake12 : FC Try.prog 15 [] (.bool true) := by
  refine FC_intro tok Try.func15 rfl (by decide +kernel) (Nat.le_of_ble_eq_true rfl) ?_
  (repeat' ((fail_if_success (show AWp _ _ _ (Code.region 2 _ _) _ _)); first | refine AWp_seq ?_ | (refine AWp_reg tok (by rfl) ?_; conv => whnf)))
  refine AWp_weak (Weak.fam (tl := [(1, .bp (1, 0, 0) 0)]) (hl := [((1, 0, 0), .row true 1 1 (fun _ => encMod awT))]) (F := noH) [] rfl (fun i hi => by cases hi) (.cons (.bp rfl rfl) .nil) (.old rfl rfl (GB.one ?_ (fun _ => rfl)) .nil) noF (fun i hi => by cases hi)) ?_
  · (repeat' first | exact GVs.nil | exact lt0 | refine ltS ?_ ?_ | ((conv => arg 4; whnf); (conv => arg 5; whnf); first | refine GVs.cons (GV.imm rfl) ?_ | refine GVs.cons (GV.wk rfl (.nsl rfl)) ?_ | refine GVs.cons (GV.frz (hd_no rfl) rfl (Nat.le_of_ble_eq_true rfl) rfl ?_ ?_) ?_) | exact (show immDs _ = true from rfl))
  have h1 : FOb 17 [.agg (encMod awT)] [false, true] := (by decide +kernel : outL awT = [false, true]) ▸ c_tOut awT
  have h2 : FOb 18 [.agg (encMod awT)] [true, true] := (by decide +kernel : doL [12, 13] awT = [true, true]) ▸ c_Tells awT
  have h3 : FOb 19 [.agg (encMod awT)] [false, false] := (by decide +kernel : doL [10] awT = [false, false]) ▸ c_Writes awT
  (repeat' (refine AWp_any tok mix (by rfl) ?_; conv => whnf))
  refine .inl ⟨_, _, _, uG (QC.fo (rd := []) h1 (Ress.imms rfl) (.inl rfl) rfl), ?_⟩
  conv => whnf
  skip
  refine .inl ⟨_, _, _, uG (QC.fo (rd := []) h2 (Ress.imms rfl) (.inl rfl) rfl), ?_⟩
  conv => whnf
  skip
  refine .inl ⟨_, _, _, uG (QC.fo (rd := []) h3 (Ress.imms rfl) (.inl rfl) rfl), ?_⟩
  conv => whnf
  ((repeat' first | refine AWp_seq ?_ | (refine AWp_reg tok (by rfl) ?_; conv => whnf) | (refine AWp_ret ?_; conv => whnf) | (refine @And.intro (underG _ _ _ _) _ ?_ ?_; rotate_left; (conv => whnf); rotate_right)); all_goals (try ((guard_target = underG _ _ _ _); ((refine underG_some ?_; intro hgd; (conv at hgd => whnf))); (all_goals (try simp only [underG, true_and, and_true, Bool.cond_true_left, Bool.cond_false_left, Bool.cond_true_right, Bool.cond_false_right, Bool.or_eq_true, Bool.and_eq_true, Bool.or_eq_false_iff, Bool.and_eq_false_iff, cond_true, cond_false, Bool.not_eq_eq_eq_not, Bool.not_true, Bool.not_false, decide_eq_true_eq, decide_eq_false_iff_not, Int.toNat_natCast, Nat.zero_add, Decidable.not_not, maxL, inn_iff] at *)); all_goals omega)))
  exact ⟨_, rfl, Rel.bool rfl⟩
theorem c_Bools (a b : List Bool) : FC Try.prog 21 [bools a, bools b] (.bool (decide (a = b))) := by
  refine FC_intro tok Try.func21 rfl (by decide +kernel) (Nat.le_of_ble_eq_true rfl) ?_
  refine AWp_facts 0 (fun hl => ?_)
  have hl0 : a.length ≤ maxL := hl.1
  (repeat' first | refine AWp_seq ?_ | (refine AWp_reg tok (by rfl) ?_; conv => whnf) | refine AWp_block ?_ | (refine AWp_skip ?_; conv => whnf) | (refine AWp_ret ?_; conv => whnf) | refine AWp_cond rfl (fun hb => ?_) (fun hb => ?_))
  · refine ⟨_, rfl, Rel.bool ?_⟩
    symm; rw [decide_eq_false_iff_not]
    intro e; subst e; simp at hb
  have hlen : a.length = b.length := by simp at hb; omega
  clear hb
  refine AWp_loop (fun i : Nat => mkS [(0, bools a), (1, bools b), (5, iv i)] [])
    (fun i => i ≤ a.length ∧ ∀ j, j < i → a.getD j false = b.getD j false) (fun i => a.length - i) 0 ⟨Nat.zero_le _, by simp⟩ ?_ ?_
  · refine Weak.list [] rfl (by rfl) ?_ .nil
    ((repeat' first | exact TLes.nil | refine TLes.cons (TLe.eq rfl) ?_); skip)
  rintro i ⟨hi2, hc⟩
  ((repeat' first | refine AWp_seq ?_ | (refine AWp_reg tok (by rfl) ?_; conv => whnf) | (refine AWp_any tok mix (by rfl) ?_; conv => whnf) | refine AWp_block ?_ | (refine AWp_skip ?_; conv => whnf) | (refine AWp_exit ?_; conv => whnf) | (refine AWp_ret ?_; conv => whnf) | refine AWp_cond rfl (fun hb => ?_) (fun hb => ?_) | (refine @And.intro (underG _ _ _ _) _ ?_ ?_; rotate_left; (conv => whnf); rotate_right)); all_goals (try ((guard_target = underG _ _ _ _); refine underG_none ?_; (all_goals (try simp only [underG, true_and, and_true, Bool.cond_true_left, Bool.cond_false_left, Bool.cond_true_right, Bool.cond_false_right, Bool.or_eq_true, Bool.and_eq_true, Bool.or_eq_false_iff, Bool.and_eq_false_iff, cond_true, cond_false, Bool.not_eq_eq_eq_not, Bool.not_true, Bool.not_false, decide_eq_true_eq, decide_eq_false_iff_not, Int.toNat_natCast, Nat.zero_add, Decidable.not_not, maxL, inn_iff] at *)); all_goals omega)))
  · have hlt : i < a.length := by rename_i h; simp only [underG, true_and, and_true, Bool.cond_true_left, Bool.cond_false_left, Bool.cond_true_right, Bool.cond_false_right, Bool.or_eq_true, Bool.and_eq_true, Bool.or_eq_false_iff, Bool.and_eq_false_iff, cond_true, cond_false, Bool.not_eq_eq_eq_not, Bool.not_true, Bool.not_false, decide_eq_true_eq, decide_eq_false_iff_not, Int.toNat_natCast, Nat.zero_add, Decidable.not_not, maxL, inn_iff] at *; omega
    refine ⟨_, rfl, Rel.bool ?_⟩
    symm; rw [decide_eq_false_iff_not]
    intro e; subst e; simp at hb
  · have hlt : i < a.length := by rename_i h; simp only [underG, true_and, and_true, Bool.cond_true_left, Bool.cond_false_left, Bool.cond_true_right, Bool.cond_false_right, Bool.or_eq_true, Bool.and_eq_true, Bool.or_eq_false_iff, Bool.and_eq_false_iff, cond_true, cond_false, Bool.not_eq_eq_eq_not, Bool.not_true, Bool.not_false, decide_eq_true_eq, decide_eq_false_iff_not, Int.toNat_natCast, Nat.zero_add, Decidable.not_not, maxL, inn_iff] at *; omega
    refine ⟨i + 1, ⟨hlt, fun j hj => ?_⟩, by omega, ?_⟩
    · by_cases e : j = i
      · subst e; simpa using hb
      · exact hc j (by omega)
    refine Weak.list [] rfl (by rfl) ?_ .nil
    ((repeat' first | exact TLes.nil | refine TLes.cons (TLe.eq rfl) ?_ | refine TLes.cons (TLe.int ?_) ?_); (all_goals first | ((try (simp only [underG, true_and, and_true, Bool.cond_true_left, Bool.cond_false_left, Bool.cond_true_right, Bool.cond_false_right, Bool.or_eq_true, Bool.and_eq_true, Bool.or_eq_false_iff, Bool.and_eq_false_iff, cond_true, cond_false, Bool.not_eq_eq_eq_not, Bool.not_true, Bool.not_false, decide_eq_true_eq, decide_eq_false_iff_not, Int.toNat_natCast, Nat.zero_add, Decidable.not_not, maxL, inn_iff] at *)); exact wrap64 (by omega) (by omega)) | skip))
  · refine ⟨_, rfl, Rel.bool ?_⟩
    symm; rw [decide_eq_true_eq]
    exact list_ext_getD false hlen (fun j hj => hc j (by simp only [underG, true_and, and_true, Bool.cond_true_left, Bool.cond_false_left, Bool.cond_true_right, Bool.cond_false_right, Bool.or_eq_true, Bool.and_eq_true, Bool.or_eq_false_iff, Bool.and_eq_false_iff, cond_true, cond_false, Bool.not_eq_eq_eq_not, Bool.not_true, Bool.not_false, decide_eq_true_eq, decide_eq_false_iff_not, Int.toNat_natCast, Nat.zero_add, Decidable.not_not, maxL, inn_iff] at *; omega))
theorem outL_no {m : Module} (h : rightB m = false) : outL m = [] ∧ ∀ ops, doL ops m = [] := by simp [outL, doL, spreadL, h]
theorem c_ThrowsRight (m : Module) : FC Try.prog 3 [.agg (encMod m)] (.bool true) := by
  refine FC_intro tok Try.func3 rfl (by decide +kernel) (Nat.le_of_ble_eq_true rfl) ?_
  (repeat' first | refine AWp_seq ?_ | (refine AWp_reg tok (by rfl) ?_; conv => whnf))
  refine .inl ⟨_, _, _, uG (QC.fc c_awake12 rfl), ?_⟩
  conv => whnf
  (repeat' first | refine AWp_seq ?_ | (refine AWp_reg tok (by rfl) ?_; conv => whnf) | (refine AWp_skip ?_; conv => whnf) | (refine AWp_ret ?_; conv => whnf) | refine AWp_cond rfl (fun hb => ?_) (fun hb => ?_))
  · cases hb
  refine .inl ⟨_, _, _, uG (QC.fc (c_Short m) rfl), ?_⟩
  conv => whnf
  (repeat' first | refine AWp_seq ?_ | (refine AWp_reg tok (by rfl) ?_; conv => whnf) | (refine AWp_any tok mix (by rfl) ?_; conv => whnf) | (refine AWp_skip ?_; conv => whnf) | (refine AWp_ret ?_; conv => whnf) | refine AWp_cond rfl (fun hb => ?_) (fun hb => ?_))
  · exact ⟨_, rfl, Rel.bool rfl⟩
  refine .inl ⟨_, _, _, uG (QC.fo (rd := []) (c_tOut m) (Ress.imms rfl) (.inl rfl) rfl), ?_⟩
  conv => whnf
  skip
  refine .inl ⟨_, _, _, uG (QC.fo (rd := []) (c_Tells m) (Ress.imms rfl) (.inl rfl) rfl), ?_⟩
  conv => whnf
  skip
  refine .inl ⟨_, _, _, uG (QC.fo (rd := []) (c_Writes m) (Ress.imms rfl) (.inl rfl) rfl), ?_⟩
  conv => whnf
  (repeat' first | refine AWp_seq ?_ | (refine AWp_reg tok (by rfl) ?_; conv => whnf))
  refine .inl ⟨_, _, _, uG (QC.fc (c_Right m) rfl), ?_⟩
  conv => whnf
  (repeat' first | refine AWp_seq ?_ | (refine AWp_reg tok (by rfl) ?_; conv => whnf) | (refine AWp_skip ?_; conv => whnf) | (refine AWp_ret ?_; conv => whnf) | refine AWp_cond rfl (fun hb => ?_) (fun hb => ?_))
  · refine ⟨_, rfl, Rel.bool ?_⟩
    obtain ⟨e1, e2⟩ := outL_no (m := m) (by simpa using hb)
    rw [e1, e2, e2]; rfl
  have hr : rightB m = true := by simpa using hb
  refine .inl ⟨_, _, _, uG (QC.fo (rd := []) (c_rOut m hr) (Ress.imms rfl) (.inl rfl) rfl), ?_⟩
  conv => whnf
  skip
  refine .inl ⟨_, _, _, uG (QC.sc (rd := [(12, 0, 0), (35, 0, 0)]) (c_Bools (outL m) (outL m)) (.cons (.row rfl (memI_iff.1 rfl) rfl rfl (fun _ _ => rfl)) (.cons (.row rfl (memI_iff.1 rfl) rfl rfl (fun _ _ => rfl)) .nil)) rfl), ?_⟩
  conv => whnf
  skip
  refine .inl ⟨_, _, _, uG (QC.fo (rd := [(40, 0, 0)]) (c_rDoes m [12, 13] hr) (.cons (.imm rfl) (.cons (.row rfl (memI_iff.1 rfl) rfl rfl (ltS rfl (ltS rfl lt0))) .nil)) (.inr (fun _ _ => rfl)) rfl), ?_⟩
  conv => whnf
  skip
  refine .inl ⟨_, _, _, uG (QC.sc (rd := [(14, 0, 0), (41, 0, 0)]) (c_Bools (doL [12, 13] m) (doL [12, 13] m)) (.cons (.row rfl (memI_iff.1 rfl) rfl rfl (fun _ _ => rfl)) (.cons (.row rfl (memI_iff.1 rfl) rfl rfl (fun _ _ => rfl)) .nil)) rfl), ?_⟩
  conv => whnf
  skip
  refine .inl ⟨_, _, _, uG (QC.fo (rd := [(47, 0, 0)]) (c_rDoes m [10] hr) (.cons (.imm rfl) (.cons (.row rfl (memI_iff.1 rfl) rfl rfl (ltS rfl lt0)) .nil)) (.inr (fun _ _ => rfl)) rfl), ?_⟩
  conv => whnf
  skip
  refine .inl ⟨_, _, _, uG (QC.sc (rd := [(16, 0, 0), (48, 0, 0)]) (c_Bools (doL [10] m) (doL [10] m)) (.cons (.row rfl (memI_iff.1 rfl) rfl rfl (fun _ _ => rfl)) (.cons (.row rfl (memI_iff.1 rfl) rfl rfl (fun _ _ => rfl)) .nil)) rfl), ?_⟩
  conv => whnf
  (repeat' (refine AWp_ret ?_; conv => whnf))
  refine ⟨_, rfl, Rel.bool ?_⟩
  simp
end Go.Proofs.Ytmanpbgaihdalaa
namespace Go.Proofs.Ytmanpbgaihdalaa
open Go Dv
set_option maxRecDepth 10000
set_option linter.unusedSimpArgs false
def moreF (f : Func) : Func := { f with blocks := f.blocks.set 0 { (f.blocks.getD 0 default) with fin := ⟨5, 0, 0, 0, [], 0, 0, 0⟩ } }
def lessF (f : Func) : Func := { f with blocks := [⟨false, nilPad, [], ⟨1, 0, 0, 0, [], 0, 0, 0⟩⟩] }
def moreM (m : Module) (n : Nat) : Module := ⟨m.funcs.set n (moreF (m.funcs.getD n default))⟩
def lessM (m : Module) (n : Nat) : Module := ⟨m.funcs.set n (lessF (m.funcs.getD n default))⟩
/-! #### The plain law -/
structure SameSig (m m' : Module) : Prop where
  sz : m.funcs.length = m'.funcs.length
  pr : ∀ i, (m.funcs.getD i default).params = (m'.funcs.getD i default).params
theorem argsB_sig {m m' : Module} (h : SameSig m m') : argsB m = argsB m' := by
  funext f n l; unfold argsB; rw [h.sz, h.pr]
theorem InsP_sig {m m' : Module} (h : SameSig m m') : InsP m = InsP m' := by
  funext f x; unfold InsP; rw [argsB_sig h]
theorem EndP_sig {m m' : Module} (h : SameSig m m') : EndP m = EndP m' := by
  funext f x; unfold EndP; rw [argsB_sig h]
theorem blkB_sig {m m' : Module} (h : SameSig m m') : blkB m = blkB m' := by
  funext f b; unfold blkB
  congr 1
  · rw [decide_eq_decide, EndP_sig h]
  · congr 1; funext x; rw [decide_eq_decide, InsP_sig h]
theorem funcB_sig {m m' : Module} (h : SameSig m m') : funcB m = funcB m' := by
  funext f; unfold funcB; rw [blkB_sig h]
theorem right_set {m : Module} (hr : rightB m = true) {n : Nat} (hn : n < m.funcs.length) {f : Func} (hp : f.params = (m.funcs.getD n default).params) (hf : funcB m f = true) : rightB ⟨m.funcs.set n f⟩ = true := by
  have hs : SameSig m ⟨m.funcs.set n f⟩ := ⟨by simp, fun i => by
    simp only []
    rw [getD_set]
    split
    · rename_i h; rw [hp, h.1]
    · rfl⟩
  unfold rightB at hr ⊢
  rw [Bool.and_eq_true, decide_eq_true_eq] at hr ⊢
  refine ⟨⟨by rw [← hs.sz]; exact hr.1.1, by rw [← hs.sz]; exact hr.1.2.1, by rw [← hs.pr]; exact hr.1.2.2⟩, ?_⟩
  rw [← funcB_sig hs]
  refine all_yes default (fun j hj => ?_)
  rw [getD_set]
  split
  · exact hf
  · exact all_at default hr.2 (by simpa using hj)
theorem blkB_end {m : Module} {f : Func} {b : Block} {e : End} (h : blkB m f b = true) (he : EndP m f e) : blkB m f { b with fin := e } = true := by
  unfold blkB at h ⊢
  rw [Bool.and_eq_true, decide_eq_true_eq] at h ⊢
  refine ⟨⟨h.1.1, ?_, he⟩, h.2⟩
  have := h.1.2.1
  unfold PadP at this ⊢; exact this
theorem list_set_land {l : List Block} {b : Block} (hb : b.landing = (l.getD 0 default).landing) (i : Nat) : ((l.set 0 b).getD i default).landing = (l.getD i default).landing := by
  rw [getD_set]
  split
  · rename_i h; rw [hb, h.1]
  · rfl
/-- A block says the same of a function of as many places, whose blocks land alike. -/
theorem blkB_like {m : Module} {f g : Func} (h1 : f.regs = g.regs) (h2 : f.blocks.length = g.blocks.length) (h3 : ∀ i, (f.blocks.getD i default).landing = (g.blocks.getD i default).landing) (b : Block) : blkB m f b = blkB m g b := by
  have e1 : goalB f = goalB g := by funext n; unfold goalB; rw [h2, h3]
  have e2 : argsB m f = argsB m g := by funext n l; unfold argsB; rw [h1]
  unfold blkB
  congr 1
  · rw [decide_eq_decide]
    unfold PadP EndP
    rw [e1, e2, h1, h2, h3]
  · congr 1; funext x
    rw [decide_eq_decide]
    unfold InsP
    rw [e2, h1]
theorem right_more {m : Module} (hr : rightB m = true) {n : Nat} (hn : n < m.funcs.length) (hreg : (m.funcs.getD n default).regs ≠ 0) : rightB (moreM m n) = true := by
  have hf := right_funcs hr hn
  refine right_set hr hn rfl ?_
  generalize m.funcs.getD n default = f at hf hreg ⊢
  unfold funcB at hf ⊢
  rw [Bool.and_eq_true, decide_eq_true_eq] at hf ⊢
  obtain ⟨h1, h2⟩ := hf
  have hl := h1.2.2.2.2.1
  have hlike : ∀ b, blkB m (moreF f) b = blkB m f b := blkB_like rfl (by simp [moreF]) (fun i => list_set_land (l := f.blocks) (b := { (f.blocks.getD 0 default) with fin := ⟨5, 0, 0, 0, [], 0, 0, 0⟩ }) rfl i)
  refine ⟨⟨h1.1, h1.2.1, h1.2.2.1, h1.2.2.2.1, by simpa [moreF] using h1.2.2.2.2.1, by simpa [moreF] using h1.2.2.2.2.2.1, by rw [show (moreF f).blocks.getD 0 default = { (f.blocks.getD 0 default) with fin := ⟨5, 0, 0, 0, [], 0, 0, 0⟩ } from by simp only [moreF]; rw [getD_set, if_pos ⟨rfl, by omega⟩]]; exact h1.2.2.2.2.2.2⟩, ?_⟩
  refine all_yes default (fun j hj => ?_)
  rw [hlike]
  simp only [moreF]
  rw [getD_set]
  have hj' : j < f.blocks.length := by simpa [moreF] using hj
  split
  · refine blkB_end (all_at default h2 (by omega)) (.inl ⟨.inr rfl, (inn_iff _ _).2 ⟨by simp, ?_⟩, rfl, rfl, rfl, rfl, rfl, rfl⟩)
    have := h1.1; have := h1.2.2.1; simp only; omega
  · exact all_at default h2 hj'
theorem right_less {m : Module} (hr : rightB m = true) {n : Nat} (hn : n < m.funcs.length) (hreg : (m.funcs.getD n default).regs ≠ 0) : rightB (lessM m n) = true := by
  have hf := right_funcs hr hn
  refine right_set hr hn rfl ?_
  generalize m.funcs.getD n default = f at hf hreg ⊢
  unfold funcB at hf ⊢
  rw [Bool.and_eq_true, decide_eq_true_eq] at hf ⊢
  obtain ⟨h1, h2⟩ := hf
  refine ⟨⟨h1.1, h1.2.1, h1.2.2.1, h1.2.2.2.1, by simp [lessF], by simp [lessF], rfl⟩, ?_⟩
  have h3 : 0 ≤ f.regs ∧ 0 < f.regs := by have := h1.1; have := h1.2.2.1; omega
  simp only [lessF, List.all_cons, List.all_nil, Bool.and_true]
  unfold blkB
  rw [Bool.and_eq_true, decide_eq_true_eq]
  exact ⟨⟨by simp, .inl ⟨rfl, rfl, rfl, rfl, rfl⟩, .inl ⟨.inl rfl, (inn_iff _ _).2 ⟨by simp, h3.2⟩, rfl, rfl, rfl, rfl, rfl, rfl⟩⟩, rfl⟩
theorem spread_ok {does : Func → Block → List Bool → Bool} {m : Module} (hr : rightB m = true) (hmono : ∀ f b, ∀ is js, leL is js → does f b is = true → does f b js = true) :
    Closed m.funcs.length (ruleOf does m) (spreadL does m) ∧ Beneath m.funcs.length (ruleOf does m) (spreadL does m) := by
  unfold spreadL; rw [if_pos hr]; exact lfp_ok (ruleOf_mono hmono)
theorem rule_set {does : Func → Block → List Bool → Bool} {m : Module} {n j : Nat} {f : Func} (hn : n < m.funcs.length) (is : List Bool) : ruleOf does ⟨m.funcs.set n f⟩ j is = if j = n then f.blocks.any (fun b => does f b is) else ruleOf does m j is := by
  unfold ruleOf
  simp only [getD_set]
  by_cases h : j = n
  · subst h; rw [if_pos ⟨rfl, hn⟩, if_pos rfl]
  · rw [if_neg (fun e => h e.1.symm), if_neg h]
/-- Whoever does nothing isn't in the least set. -/
theorem less_no {does : Func → Block → List Bool → Bool} {m : Module} {n : Nat} (hn : n < m.funcs.length) (hr : rightB (lessM m n) = true) (hmono : ∀ f b, ∀ is js, leL is js → does f b is = true → does f b js = true)
    (h : ∀ is, (lessF (m.funcs.getD n default)).blocks.any (fun b => does (lessF (m.funcs.getD n default)) b is) = false) : (spreadL does (lessM m n)).getD n false = false := by
  obtain ⟨hc, hb⟩ := spread_ok hr hmono
  have hlen : (lessM m n).funcs.length = m.funcs.length := by simp [lessM]
  have hs := hc.sz
  generalize hL : spreadL does (lessM m n) = L at hc hb hs ⊢
  have := hb (L.set n false) ⟨by simp [hs], fun j hj hd => ?_⟩ n
  · cases e : L.getD n false with
    | false => rfl
    | true => have := this e; rw [getD_set, if_pos ⟨rfl, by omega⟩] at this; cases this
  · have hle : leL (L.set n false) L := fun i e => by
      rw [getD_set] at e
      split at e
      · cases e
      · exact e
    have hd2 := ruleOf_mono hmono j _ _ hle hd
    have hne : n ≠ j := fun e => by
      subst e
      unfold lessM at hd
      rw [rule_set hn, if_pos rfl, h] at hd; cases hd
    rw [getD_set, if_neg (fun e => hne e.1)]
    exact hc.cl j hj hd2
theorem more_law {m : Module} {n : Nat} (hn : n < m.funcs.length) (hr : rightB m = true) (hreg : (m.funcs.getD n default).regs ≠ 0) :
    (outL m).length = m.funcs.length ∧ (outL (moreM m n)).length = m.funcs.length ∧ (outL (lessM m n)).length = m.funcs.length ∧ (doL [12, 13] (lessM m n)).length = m.funcs.length ∧ (doL [10] (lessM m n)).length = m.funcs.length ∧
      (outL (moreM m n)).getD n false = true ∧ (outL (lessM m n)).getD n false = false ∧ (doL [12, 13] (lessM m n)).getD n false = false ∧ (doL [10] (lessM m n)).getD n false = false ∧ leL (outL (lessM m n)) (outL m) ∧ leL (outL m) (outL (moreM m n)) := by
  have hrm := right_more hr hn hreg
  have hrl := right_less hr hn hreg
  have hm1 : (moreM m n).funcs.length = m.funcs.length := by simp [moreM]
  have hl1 : (lessM m n).funcs.length = m.funcs.length := by simp [lessM]
  obtain ⟨c1, b1⟩ := spread_ok hr outB_mono
  obtain ⟨c2, b2⟩ := spread_ok hrm outB_mono
  obtain ⟨c3, b3⟩ := spread_ok hrl outB_mono
  obtain ⟨c4, _⟩ := spread_ok hrl (doB_mono [12, 13])
  obtain ⟨c5, _⟩ := spread_ok hrl (doB_mono [10])
  have hf := right_funcs hr hn
  have hbl : 1 ≤ (m.funcs.getD n default).blocks.length := by
    unfold funcB at hf; rw [Bool.and_eq_true, decide_eq_true_eq] at hf; exact hf.1.2.2.2.2.1
  have hno : ∀ is, (lessF (m.funcs.getD n default)).blocks.any (fun b => outB (lessF (m.funcs.getD n default)) b is) = false := fun is => rfl
  have hbn : (outL (moreM m n)).getD n false = true := by
    refine c2.cl n (by omega) ?_
    unfold moreM
    rw [rule_set hn, if_pos rfl, List.any_eq_true]
    refine ⟨(moreF (m.funcs.getD n default)).blocks.getD 0 default, by rw [getD_lt default (show 0 < (moreF (m.funcs.getD n default)).blocks.length by simp only [moreF, List.length_set]; omega)]; exact List.getElem_mem _, ?_⟩
    simp only [moreF]
    rw [getD_set, if_pos ⟨rfl, by omega⟩]
    rfl
  refine ⟨c1.sz, by rw [← hm1]; exact c2.sz, by rw [← hl1]; exact c3.sz, by rw [← hl1]; exact c4.sz, by rw [← hl1]; exact c5.sz, hbn, less_no hn hrl outB_mono hno, less_no hn hrl (doB_mono [12, 13]) (fun is => rfl), less_no hn hrl (doB_mono [10]) (fun is => rfl), ?_, ?_⟩
  · refine b3 _ ⟨by rw [hl1]; exact c1.sz, fun j hj hd => ?_⟩
    by_cases e : j = n
    · subst e; unfold lessM at hd; rw [rule_set hn, if_pos rfl, hno] at hd; cases hd
    · unfold lessM at hd; rw [rule_set hn, if_neg e] at hd; exact c1.cl j (by omega) hd
  · refine b1 _ ⟨by rw [← hm1]; exact c2.sz, fun j hj hd => ?_⟩
    by_cases e : j = n
    · subst e; exact hbn
    · refine c2.cl j (by omega) ?_
      unfold moreM; rw [rule_set hn, if_neg e]; exact hd
end Go.Proofs.Ytmanpbgaihdalaa
namespace Go.Proofs.Ytmanpbgaihdalaa
open Go Dv
set_option maxRecDepth 10000
set_option linter.unusedSimpArgs false
theorem c_ThrowsMore (m : Module) (at_ : Int) : FC Try.prog 4 [.agg (encMod m), .int .u8 at_] (.bool true) := by
  refine FC_intro tok Try.func4 rfl (by decide +kernel) (Nat.le_of_ble_eq_true rfl) ?_
  refine AWp_facts 1 (fun hat => ?_)
  have hat0 : 0 ≤ at_ := hat.1
  have hat1 : at_ ≤ 255 := hat.2
  clear hat
  (repeat' first | refine AWp_seq ?_ | (refine AWp_reg tok (by rfl) ?_; conv => whnf))
  refine .inl ⟨_, _, _, uG (QC.fc c_awake12 rfl), ?_⟩
  conv => whnf
  (repeat' first | refine AWp_seq ?_ | (refine AWp_reg tok (by rfl) ?_; conv => whnf) | (refine AWp_skip ?_; conv => whnf) | (refine AWp_ret ?_; conv => whnf) | refine AWp_cond rfl (fun hb => ?_) (fun hb => ?_))
  · cases hb
  refine .inl ⟨_, _, _, uG (QC.fc (c_Short m) rfl), ?_⟩
  conv => whnf
  skip
  refine .inl ⟨_, _, _, uG (QC.fc (c_Right m) rfl), ?_⟩
  conv => whnf
  (repeat' ((fail_if_success (show AWp _ _ _ (Code.region 5 _ _) _ _)); first | refine AWp_seq ?_ | (refine AWp_reg tok (by rfl) ?_; conv => whnf) | (refine AWp_skip ?_; conv => whnf) | (refine AWp_ret ?_; conv => whnf) | refine AWp_cond rfl (fun hb => ?_) (fun hb => ?_)))
  · skip
    exact ⟨_, rfl, Rel.bool rfl⟩
  have hr : rightB m = true := by cases h : rightB m <;> cases h2 : shortB m <;> rw [h, h2] at hb <;> first | rfl | cases hb
  clear hb
  have hfl : 1 ≤ m.funcs.length ∧ m.funcs.length ≤ 16 := by
    unfold rightB at hr; rw [Bool.and_eq_true, decide_eq_true_eq] at hr; omega
  ((repeat' ((fail_if_success (show AWp _ _ _ (Code.region 6 _ _) _ _)); first | refine AWp_seq ?_ | (refine AWp_reg tok (by rfl) ?_; conv => whnf) | (refine @And.intro (underG _ _ _ _) _ ?_ ?_; rotate_left; (conv => whnf); rotate_right))); all_goals (try ((guard_target = underG _ _ _ _); refine underG_none ?_; (all_goals (try simp only [underG, true_and, and_true, Bool.cond_true_left, Bool.cond_false_left, Bool.cond_true_right, Bool.cond_false_right, Bool.or_eq_true, Bool.and_eq_true, Bool.or_eq_false_iff, Bool.and_eq_false_iff, cond_true, cond_false, Bool.not_eq_eq_eq_not, Bool.not_true, Bool.not_false, decide_eq_true_eq, decide_eq_false_iff_not, Int.toNat_natCast, Nat.zero_add, Decidable.not_not, maxL, inn_iff] at *)); all_goals omega)))
  have hn : ∃ n : Nat, n < m.funcs.length ∧ IntKind.i64.wrap ((IntKind.i64.wrap at_).tmod m.funcs.length) = n := by
    refine ⟨(at_ % m.funcs.length).toNat, ?_, ?_⟩
    · have := Int.emod_lt_of_pos at_ (b := m.funcs.length) (by omega)
      have := Int.emod_nonneg at_ (b := m.funcs.length) (by omega)
      omega
    · have h1 := Int.emod_lt_of_pos at_ (b := m.funcs.length) (by omega)
      have h2 := Int.emod_nonneg at_ (b := m.funcs.length) (by omega)
      rw [wrap64 (x := at_) (by omega) (by omega), Int.tmod_eq_emod_of_nonneg hat0, wrap64 (by omega) (by omega)]
      omega
  obtain ⟨n, hn, he⟩ := hn
  refine AWp_weak (Weak.list (tl := [(2, .bp (2, 0, 0) 0), (4, .bool false), (5, iv n)]) [((2, 0, 0), .old (2, 0, 0), boxed (encMod m))] rfl (by rfl) ?_ (.old rfl (BLe.refl _) .nil)) ?_
  · (repeat' first | exact TLes.nil | refine TLes.cons (TLe.eq rfl) ?_ | refine TLes.cons (TLe.int ?_) ?_)
    all_goals first | exact he | rfl
  clear he
  ((repeat' ((fail_if_success (show AWp _ _ _ (Code.region 8 _ _) _ _)); first | refine AWp_seq ?_ | (refine AWp_reg tok (by rfl) ?_; conv => whnf) | (refine AWp_skip ?_; conv => whnf) | (refine AWp_ret ?_; conv => whnf) | refine AWp_cond rfl (fun hb => ?_) (fun hb => ?_) | (refine @And.intro (underG _ _ _ _) _ ?_ ?_; rotate_left; (conv => whnf); rotate_right))); all_goals (try ((guard_target = underG _ _ _ _); refine underG_none ?_; (all_goals (try simp only [underG, true_and, and_true, Bool.cond_true_left, Bool.cond_false_left, Bool.cond_true_right, Bool.cond_false_right, Bool.or_eq_true, Bool.and_eq_true, Bool.or_eq_false_iff, Bool.and_eq_false_iff, cond_true, cond_false, Bool.not_eq_eq_eq_not, Bool.not_true, Bool.not_false, decide_eq_true_eq, decide_eq_false_iff_not, Int.toNat_natCast, Nat.zero_add, Decidable.not_not, maxL, inn_iff] at *)); all_goals omega)))
  · skip
    exact ⟨_, rfl, Rel.bool rfl⟩
  have hfn : funcB m (m.funcs.getD n default) = true := right_funcs hr hn
  have hF : FunP (m.funcs.getD n default) := by
    unfold funcB at hfn; rw [Bool.and_eq_true, decide_eq_true_eq] at hfn; exact hfn.1
  have hnn : (n : Int).toNat = n := Int.toNat_natCast n
  have hbl : 1 ≤ (m.funcs.getD n default).blocks.length ∧ (m.funcs.getD n default).blocks.length ≤ 64 := ⟨hF.2.2.2.2.1, hF.2.2.2.2.2.1⟩
  ((repeat' ((fail_if_success (show AWp _ _ _ (Code.region 11 _ _) _ _)); first | refine AWp_seq ?_ | (refine AWp_reg tok (by rfl) ?_; conv => whnf) | (refine @And.intro (underG _ _ _ _) _ ?_ ?_; rotate_left; (conv => whnf); rotate_right))); all_goals (try ((guard_target = underG _ _ _ _); refine underG_none ?_; (first | refine And.intro srcObl_sl ?_ | skip); (all_goals (try simp only [underG, true_and, and_true, Bool.cond_true_left, Bool.cond_false_left, Bool.cond_true_right, Bool.cond_false_right, Bool.or_eq_true, Bool.and_eq_true, Bool.or_eq_false_iff, Bool.and_eq_false_iff, cond_true, cond_false, Bool.not_eq_eq_eq_not, Bool.not_true, Bool.not_false, decide_eq_true_eq, decide_eq_false_iff_not, Int.toNat_natCast, Nat.zero_add, Decidable.not_not, maxL, inn_iff] at *)); all_goals omega)))
  refine AWp_weak (Weak.list (tl := [(2, .bp (2, 0, 0) 0), (4, .bool false), (5, iv n), (6, .bp (6, 0, 0) 0), (7, .bp (7, 0, 0) 0), (8, .rs (53, 0, 0) 14 0 (m.funcs.getD n default).blocks.length)])
    [((2, 0, 0), .old (2, 0, 0), boxed (encMod m)), ((6, 0, 0), .old (6, 0, 0), .row false 1 1 (fun _ => [.rs (39, 0, 0) 3 0 m.funcs.length])), ((39, 0, 0), .old (39, 0, 0), .row true 3 m.funcs.length (fun i => encFunc (m.funcs.getD i default))),
      ((7, 0, 0), .old (7, 0, 0), .row false 1 1 (fun _ => [.rs (44, 0, 0) 3 0 m.funcs.length])), ((44, 0, 0), .old (44, 0, 0), .row true 3 m.funcs.length (fun i => encFunc (m.funcs.getD i default))), ((53, 0, 0), .old (53, 0, 0), .row true 14 (m.funcs.getD n default).blocks.length (fun i => encBlock ((m.funcs.getD n default).blocks.getD i default)))]
    rfl (by rfl) ?_ (.old rfl (BLe.refl _) (.old rfl (BLe.rowW (Nat.le_refl _) (ltS ?_ lt0)) (.old rfl (BLe.rowW (Nat.le_of_eq (Nat.zero_add _).symm) (fun z hz => Wks.of rfl)) (.old rfl (BLe.rowW (Nat.le_refl _) (ltS ?_ lt0)) (.old rfl (BLe.rowW (Nat.le_of_eq (Nat.zero_add _).symm) (fun z hz => Wks.of rfl)) (.old rfl (BLe.rowW (Nat.le_of_eq (Nat.zero_add _).symm) (fun z hz => Wks.of rfl)) .nil))))))) ?_
  · ((repeat' first | exact TLes.nil | refine TLes.cons (TLe.eq rfl) ?_ | refine TLes.cons (TLe.rsL rfl ?_) ?_); skip)
    all_goals exact Nat.zero_add _
  · exact Wks.of (by show [AV.rs _ _ _ (0 + m.funcs.length)] = _; rw [Nat.zero_add])
  · exact Wks.of (by show [AV.rs _ _ _ (0 + m.funcs.length)] = _; rw [Nat.zero_add])
  ((repeat' ((fail_if_success (show AWp _ _ _ (Code.region 14 _ _) _ _)); first | refine AWp_seq ?_ | (refine AWp_reg tok (by rfl) ?_; conv => whnf) | (refine @And.intro (underG _ _ _ _) _ ?_ ?_; rotate_left; (conv => whnf); rotate_right))); all_goals (try ((guard_target = underG _ _ _ _); refine underG_none ?_; (all_goals (try simp only [underG, true_and, and_true, Bool.cond_true_left, Bool.cond_false_left, Bool.cond_true_right, Bool.cond_false_right, Bool.or_eq_true, Bool.and_eq_true, Bool.or_eq_false_iff, Bool.and_eq_false_iff, cond_true, cond_false, Bool.not_eq_eq_eq_not, Bool.not_true, Bool.not_false, decide_eq_true_eq, decide_eq_false_iff_not, Int.toNat_natCast, Nat.zero_add, Decidable.not_not, maxL, inn_iff] at *)); all_goals omega)))
  refine AWp_weak (Weak.fam (tl := [(2, .bp (2, 0, 0) 0), (4, .bool false), (5, iv n), (6, .bp (6, 0, 0) 0), (7, .bp (7, 0, 0) 0)]) (hl := [((2, 0, 0), boxed (encMod m)), ((6, 0, 0), .row true 1 1 (fun _ => encMod (moreM m n))), ((7, 0, 0), .row true 1 1 (fun _ => encMod (lessM m n)))]) (F := noH) [] rfl (fun i hi => by cases hi)
    (.cons (.bp rfl rfl) (.cons (.imm rfl) (.cons (.imm rfl) (.cons (.bp rfl rfl) (.cons (.bp rfl rfl) .nil))))) (.old rfl rfl (GB.one (GVs.imm rfl) (fun _ => rfl)) (.old rfl rfl (GB.one ?_ (fun _ => rfl)) (.old rfl rfl (GB.one ?_ (fun _ => rfl)) .nil))) noF (fun i hi => by cases hi)) ?_
  · refine .cons (GV.frz (hd_no rfl) rfl (Nat.le_of_eq (Nat.zero_add _)) (by simp [moreM]) (fun x hx => GVs.upd (fun e => ?_) (fun e => GVs.eqI rfl ?_)) (fun x hx => rfl)) .nil
    · obtain rfl : x = n := by simpa using e
      have h1 : (moreM m x).funcs.getD x default = moreF (m.funcs.getD x default) := by simp [moreM, getD_set, hn]
      rw [h1]
      refine .cons (GV.int (by simp [moreF])) (.cons (GV.int (by simp [moreF])) (.cons (GV.frz (hd_no rfl) rfl (Nat.le_of_eq (Nat.zero_add _)) (by simp [moreF]) (fun y hy => GVs.upd (fun e => ?_) (fun e => GVs.eqI rfl ?_)) (fun _ _ => rfl)) .nil))
      · obtain rfl : y = 0 := by simpa using e
        have h2 : (moreF (m.funcs.getD x default)).blocks.getD 0 default = { ((m.funcs.getD x default).blocks.getD 0 default) with fin := ⟨5, 0, 0, 0, [], 0, 0, 0⟩ } := by
          simp only [moreF]; rw [getD_set, if_pos ⟨rfl, by omega⟩]
        rw [h2]
        (repeat' first | exact GVs.nil | ((conv => arg 4; whnf); (conv => arg 5; whnf); first | refine GVs.cons (GV.imm rfl) ?_ | refine GVs.cons (GV.wk rfl (.nsl rfl)) ?_))
      · have h2 : (moreF (m.funcs.getD x default)).blocks.getD y default = (m.funcs.getD x default).blocks.getD y default := by
          simp only [moreF]; rw [getD_set, if_neg (fun h => e (by simp [← h.1]))]
        rw [h2]; simp
    · have h1 : (moreM m n).funcs.getD x default = m.funcs.getD x default := by
        simp only [moreM]; rw [getD_set, if_neg (fun h => e (by simp [h.1]))]
      rw [h1]; simp
  · refine .cons (GV.frz (hd_no rfl) rfl (Nat.le_of_eq (Nat.zero_add _)) (by simp [lessM]) (fun x hx => GVs.upd (fun e => ?_) (fun e => GVs.eqI rfl ?_)) (fun x hx => rfl)) .nil
    · obtain rfl : x = n := by simpa using e
      have h1 : (lessM m x).funcs.getD x default = lessF (m.funcs.getD x default) := by simp [lessM, getD_set, hn]
      rw [h1]
      refine .cons (GV.int (by simp [lessF])) (.cons (GV.int (by simp [lessF])) (.cons (GV.frz (hd_no rfl) rfl (Nat.le_refl _) rfl (ltS ?_ lt0) (fun _ _ => rfl)) .nil))
      (repeat' first | exact GVs.nil | ((conv => arg 4; whnf); (conv => arg 5; whnf); first | refine GVs.cons (GV.imm rfl) ?_ | refine GVs.cons (GV.wk rfl (.nsl rfl)) ?_))
    · have h1 : (lessM m n).funcs.getD x default = m.funcs.getD x default := by
        simp only [lessM]; rw [getD_set, if_neg (fun h => e (by simp [h.1]))]
      rw [h1]; simp
  have hreg : (m.funcs.getD n default).regs ≠ 0 := by simpa using hb
  obtain ⟨la, lb, lc, ld, le, pb, pc, pd, pe, ll1, ll2⟩ := more_law hn hr hreg
  have ca := c_tOut m
  have cb := c_tOut (moreM m n)
  have cc := c_tOut (lessM m n)
  have cd := c_Tells (lessM m n)
  have ce := c_Writes (lessM m n)
  generalize outL m = a at *
  generalize outL (moreM m n) = b at *
  generalize outL (lessM m n) = c at *
  generalize doL [12, 13] (lessM m n) = d at *
  generalize doL [10] (lessM m n) = e at *
  clear hb
  have hmax : m.funcs.length ≤ 16 := hfl.2
  (repeat' (refine AWp_any tok mix (by rfl) ?_; conv => whnf))
  refine .inl ⟨_, _, _, uG (QC.fo (rd := []) ca (Ress.imms rfl) (.inl rfl) rfl), ?_⟩
  conv => whnf
  skip
  refine .inl ⟨_, _, _, uG (QC.fo (rd := []) cb (Ress.imms rfl) (.inl rfl) rfl), ?_⟩
  conv => whnf
  skip
  refine .inl ⟨_, _, _, uG (QC.fo (rd := []) cc (Ress.imms rfl) (.inl rfl) rfl), ?_⟩
  conv => whnf
  ((repeat' first | refine AWp_seq ?_ | (refine AWp_reg tok (by rfl) ?_; conv => whnf) | (refine @And.intro (underG _ _ _ _) _ ?_ ?_; rotate_left; (conv => whnf); rotate_right)); all_goals (try ((guard_target = underG _ _ _ _); ((refine underG_some ?_; intro hgd; (conv at hgd => whnf))); (all_goals (try simp only [underG, true_and, and_true, Bool.cond_true_left, Bool.cond_false_left, Bool.cond_true_right, Bool.cond_false_right, Bool.or_eq_true, Bool.and_eq_true, Bool.or_eq_false_iff, Bool.and_eq_false_iff, cond_true, cond_false, Bool.not_eq_eq_eq_not, Bool.not_true, Bool.not_false, decide_eq_true_eq, decide_eq_false_iff_not, Int.toNat_natCast, Nat.zero_add, Decidable.not_not, maxL, inn_iff] at *)); all_goals omega)))
  all_goals (try (refine .inl ⟨_, _, _, uG (QC.fo (rd := []) cd (Ress.imms rfl) (.inl rfl) rfl), ?_⟩; conv => whnf))
  ((repeat' (refine @And.intro (underG _ _ _ _) _ ?_ ?_; rotate_left; (conv => whnf); rotate_right)); all_goals (try ((guard_target = underG _ _ _ _); ((refine underG_some ?_; intro hgd; (conv at hgd => whnf))); (all_goals (try simp only [underG, true_and, and_true, Bool.cond_true_left, Bool.cond_false_left, Bool.cond_true_right, Bool.cond_false_right, Bool.or_eq_true, Bool.and_eq_true, Bool.or_eq_false_iff, Bool.and_eq_false_iff, cond_true, cond_false, Bool.not_eq_eq_eq_not, Bool.not_true, Bool.not_false, decide_eq_true_eq, decide_eq_false_iff_not, Int.toNat_natCast, Nat.zero_add, Decidable.not_not, maxL, inn_iff] at *)); all_goals omega)))
  all_goals (try (refine .inl ⟨_, _, _, uG (QC.fo (rd := []) ce (Ress.imms rfl) (.inl rfl) rfl), ?_⟩; conv => whnf))
  ((repeat' first | refine AWp_seq ?_ | (refine AWp_reg tok (by rfl) ?_; conv => whnf) | refine AWp_block ?_ | (refine AWp_skip ?_; conv => whnf) | (refine AWp_ret ?_; conv => whnf) | refine AWp_cond rfl (fun hb => ?_) (fun hb => ?_) | (refine @And.intro (underG _ _ _ _) _ ?_ ?_; rotate_left; (conv => whnf); rotate_right)); all_goals (try ((guard_target = underG _ _ _ _); ((refine underG_some ?_; intro hgd; (conv at hgd => whnf))); (all_goals (try simp only [underG, true_and, and_true, Bool.cond_true_left, Bool.cond_false_left, Bool.cond_true_right, Bool.cond_false_right, Bool.or_eq_true, Bool.and_eq_true, Bool.or_eq_false_iff, Bool.and_eq_false_iff, cond_true, cond_false, Bool.not_eq_eq_eq_not, Bool.not_true, Bool.not_false, decide_eq_true_eq, decide_eq_false_iff_not, Int.toNat_natCast, Nat.zero_add, Decidable.not_not, maxL, inn_iff] at *)); all_goals omega)))
  · exfalso
    rw [hnn, Nat.zero_add, pb, pc, pd, pe, la, lb, lc] at hb
    simp at hb
  clear hb
  refine AWp_loop (fun i : Nat => mkS [(2, .bp (2, 0, 0) 0), (5, iv n), (9, .rs (73, 0, 0) 1 0 a.length), (10, .rs (75, 0, 0) 1 0 b.length), (11, .rs (77, 0, 0) 1 0 c.length), (12, iv i)] [((2, 0, 0), boxed (encMod m)), ((73, 0, 0), .row true 1 a.length (fun i => [.bool (a.getD i false)])), ((75, 0, 0), .row true 1 b.length (fun i => [.bool (b.getD i false)])), ((77, 0, 0), .row true 1 c.length (fun i => [.bool (c.getD i false)]))])
    (fun i => i ≤ a.length) (fun i => a.length - i) 0 (Nat.zero_le _) ?_ ?_
  · refine Weak.list [((2, 0, 0), .old (2, 0, 0), boxed (encMod m)), ((73, 0, 0), .old (73, 0, 0), .row true 1 a.length (fun i => [.bool (a.getD i false)])), ((75, 0, 0), .old (75, 0, 0), .row true 1 b.length (fun i => [.bool (b.getD i false)])), ((77, 0, 0), .old (77, 0, 0), .row true 1 c.length (fun i => [.bool (c.getD i false)]))] rfl (by rfl) ?_ (.old rfl (BLe.refl _) (.old rfl (BLe.refl _) (.old rfl (BLe.refl _) (.old rfl (BLe.refl _) .nil))))
    ((repeat' first | exact TLes.nil | refine TLes.cons (TLe.eq rfl) ?_); skip)
  intro i hi
  ((repeat' first | refine AWp_seq ?_ | (refine AWp_reg tok (by rfl) ?_; conv => whnf) | refine AWp_block ?_ | (refine AWp_skip ?_; conv => whnf) | (refine AWp_exit ?_; conv => whnf) | (refine AWp_ret ?_; conv => whnf) | refine AWp_cond rfl (fun hb => ?_) (fun hb => ?_) | (refine @And.intro (underG _ _ _ _) _ ?_ ?_; rotate_left; (conv => whnf); rotate_right)); all_goals (try ((guard_target = underG _ _ _ _); (first | refine underG_none ?_ | (refine underG_some ?_; intro hgd; (conv at hgd => whnf); (try simp (disch := omega) only [wrap64] at hgd))); (all_goals (try simp only [underG, true_and, and_true, Bool.cond_true_left, Bool.cond_false_left, Bool.cond_true_right, Bool.cond_false_right, Bool.or_eq_true, Bool.and_eq_true, Bool.or_eq_false_iff, Bool.and_eq_false_iff, cond_true, cond_false, Bool.not_eq_eq_eq_not, Bool.not_true, Bool.not_false, decide_eq_true_eq, decide_eq_false_iff_not, Int.toNat_natCast, Nat.zero_add, Decidable.not_not, maxL, inn_iff] at *)); all_goals omega)))
  · exfalso
    have h1 := ll1 i
    have h2 := ll2 i
    have hii : 0 + (i : Int).toNat = i := by simp
    rw [hii] at hb
    cases ea : a.getD i false <;> cases eb : b.getD i false <;> cases ec : c.getD i false <;> rw [ea, eb, ec] at hb <;> rw [ea] at h1 h2 <;> rw [eb] at h2 <;> rw [ec] at h1 <;> simp at hb h1 h2
  · have hlt : i < a.length := by rename_i h; simp only [underG, true_and, and_true, Bool.cond_true_left, Bool.cond_false_left, Bool.cond_true_right, Bool.cond_false_right, Bool.or_eq_true, Bool.and_eq_true, Bool.or_eq_false_iff, Bool.and_eq_false_iff, cond_true, cond_false, Bool.not_eq_eq_eq_not, Bool.not_true, Bool.not_false, decide_eq_true_eq, decide_eq_false_iff_not, Int.toNat_natCast, Nat.zero_add, Decidable.not_not, maxL, inn_iff] at *; omega
    refine ⟨i + 1, by omega, by omega, ?_⟩
    refine Weak.list [((2, 0, 0), .old (2, 0, 0), boxed (encMod m)), ((73, 0, 0), .old (73, 0, 0), .row true 1 a.length (fun i => [.bool (a.getD i false)])), ((75, 0, 0), .old (75, 0, 0), .row true 1 b.length (fun i => [.bool (b.getD i false)])), ((77, 0, 0), .old (77, 0, 0), .row true 1 c.length (fun i => [.bool (c.getD i false)]))] rfl (by rfl) ?_ (.old rfl (BLe.refl _) (.old rfl (BLe.refl _) (.old rfl (BLe.refl _) (.old rfl (BLe.refl _) .nil))))
    ((repeat' first | exact TLes.nil | refine TLes.cons (TLe.eq rfl) ?_ | refine TLes.cons (TLe.int ?_) ?_); (all_goals first | ((try (simp only [underG, true_and, and_true, Bool.cond_true_left, Bool.cond_false_left, Bool.cond_true_right, Bool.cond_false_right, Bool.or_eq_true, Bool.and_eq_true, Bool.or_eq_false_iff, Bool.and_eq_false_iff, cond_true, cond_false, Bool.not_eq_eq_eq_not, Bool.not_true, Bool.not_false, decide_eq_true_eq, decide_eq_false_iff_not, Int.toNat_natCast, Nat.zero_add, Decidable.not_not, maxL, inn_iff] at *)); exact wrap64 (by omega) (by omega)) | skip))
  · exact ⟨_, rfl, Rel.bool rfl⟩
end Go.Proofs.Ytmanpbgaihdalaa
namespace Go.Proofs.Ytmanpbgaihdalaa
open Go Dv Go.ChangeShapes Go.WideShapes Go.ChangeAt Go.RowKit
open Go.Proofs.Ytmanpbgaihdalaa
set_option maxRecDepth 100000
set_option linter.unusedVariables false
namespace throwsMore
theorem own : ownKnob Try.prog.godebug = none := by kernel_rfl
theorem contract (H : Type) (enc : TypeId × Value → H) (W : World) (base : Nat) (args : Array Value) (ds gs : List (DataW H)) (before : List MemPlace) (hk : Rows.uptoSmall H (ds ++ gs) = true)
    (hval : ∀ (j : Nat) t v, Try.f4.params[j]? = some t → args[j]? = some v → Value.okWide Try.prog W .any base t v)
    (hW : DataW.Whole enc Try.prog Try.f4.params.toList Rows.throwsMoreSpec.vars false W args.toList ds gs before) :
    Calls Try.prog 4 args W fun e W' => ∃ v, e = .returned v ∧ Rows.throwsMoreSpec.post enc Try.prog Try.f4 false true false false W args v W' := by
  have hsm := small_of hk
  have hW' := hW
  obtain ⟨p, q, hA0, hV, rfl, hfz, hnd⟩ := hW
  have hA : DataW.TrodAll enc Try.prog W 0 (fun _ => true) true Try.f4.params.toList args.toList ds p := hA0
  rw [Try.params4] at hA hval
  obtain ⟨v0, vs0, d0, ds0, p0, q0, hargs, rfl, rfl, h0, r0⟩ := trodAll_cons hA
  obtain ⟨v1, vs1, d1, ds1, p1, q1, rfl, rfl, rfl, h1, r1⟩ := trodAll_cons r0
  obtain ⟨rfl, rfl, rfl⟩ := trodAll_nil r1
  obtain rfl : args = #[v0, v1] := by cases args; simp_all
  obtain ⟨x0, hx0⟩ := arg_struct Try.underlying24 (hval 0 _ v0 rfl rfl) h0 rd_Module (hsm d0 (by simp))
  obtain ⟨x1, hx1⟩ := arg_int Try.underlying5 (hval 1 _ v1 rfl rfl) h1
  obtain ⟨rfl, rfl⟩ := trodVars_none hV
  have hb1 := hx1
  simp only [V] at hb1
  refine law_contract (tb := 4) (by decide +kernel) (by rw [Try.params4]; decide +kernel) rfl (by kernel_rfl) Try.underlying4 hW' ⟨rfl, rfl, rfl⟩ (FC.calls (c_ThrowsMore x0 x1) ?_)
  simp only [Vs]
  exact ⟨_, _, rfl, hx0, _, _, rfl, hx1, rfl⟩
theorem lifted (os : Os) (started : os.Started) (H : Type) (enc : TypeId × Value → H) (F : Stop.Interp) :
    ReturnsInHanded {} Try.checked os 4 .any ((Rows.OpenSpec.upto Rows.throwsMoreSpec).pre6 enc Try.prog Try.f4 Rows.throwsMoreUptoRow.domain false) (((Rows.OpenSpec.upto Rows.throwsMoreSpec).at F).post enc Try.prog Try.f4 false true false false) := by
  refine returnsInHanded_of_cond (C := Try.checked) (s := Rows.OpenSpec.upto Rows.throwsMoreSpec) (k := Rows.uptoSmall) rfl own started (by kernel_rfl) Try.func4
    (OpenSpec.witness (enc := enc) (C := Try.checked) (s := Rows.OpenSpec.upto Rows.throwsMoreSpec) (k := Rows.uptoSmall) rfl false ⟨#[], #[.agg #[.slice none 0 0], .int .u8 0], []⟩ 64 (by kernel_rfl) (by kernel_rfl) (by kernel_rfl)
      (x := ([.agg [.nil], .lit (.int .u8 0)], [], [])) (by kernel_rfl) rfl (by kernel_rfl)) ?_
  intro W base args ds gs before hval hW _ hk _
  exact contract H enc W base args ds gs before hk hval hW
theorem over : Rows.throwsMoreUptoRow.holds Try.pinned (Rows.OpenSpec.upto Rows.throwsMoreSpec) :=
  OpenClaim.holds_of_cond 4 Try.f4 rfl rfl rfl rfl rfl rfl rfl ⟨rfl, rfl, rfl, rfl, rfl⟩ rfl rfl rfl rfl rfl (by kernel_rfl) Try.func4 (by kernel_rfl)
    (of_decide_eq_true (by kernel_rfl)) (by unfold Func.isWrapper; first | (rw [if_pos (by decide +kernel)]; kernel_rfl) | (rw [if_neg (by decide +kernel)]; exact ⟨rfl, rfl⟩))
    (fun os started H enc _ F => lifted os started H enc F)
end throwsMore
theorem throwsMore_holds : Rows.ThrowsMoreUptoSaid := throwsMore.over
end Go.Proofs.Ytmanpbgaihdalaa
