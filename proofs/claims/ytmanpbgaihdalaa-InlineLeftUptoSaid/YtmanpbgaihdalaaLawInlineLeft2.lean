/- no call of a small function is left, but of one in itself, in a block that would be too long, or in a function that would have too many places; all ends stay -/
import Derived.Test.YtmanpbgaihdalaaDvc3
import Derived.Test.YtmanpbgaihdalaaLawInlineLeft1
import Derived.RangeFuncGives
import Derived.Maps.AppendAt
import Derived.Shelf.Abstract
import Derived.WalkKit
import Derived.OwnWalkIn
import Derived.TacticsInMore
import Derived.RegionIn
import Derived.LoopNIn
import Derived.LoopIn
set_option linter.unusedVariables false
set_option linter.unusedSimpArgs false
set_option linter.unnecessarySimpa false
namespace Go.Proofs.Ytmanpbgaihdalaa
open Go Dv
set_option maxRecDepth 10000
set_option linter.unusedSimpArgs false
/-- A looker: a module and a function of it. -/
def encL (m : Module) (f : Func) : List AV := encMod m ++ encFunc f
theorem c_IdxInt {g : FuncId} {cap : List AV} {p : Int → Bool} (hi : immDs cap = true) (hg : ∀ k, FC Try.prog g (iv k :: cap) (.bool (p k))) (l : List Int) : FC Try.prog 163 [ints l, .fn g cap] (iv (idxG p l)) := by
  refine FC_intro tok Try.func163 rfl (by decide +kernel) (Nat.le_of_ble_eq_true rfl) ?_
  refine AWp_facts 0 (fun hl => ?_)
  have hl0 : l.length ≤ maxL := hl.1
  (repeat' first | refine AWp_seq ?_ | (refine AWp_reg tok (by rfl) ?_; conv => whnf) | refine AWp_block ?_)
  refine AWp_loop (fun i : Nat => mkS [(0, ints l), (1, .fn g cap), (7, iv l.length), (8, iv i)] [])
    (fun i => i ≤ l.length ∧ ∀ j, j < i → p (l.getD j 0) = false) (fun i => l.length - i) 0 ⟨Nat.zero_le _, by simp⟩ ?_ ?_
  · refine Weak.list [] rfl (by rfl) ?_ .nil
    ((repeat' first | exact TLes.nil | refine TLes.cons (TLe.eq rfl) ?_ | refine TLes.cons (TLe.fn (by assumption)) ?_); skip)
  rintro i ⟨hi2, hc⟩
  ((repeat' first | refine AWp_seq ?_ | (refine AWp_reg tok (by rfl) ?_; conv => whnf) | refine AWp_block ?_ | (refine AWp_skip ?_; conv => whnf) | (refine AWp_exit ?_; conv => whnf) | (refine AWp_ret ?_; conv => whnf) | (refine (forceL_eq _ _).mpr ?_; conv => whnf) | refine AWp_cond rfl (fun hb => ?_) (fun hb => ?_) | (refine @And.intro (underG _ _ _ _) _ ?_ ?_; rotate_left; (conv => whnf); rotate_right)); all_goals (try ((guard_target = underG _ _ _ _); refine underG_none ?_; (all_goals (try simp only [underG, true_and, and_true, Bool.cond_true_left, Bool.cond_false_left, Bool.cond_true_right, Bool.cond_false_right, Bool.or_eq_true, Bool.and_eq_true, Bool.or_eq_false_iff, Bool.and_eq_false_iff, cond_true, cond_false, Bool.not_eq_eq_eq_not, Bool.not_true, Bool.not_false, decide_eq_true_eq, decide_eq_false_iff_not, Int.toNat_natCast, Nat.zero_add, Decidable.not_not, maxL, inn_iff] at *)); all_goals omega)))
  · have hlt : i < l.length := by simp only [underG, true_and, and_true, Bool.cond_true_left, Bool.cond_false_left, Bool.cond_true_right, Bool.cond_false_right, Bool.or_eq_true, Bool.and_eq_true, Bool.or_eq_false_iff, Bool.and_eq_false_iff, cond_true, cond_false, Bool.not_eq_eq_eq_not, Bool.not_true, Bool.not_false, decide_eq_true_eq, decide_eq_false_iff_not, Int.toNat_natCast, Nat.zero_add, Decidable.not_not, maxL, inn_iff] at *; omega
    refine .inl ⟨_, _, _, uG (QC.fc (hg _) (immDs_app (xs := [_]) rfl hi)), ?_⟩
    conv => whnf
    (repeat' first | refine AWp_seq ?_ | (refine AWp_reg tok (by rfl) ?_; conv => whnf) | (refine AWp_skip ?_; conv => whnf) | (refine AWp_ret ?_; conv => whnf) | refine AWp_cond rfl (fun hb => ?_) (fun hb => ?_))
    · refine ⟨_, rfl, Rel.int ?_⟩
      exact (idxG_at 0 hlt hc (by simpa using hb)).symm
    · refine ⟨i + 1, ⟨hlt, fun j hj => ?_⟩, by omega, ?_⟩
      · by_cases e : j = i
        · subst e; simpa using hb
        · exact hc j (by omega)
      refine Weak.list [] rfl (by rfl) ?_ .nil
      ((repeat' first | exact TLes.nil | refine TLes.cons (TLe.eq rfl) ?_ | refine TLes.cons (TLe.int ?_) ?_ | refine TLes.cons (TLe.fn (by assumption)) ?_); (all_goals first | ((try (simp only [underG, true_and, and_true, Bool.cond_true_left, Bool.cond_false_left, Bool.cond_true_right, Bool.cond_false_right, Bool.or_eq_true, Bool.and_eq_true, Bool.or_eq_false_iff, Bool.and_eq_false_iff, cond_true, cond_false, Bool.not_eq_eq_eq_not, Bool.not_true, Bool.not_false, decide_eq_true_eq, decide_eq_false_iff_not, Int.toNat_natCast, Nat.zero_add, Decidable.not_not, maxL, inn_iff] at *)); exact wrap64 (by omega) (by omega)) | skip))
  · refine ⟨_, rfl, Rel.int ?_⟩
    exact (idxG_none 0 (fun j hj => hc j (by simp only [underG, true_and, and_true, Bool.cond_true_left, Bool.cond_false_left, Bool.cond_true_right, Bool.cond_false_right, Bool.or_eq_true, Bool.and_eq_true, Bool.or_eq_false_iff, Bool.and_eq_false_iff, cond_true, cond_false, Bool.not_eq_eq_eq_not, Bool.not_true, Bool.not_false, decide_eq_true_eq, decide_eq_false_iff_not, Int.toNat_natCast, Nat.zero_add, Decidable.not_not, maxL, inn_iff] at *; omega))).symm
theorem c_HasInt {g : FuncId} {cap : List AV} {p : Int → Bool} (hi : immDs cap = true) (hg : ∀ k, FC Try.prog g (iv k :: cap) (.bool (p k))) (l : List Int) : FC Try.prog 178 [ints l, .fn g cap] (.bool (l.any p)) := by
  refine FC_intro tok Try.func178 rfl (by decide +kernel) (Nat.le_of_ble_eq_true rfl) ?_
  (repeat' first | refine AWp_seq ?_ | (refine AWp_reg tok (by rfl) ?_; conv => whnf) | (refine (forceL_eq _ _).mpr ?_; conv => whnf))
  refine .inl ⟨_, _, _, uG (QC.fc (c_IdxInt hi hg l) (show immDs [ints l, AV.fn g cap] = true from by simp [immDs, immD, ints, hi])), ?_⟩
  conv => whnf
  (repeat' (refine AWp_ret ?_; conv => whnf))
  refine ⟨_, rfl, Rel.bool ?_⟩
  rw [← idxG_any]
theorem c_place (m : Module) (f : Func) (n : Int) : FC Try.prog 167 [.agg (encL m f), iv n] (.bool (inn n f.regs)) := by
  refine FC_intro tok Try.func167 rfl (by decide +kernel) (Nat.le_of_ble_eq_true rfl) ?_
  (repeat' first | refine AWp_seq ?_ | (refine AWp_reg tok (by rfl) ?_; conv => whnf) | (refine AWp_ret ?_; conv => whnf))
  exact ⟨_, rfl, Rel.imm rfl⟩
theorem c_lgoal (m : Module) (f : Func) (n : Int) : FC Try.prog 169 [.agg (encL m f), iv n] (.bool (goalB f n)) := by
  refine FC_intro tok Try.func169 rfl (by decide +kernel) (Nat.le_of_ble_eq_true rfl) ?_
  ((repeat' first | refine AWp_seq ?_ | (refine AWp_reg tok (by rfl) ?_; conv => whnf) | (refine AWp_ret ?_; conv => whnf) | (refine @And.intro (underG _ _ _ _) _ ?_ ?_; rotate_left; (conv => whnf); rotate_right)); all_goals (try ((guard_target = underG _ _ _ _); ((refine underG_some ?_; intro hgd; (conv at hgd => whnf))); (all_goals (try simp only [underG, true_and, and_true, Bool.cond_true_left, Bool.cond_false_left, Bool.cond_true_right, Bool.cond_false_right, Bool.or_eq_true, Bool.and_eq_true, Bool.or_eq_false_iff, Bool.and_eq_false_iff, cond_true, cond_false, Bool.not_eq_eq_eq_not, Bool.not_true, Bool.not_false, decide_eq_true_eq, decide_eq_false_iff_not, Int.toNat_natCast, Nat.zero_add, Decidable.not_not, maxL, inn_iff] at *)); all_goals omega)))
  exact ⟨_, rfl, Rel.imm rfl⟩
def landB (f : Func) (n : Int) : Bool := bif inn n f.blocks.length then (f.blocks.getD n.toNat default).landing else false
theorem c_landing (m : Module) (f : Func) (n : Int) : FC Try.prog 171 [.agg (encL m f), iv n] (.bool (landB f n)) := by
  refine FC_intro tok Try.func171 rfl (by decide +kernel) (Nat.le_of_ble_eq_true rfl) ?_
  ((repeat' first | refine AWp_seq ?_ | (refine AWp_reg tok (by rfl) ?_; conv => whnf) | (refine AWp_ret ?_; conv => whnf) | (refine @And.intro (underG _ _ _ _) _ ?_ ?_; rotate_left; (conv => whnf); rotate_right)); all_goals (try ((guard_target = underG _ _ _ _); ((refine underG_some ?_; intro hgd; (conv at hgd => whnf))); (all_goals (try simp only [underG, true_and, and_true, Bool.cond_true_left, Bool.cond_false_left, Bool.cond_true_right, Bool.cond_false_right, Bool.or_eq_true, Bool.and_eq_true, Bool.or_eq_false_iff, Bool.and_eq_false_iff, cond_true, cond_false, Bool.not_eq_eq_eq_not, Bool.not_true, Bool.not_false, decide_eq_true_eq, decide_eq_false_iff_not, Int.toNat_natCast, Nat.zero_add, Decidable.not_not, maxL, inn_iff] at *)); all_goals omega)))
  exact ⟨_, rfl, Rel.imm rfl⟩
theorem c_call1 (m : Module) (f : Func) (k : Int) : FC Try.prog 179 [iv k, .ip (encL m f)] (.bool (!inn k f.regs)) := by
  refine FC_intro tok Try.func179 rfl (by decide +kernel) (Nat.le_of_ble_eq_true rfl) ?_
  (repeat' first | refine AWp_seq ?_ | (refine AWp_reg tok (by rfl) ?_; conv => whnf))
  refine .inl ⟨_, _, _, uG (QC.fc (c_place m f k) rfl), ?_⟩
  conv => whnf
  (repeat' (refine AWp_ret ?_; conv => whnf))
  exact ⟨_, rfl, Rel.imm rfl⟩
theorem c_lcall (m : Module) (f : Func) (n : Int) (l : List Int) : FC Try.prog 170 [.agg (encL m f), iv n, ints l] (.bool (argsB m f n l)) := by
  refine FC_intro tok Try.func170 rfl (by decide +kernel) (Nat.le_of_ble_eq_true rfl) ?_
  ((repeat' first | refine AWp_seq ?_ | (refine AWp_reg tok (by rfl) ?_; conv => whnf) | (refine AWp_skip ?_; conv => whnf) | (refine AWp_ret ?_; conv => whnf) | refine AWp_cond rfl (fun hb => ?_) (fun hb => ?_) | (refine @And.intro (underG _ _ _ _) _ ?_ ?_; rotate_left; (conv => whnf); rotate_right)); all_goals (try ((guard_target = underG _ _ _ _); ((refine underG_some ?_; intro hgd; (conv at hgd => whnf))); (all_goals (try simp only [underG, true_and, and_true, Bool.cond_true_left, Bool.cond_false_left, Bool.cond_true_right, Bool.cond_false_right, Bool.or_eq_true, Bool.and_eq_true, Bool.or_eq_false_iff, Bool.and_eq_false_iff, cond_true, cond_false, Bool.not_eq_eq_eq_not, Bool.not_true, Bool.not_false, decide_eq_true_eq, decide_eq_false_iff_not, Int.toNat_natCast, Nat.zero_add, Decidable.not_not, maxL, inn_iff] at *)); all_goals omega)))
  · refine ⟨_, rfl, Rel.bool ?_⟩
    unfold argsB inn
    by_cases h0 : n < 0
    · rw [decide_eq_false (show ¬ 0 ≤ n by omega)]; rfl
    · by_cases h1 : (m.funcs.length : Int) ≤ n
      · rw [decide_eq_false (show ¬ n < (m.funcs.length : Int) by omega)]; cases decide (0 ≤ n) <;> rfl
      · rw [decide_eq_false h0, decide_eq_false h1] at hb
        simp only [cond_false, Bool.not_eq_eq_eq_not, Bool.not_true] at hb
        rw [hb]; cases decide (0 ≤ n) <;> cases decide (n < (m.funcs.length : Int)) <;> rfl
  have hh := c_HasInt (g := 179) (cap := [.ip (encL m f)]) (p := fun k => !inn k f.regs) rfl (fun k => c_call1 m f k) l
  refine .inl ⟨_, _, _, uG (QC.sc (rd := [freshD (some 3)]) hh (.cons (.imm rfl) (.cons (.fn (.cons (.ip rfl (List.mem_singleton.2 rfl) (by decide) (Ress.imms rfl)) .nil)) .nil)) rfl), ?_⟩
  conv => whnf
  (repeat' (refine AWp_ret ?_; conv => whnf))
  refine ⟨_, rfl, Rel.bool ?_⟩
  have h0 : ¬ n < 0 := by intro h0; rw [decide_eq_true h0] at hb; cases hb
  rw [decide_eq_false h0] at hb
  have h1 : ¬ (m.funcs.length : Int) ≤ n := by intro h1; rw [decide_eq_true h1] at hb; cases hb
  rw [decide_eq_false h1] at hb
  simp only [cond_false, Bool.not_eq_eq_eq_not, Bool.not_false] at hb
  unfold argsB
  rw [show inn n m.funcs.length = true from (inn_iff _ _).2 ⟨by omega, by omega⟩, hb]
  simp only [cond_true]
  rw [List.not_any_eq_all_not]
  simp
end Go.Proofs.Ytmanpbgaihdalaa
namespace Go.Proofs.Ytmanpbgaihdalaa
open Go Dv
set_option maxRecDepth 10000
set_option linter.unusedSimpArgs false
theorem c_EqualI (l k : List Int) : FC Try.prog 180 [ints l, ints k] (.bool (decide (l = k))) := by
  refine FC_intro tok Try.func180 rfl (by decide +kernel) (Nat.le_of_ble_eq_true rfl) ?_
  refine AWp_facts 0 (fun hl => ?_)
  have hl0 : l.length ≤ maxL := hl.1
  (repeat' first | refine AWp_seq ?_ | (refine AWp_reg tok (by rfl) ?_; conv => whnf) | refine AWp_block ?_ | (refine AWp_skip ?_; conv => whnf) | (refine AWp_ret ?_; conv => whnf) | refine AWp_cond rfl (fun hb => ?_) (fun hb => ?_))
  · refine ⟨_, rfl, Rel.bool ?_⟩
    simp only [underG, true_and, and_true, Bool.cond_true_left, Bool.cond_false_left, Bool.cond_true_right, Bool.cond_false_right, Bool.or_eq_true, Bool.and_eq_true, Bool.or_eq_false_iff, Bool.and_eq_false_iff, cond_true, cond_false, Bool.not_eq_eq_eq_not, Bool.not_true, Bool.not_false, decide_eq_true_eq, decide_eq_false_iff_not, Int.toNat_natCast, Nat.zero_add, Decidable.not_not, maxL, inn_iff] at *
    symm; rw [decide_eq_false_iff_not]
    intro e; rw [e] at hb; exact hb rfl
  have hlen : l.length = k.length := by simp only [underG, true_and, and_true, Bool.cond_true_left, Bool.cond_false_left, Bool.cond_true_right, Bool.cond_false_right, Bool.or_eq_true, Bool.and_eq_true, Bool.or_eq_false_iff, Bool.and_eq_false_iff, cond_true, cond_false, Bool.not_eq_eq_eq_not, Bool.not_true, Bool.not_false, decide_eq_true_eq, decide_eq_false_iff_not, Int.toNat_natCast, Nat.zero_add, Decidable.not_not, maxL, inn_iff] at *; omega
  refine AWp_loop (fun i : Nat => mkS [(0, ints l), (1, ints k), (4, .bool false), (12, iv l.length), (13, iv i)] []) (fun i => i ≤ l.length ∧ ∀ j, j < i → l.getD j 0 = k.getD j 0) (fun i => l.length - i) 0 ⟨Nat.zero_le _, by simp⟩ ?_ ?_
  · refine Weak.list [] rfl (by rfl) ?_ .nil
    ((repeat' first | exact TLes.nil | refine TLes.cons (TLe.eq rfl) ?_); skip)
  rintro i ⟨hi, hc⟩
  ((repeat' first | refine AWp_seq ?_ | (refine AWp_reg tok (by rfl) ?_; conv => whnf) | (refine AWp_any tok mix (by rfl) ?_; conv => whnf) | refine AWp_block ?_ | (refine AWp_skip ?_; conv => whnf) | (refine AWp_exit ?_; conv => whnf) | (refine AWp_ret ?_; conv => whnf) | refine AWp_cond rfl (fun hb => ?_) (fun hb => ?_) | (refine @And.intro (underG _ _ _ _) _ ?_ ?_; rotate_left; (conv => whnf); rotate_right)); all_goals (try ((guard_target = underG _ _ _ _); refine underG_none ?_; (all_goals (try simp only [underG, true_and, and_true, Bool.cond_true_left, Bool.cond_false_left, Bool.cond_true_right, Bool.cond_false_right, Bool.or_eq_true, Bool.and_eq_true, Bool.or_eq_false_iff, Bool.and_eq_false_iff, cond_true, cond_false, Bool.not_eq_eq_eq_not, Bool.not_true, Bool.not_false, decide_eq_true_eq, decide_eq_false_iff_not, Int.toNat_natCast, Nat.zero_add, Decidable.not_not, maxL, inn_iff] at *)); all_goals omega)))
  all_goals simp only [underG, true_and, and_true, Bool.cond_true_left, Bool.cond_false_left, Bool.cond_true_right, Bool.cond_false_right, Bool.or_eq_true, Bool.and_eq_true, Bool.or_eq_false_iff, Bool.and_eq_false_iff, cond_true, cond_false, Bool.not_eq_eq_eq_not, Bool.not_true, Bool.not_false, decide_eq_true_eq, decide_eq_false_iff_not, Int.toNat_natCast, Nat.zero_add, Decidable.not_not, maxL, inn_iff] at *
  · refine ⟨_, rfl, Rel.bool ?_⟩
    symm; rw [decide_eq_false_iff_not]
    intro e; subst e; exact hb rfl
  · refine ⟨i + 1, ⟨by omega, fun j hj => ?_⟩, by omega, ?_⟩
    · by_cases e : j = i
      · subst e; exact hb
      · exact hc j (by omega)
    refine Weak.list [] rfl (by rfl) ?_ .nil
    ((repeat' first | exact TLes.nil | refine TLes.cons (TLe.eq rfl) ?_ | refine TLes.cons (TLe.int ?_) ?_); (all_goals first | (exact wrap64 (by omega) (by omega)) | skip))
  · refine ⟨_, rfl, Rel.bool ?_⟩
    symm; rw [decide_eq_true_eq]
    exact list_ext_getD 0 hlen (fun j hj => hc j (by omega))
theorem c_EqualU (l k : List Int) : FC Try.prog 174 [u16s l, u16s k] (.bool (decide (l = k))) := by
  refine FC_intro tok Try.func174 rfl (by decide +kernel) (Nat.le_of_ble_eq_true rfl) ?_
  refine AWp_facts 0 (fun hl => ?_)
  have hl0 : l.length ≤ maxL := hl.1
  (repeat' first | refine AWp_seq ?_ | (refine AWp_reg tok (by rfl) ?_; conv => whnf) | refine AWp_block ?_ | (refine AWp_skip ?_; conv => whnf) | (refine AWp_ret ?_; conv => whnf) | refine AWp_cond rfl (fun hb => ?_) (fun hb => ?_))
  · refine ⟨_, rfl, Rel.bool ?_⟩
    simp only [underG, true_and, and_true, Bool.cond_true_left, Bool.cond_false_left, Bool.cond_true_right, Bool.cond_false_right, Bool.or_eq_true, Bool.and_eq_true, Bool.or_eq_false_iff, Bool.and_eq_false_iff, cond_true, cond_false, Bool.not_eq_eq_eq_not, Bool.not_true, Bool.not_false, decide_eq_true_eq, decide_eq_false_iff_not, Int.toNat_natCast, Nat.zero_add, Decidable.not_not, maxL, inn_iff] at *
    symm; rw [decide_eq_false_iff_not]
    intro e; rw [e] at hb; exact hb rfl
  have hlen : l.length = k.length := by simp only [underG, true_and, and_true, Bool.cond_true_left, Bool.cond_false_left, Bool.cond_true_right, Bool.cond_false_right, Bool.or_eq_true, Bool.and_eq_true, Bool.or_eq_false_iff, Bool.and_eq_false_iff, cond_true, cond_false, Bool.not_eq_eq_eq_not, Bool.not_true, Bool.not_false, decide_eq_true_eq, decide_eq_false_iff_not, Int.toNat_natCast, Nat.zero_add, Decidable.not_not, maxL, inn_iff] at *; omega
  refine AWp_loop (fun i : Nat => mkS [(0, u16s l), (1, u16s k), (4, .bool false), (12, iv l.length), (13, iv i)] []) (fun i => i ≤ l.length ∧ ∀ j, j < i → l.getD j 0 = k.getD j 0) (fun i => l.length - i) 0 ⟨Nat.zero_le _, by simp⟩ ?_ ?_
  · refine Weak.list [] rfl (by rfl) ?_ .nil
    ((repeat' first | exact TLes.nil | refine TLes.cons (TLe.eq rfl) ?_); skip)
  rintro i ⟨hi, hc⟩
  ((repeat' first | refine AWp_seq ?_ | (refine AWp_reg tok (by rfl) ?_; conv => whnf) | (refine AWp_any tok mix (by rfl) ?_; conv => whnf) | refine AWp_block ?_ | (refine AWp_skip ?_; conv => whnf) | (refine AWp_exit ?_; conv => whnf) | (refine AWp_ret ?_; conv => whnf) | refine AWp_cond rfl (fun hb => ?_) (fun hb => ?_) | (refine @And.intro (underG _ _ _ _) _ ?_ ?_; rotate_left; (conv => whnf); rotate_right)); all_goals (try ((guard_target = underG _ _ _ _); refine underG_none ?_; (all_goals (try simp only [underG, true_and, and_true, Bool.cond_true_left, Bool.cond_false_left, Bool.cond_true_right, Bool.cond_false_right, Bool.or_eq_true, Bool.and_eq_true, Bool.or_eq_false_iff, Bool.and_eq_false_iff, cond_true, cond_false, Bool.not_eq_eq_eq_not, Bool.not_true, Bool.not_false, decide_eq_true_eq, decide_eq_false_iff_not, Int.toNat_natCast, Nat.zero_add, Decidable.not_not, maxL, inn_iff] at *)); all_goals omega)))
  all_goals simp only [underG, true_and, and_true, Bool.cond_true_left, Bool.cond_false_left, Bool.cond_true_right, Bool.cond_false_right, Bool.or_eq_true, Bool.and_eq_true, Bool.or_eq_false_iff, Bool.and_eq_false_iff, cond_true, cond_false, Bool.not_eq_eq_eq_not, Bool.not_true, Bool.not_false, decide_eq_true_eq, decide_eq_false_iff_not, Int.toNat_natCast, Nat.zero_add, Decidable.not_not, maxL, inn_iff] at *
  · refine ⟨_, rfl, Rel.bool ?_⟩
    symm; rw [decide_eq_false_iff_not]
    intro e; subst e; exact hb rfl
  · refine ⟨i + 1, ⟨by omega, fun j hj => ?_⟩, by omega, ?_⟩
    · by_cases e : j = i
      · subst e; exact hb
      · exact hc j (by omega)
    refine Weak.list [] rfl (by rfl) ?_ .nil
    ((repeat' first | exact TLes.nil | refine TLes.cons (TLe.eq rfl) ?_ | refine TLes.cons (TLe.int ?_) ?_); (all_goals first | (exact wrap64 (by omega) (by omega)) | skip))
  · refine ⟨_, rfl, Rel.bool ?_⟩
    symm; rw [decide_eq_true_eq]
    exact list_ext_getD 0 hlen (fun j hj => hc j (by omega))
theorem c_sameIns (x y : Ins) : FC Try.prog 173 [.agg (encIns x), .agg (encIns y)] (.bool (decide (x = y))) := by
  refine FC_intro tok Try.func173 rfl (by decide +kernel) (Nat.le_of_ble_eq_true rfl) ?_
  (repeat' first | refine AWp_seq ?_ | (refine AWp_reg tok (by rfl) ?_; conv => whnf))
  refine .inl ⟨_, _, _, uG (QC.fc (c_EqualI x.args y.args) rfl), ?_⟩
  conv => whnf
  (repeat' (refine AWp_ret ?_; conv => whnf))
  refine ⟨_, rfl, Rel.bool ?_⟩
  obtain ⟨a1, a2, a3, a4, a5, a6, a7⟩ := x
  obtain ⟨b1, b2, b3, b4, b5, b6, b7⟩ := y
  rw [Bool.eq_iff_iff]
  simp [and_assoc]
theorem c_sameEnd (x y : End) : FC Try.prog 172 [.agg (encEnd x), .agg (encEnd y)] (.bool (decide (x = y))) := by
  refine FC_intro tok Try.func172 rfl (by decide +kernel) (Nat.le_of_ble_eq_true rfl) ?_
  (repeat' first | refine AWp_seq ?_ | (refine AWp_reg tok (by rfl) ?_; conv => whnf))
  refine .inl ⟨_, _, _, uG (QC.fc (c_EqualI x.args y.args) rfl), ?_⟩
  conv => whnf
  (repeat' (refine AWp_ret ?_; conv => whnf))
  refine ⟨_, rfl, Rel.bool ?_⟩
  obtain ⟨a1, a2, a3, a4, a5, a6, a7, a8⟩ := x
  obtain ⟨b1, b2, b3, b4, b5, b6, b7, b8⟩ := y
  rw [Bool.eq_iff_iff]
  simp [and_assoc]
theorem c_samePad (x y : Pad) : FC Try.prog 164 [.agg (encPad x), .agg (encPad y)] (.bool (decide (x = y))) := by
  refine FC_intro tok Try.func164 rfl (by decide +kernel) (Nat.le_of_ble_eq_true rfl) ?_
  (repeat' first | refine AWp_seq ?_ | (refine AWp_reg tok (by rfl) ?_; conv => whnf))
  refine .inl ⟨_, _, _, uG (QC.fc (c_EqualU x.catch_ y.catch_) rfl), ?_⟩
  conv => whnf
  (repeat' (refine AWp_ret ?_; conv => whnf))
  refine ⟨_, rfl, Rel.bool ?_⟩
  obtain ⟨a1, a2, a3, a4⟩ := x
  obtain ⟨b1, b2, b3, b4⟩ := y
  rw [Bool.eq_iff_iff]
  simp [and_assoc]
end Go.Proofs.Ytmanpbgaihdalaa
namespace Go.Proofs.Ytmanpbgaihdalaa
open Go Dv
set_option maxRecDepth 10000
set_option linter.unusedSimpArgs false
theorem ins_eq (u x : Ins) : u = x ↔ x.op = u.op ∧ x.dst = u.dst ∧ x.a = u.a ∧ x.b = u.b ∧ x.k = u.k ∧ x.f = u.f ∧ x.args = u.args := by
  rw [eq_comm (a := u)]; cases u; cases x; simp
set_option maxHeartbeats 4000000 in
theorem c_lins (m : Module) (f : Func) (x : Ins) : FC Try.prog 159 [.agg (encL m f), .agg (encIns x)] (.bool (decide (InsP m f x))) := by
  refine FC_intro tok Try.func159 rfl (by decide +kernel) (Nat.le_of_ble_eq_true rfl) ?_
  (repeat' ((fail_if_success (show AWp _ _ _ (Code.region 3 _ _) _ _)); first | refine AWp_seq ?_ | (refine AWp_reg tok (by rfl) ?_; conv => whnf)))
  refine AWp_reg tok (by rfl) ?_
  conv => whnf
  refine AWp_meet (fun q : Ins × Bool => mkS [(2, .bp (2, 0, 0) 0), (3, .bp (3, 0, 0) 0), (4, .bool false), (5, .bp (5, 0, 0) 0), (6, .bool q.2)] [((2, 0, 0), boxed (encL m f)), ((3, 0, 0), boxed (encIns x)), ((5, 0, 0), .row true 7 1 (fun _ => encIns q.1))]) (fun q => (q.2 && decide (q.1 = x)) = decide (InsP m f x)) ?_ ?_
  · (repeat' first | refine AWp_seq ?_ | (refine AWp_reg tok (by rfl) ?_; conv => whnf) | (refine AWp_any tok mix (by rfl) ?_; conv => whnf) | refine AWp_block ?_ | (refine AWp_skip ?_; conv => whnf) | (refine AWp_ret ?_; conv => whnf) | refine AWp_cond rfl (fun hb => ?_) (fun hb => ?_))
    all_goals (try (exfalso; simp only [decide_eq_true_eq, decide_eq_false_iff_not] at *; omega))
    all_goals (repeat' first | (refine .inl ⟨_, _, _, uG (QC.fc (c_place m f x.dst) rfl), ?_⟩; conv => whnf) | (refine .inl ⟨_, _, _, uG (QC.fc (c_place m f x.a) rfl), ?_⟩; conv => whnf) | (refine .inl ⟨_, _, _, uG (QC.fc (c_place m f x.b) rfl), ?_⟩; conv => whnf) | (refine .inl ⟨_, _, _, uG (QC.fc (c_lcall m f x.f x.args) rfl), ?_⟩; conv => whnf))
    skip
    all_goals (have hop := hb; simp only [decide_eq_true_eq, decide_eq_false_iff_not] at hop)
    all_goals (try (first | (refine ⟨(⟨x.op, x.dst, 0, 0, x.k, 0, []⟩, inn x.dst f.regs), ?hp, Weak.list [((2, 0, 0), .old (2, 0, 0), boxed (encL m f)), ((3, 0, 0), .old (3, 0, 0), boxed (encIns x)), ((5, 0, 0), .old (5, 0, 0), .row true 7 1 (fun _ => encIns ⟨x.op, x.dst, 0, 0, x.k, 0, []⟩))] rfl (by rfl) (.cons (.eq rfl) (.cons (.eq rfl) (.cons (.eq rfl) (.cons (.eq rfl) (.cons (.eq rfl) .nil))))) (.old rfl (BLe.refl _) (.old rfl (BLe.refl _) (.old rfl (BLe.rowW (Nat.le_refl _) (fun z hz => ?row)) .nil)))⟩; (case row => (match z, hz with | 0, _ => (repeat' ((conv => arg 1; whnf); (conv => arg 2; whnf); first | refine Wks.cons .refl ?_ | refine Wks.cons (.nsl rfl) ?_ | exact Wks.nil)))); (case hp => (rw [Bool.eq_iff_iff]; simp [InsP, ins_eq, hop, and_assoc, and_comm, and_left_comm]; done))) | (refine ⟨(⟨x.op, x.dst, x.a, 0, 0, 0, []⟩, bif inn x.dst f.regs then inn x.a f.regs else false), ?hp, Weak.list [((2, 0, 0), .old (2, 0, 0), boxed (encL m f)), ((3, 0, 0), .old (3, 0, 0), boxed (encIns x)), ((5, 0, 0), .old (5, 0, 0), .row true 7 1 (fun _ => encIns ⟨x.op, x.dst, x.a, 0, 0, 0, []⟩))] rfl (by rfl) (.cons (.eq rfl) (.cons (.eq rfl) (.cons (.eq rfl) (.cons (.eq rfl) (.cons (.eq rfl) .nil))))) (.old rfl (BLe.refl _) (.old rfl (BLe.refl _) (.old rfl (BLe.rowW (Nat.le_refl _) (fun z hz => ?row)) .nil)))⟩; (case row => (match z, hz with | 0, _ => (repeat' ((conv => arg 1; whnf); (conv => arg 2; whnf); first | refine Wks.cons .refl ?_ | refine Wks.cons (.nsl rfl) ?_ | exact Wks.nil)))); (case hp => (rw [Bool.eq_iff_iff]; simp [InsP, ins_eq, hop, and_assoc, and_comm, and_left_comm]; done))) | (refine ⟨(⟨x.op, x.dst, x.a, x.b, 0, 0, []⟩, bif bif inn x.dst f.regs then inn x.a f.regs else false then inn x.b f.regs else false), ?hp, Weak.list [((2, 0, 0), .old (2, 0, 0), boxed (encL m f)), ((3, 0, 0), .old (3, 0, 0), boxed (encIns x)), ((5, 0, 0), .old (5, 0, 0), .row true 7 1 (fun _ => encIns ⟨x.op, x.dst, x.a, x.b, 0, 0, []⟩))] rfl (by rfl) (.cons (.eq rfl) (.cons (.eq rfl) (.cons (.eq rfl) (.cons (.eq rfl) (.cons (.eq rfl) .nil))))) (.old rfl (BLe.refl _) (.old rfl (BLe.refl _) (.old rfl (BLe.rowW (Nat.le_refl _) (fun z hz => ?row)) .nil)))⟩; (case row => (match z, hz with | 0, _ => (repeat' ((conv => arg 1; whnf); (conv => arg 2; whnf); first | refine Wks.cons .refl ?_ | refine Wks.cons (.nsl rfl) ?_ | exact Wks.nil)))); (case hp => (rw [Bool.eq_iff_iff]; simp [InsP, ins_eq, hop, and_assoc, and_comm, and_left_comm]; done))) | (refine ⟨(⟨x.op, 0, x.a, x.b, 0, 0, []⟩, bif inn x.a f.regs then inn x.b f.regs else false), ?hp, Weak.list [((2, 0, 0), .old (2, 0, 0), boxed (encL m f)), ((3, 0, 0), .old (3, 0, 0), boxed (encIns x)), ((5, 0, 0), .old (5, 0, 0), .row true 7 1 (fun _ => encIns ⟨x.op, 0, x.a, x.b, 0, 0, []⟩))] rfl (by rfl) (.cons (.eq rfl) (.cons (.eq rfl) (.cons (.eq rfl) (.cons (.eq rfl) (.cons (.eq rfl) .nil))))) (.old rfl (BLe.refl _) (.old rfl (BLe.refl _) (.old rfl (BLe.rowW (Nat.le_refl _) (fun z hz => ?row)) .nil)))⟩; (case row => (match z, hz with | 0, _ => (repeat' ((conv => arg 1; whnf); (conv => arg 2; whnf); first | refine Wks.cons .refl ?_ | refine Wks.cons (.nsl rfl) ?_ | exact Wks.nil)))); (case hp => (rw [Bool.eq_iff_iff]; simp [InsP, ins_eq, hop, and_assoc, and_comm, and_left_comm]; done))) | (refine ⟨(⟨x.op, x.dst, 0, 0, 0, x.f, x.args⟩, bif inn x.dst f.regs then argsB m f x.f x.args else false), ?hp, Weak.list [((2, 0, 0), .old (2, 0, 0), boxed (encL m f)), ((3, 0, 0), .old (3, 0, 0), boxed (encIns x)), ((5, 0, 0), .old (5, 0, 0), .row true 7 1 (fun _ => encIns ⟨x.op, x.dst, 0, 0, 0, x.f, x.args⟩))] rfl (by rfl) (.cons (.eq rfl) (.cons (.eq rfl) (.cons (.eq rfl) (.cons (.eq rfl) (.cons (.eq rfl) .nil))))) (.old rfl (BLe.refl _) (.old rfl (BLe.refl _) (.old rfl (BLe.rowW (Nat.le_refl _) (fun z hz => ?row)) .nil)))⟩; (case row => (match z, hz with | 0, _ => (repeat' ((conv => arg 1; whnf); (conv => arg 2; whnf); first | refine Wks.cons .refl ?_ | exact Wks.nil)))); (case hp => (rw [Bool.eq_iff_iff]; simp [InsP, ins_eq, hop, and_assoc, and_comm, and_left_comm]; done))) | (refine ⟨(⟨x.op, 0, x.a, 0, 0, 0, []⟩, inn x.a f.regs), ?hp, Weak.list [((2, 0, 0), .old (2, 0, 0), boxed (encL m f)), ((3, 0, 0), .old (3, 0, 0), boxed (encIns x)), ((5, 0, 0), .old (5, 0, 0), .row true 7 1 (fun _ => encIns ⟨x.op, 0, x.a, 0, 0, 0, []⟩))] rfl (by rfl) (.cons (.eq rfl) (.cons (.eq rfl) (.cons (.eq rfl) (.cons (.eq rfl) (.cons (.eq rfl) .nil))))) (.old rfl (BLe.refl _) (.old rfl (BLe.refl _) (.old rfl (BLe.rowW (Nat.le_refl _) (fun z hz => ?row)) .nil)))⟩; (case row => (match z, hz with | 0, _ => (repeat' ((conv => arg 1; whnf); (conv => arg 2; whnf); first | refine Wks.cons .refl ?_ | refine Wks.cons (.nsl rfl) ?_ | exact Wks.nil)))); (case hp => (rw [Bool.eq_iff_iff]; simp [InsP, ins_eq, hop, and_assoc, and_comm, and_left_comm]; done))) | (refine ⟨(⟨x.op, x.dst, 0, 0, 0, 0, []⟩, inn x.dst f.regs), ?hp, Weak.list [((2, 0, 0), .old (2, 0, 0), boxed (encL m f)), ((3, 0, 0), .old (3, 0, 0), boxed (encIns x)), ((5, 0, 0), .old (5, 0, 0), .row true 7 1 (fun _ => encIns ⟨x.op, x.dst, 0, 0, 0, 0, []⟩))] rfl (by rfl) (.cons (.eq rfl) (.cons (.eq rfl) (.cons (.eq rfl) (.cons (.eq rfl) (.cons (.eq rfl) .nil))))) (.old rfl (BLe.refl _) (.old rfl (BLe.refl _) (.old rfl (BLe.rowW (Nat.le_refl _) (fun z hz => ?row)) .nil)))⟩; (case row => (match z, hz with | 0, _ => (repeat' ((conv => arg 1; whnf); (conv => arg 2; whnf); first | refine Wks.cons .refl ?_ | refine Wks.cons (.nsl rfl) ?_ | exact Wks.nil)))); (case hp => (rw [Bool.eq_iff_iff]; simp [InsP, ins_eq, hop, and_assoc, and_comm, and_left_comm]; done)))))
    refine ⟨_, rfl, Rel.bool ?_⟩
    simp only [decide_eq_true_eq, decide_eq_false_iff_not] at *
    symm; rw [decide_eq_false_iff_not]
    rintro (h | h | h | h | h | h | h) <;> omega
  rintro q hq τ hτ
  refine AWp_weak hτ ?_
  conv => whnf
  (repeat' first | refine AWp_seq ?_ | (refine AWp_reg tok (by rfl) ?_; conv => whnf))
  refine .inl ⟨_, _, _, uG (QC.fc (c_sameIns q.1 x) rfl), ?_⟩
  conv => whnf
  (repeat' (refine AWp_ret ?_; conv => whnf))
  refine ⟨_, rfl, Rel.bool ?_⟩
  rw [← hq]
  cases q.2 <;> rfl
end Go.Proofs.Ytmanpbgaihdalaa
namespace Go.Proofs.Ytmanpbgaihdalaa
open Go Dv
set_option maxRecDepth 10000
set_option linter.unusedSimpArgs false
theorem end_eq (u x : End) : u = x ↔ x.kind = u.kind ∧ x.a = u.a ∧ x.dst = u.dst ∧ x.f = u.f ∧ x.args = u.args ∧ x.to = u.to ∧ x.els = u.els ∧ x.pad = u.pad := by
  rw [eq_comm (a := u)]; cases u; cases x; simp
set_option maxHeartbeats 4000000 in
theorem c_lend (m : Module) (f : Func) (x : End) : FC Try.prog 157 [.agg (encL m f), .agg (encEnd x)] (.bool (decide (EndP m f x))) := by
  refine FC_intro tok Try.func157 rfl (by decide +kernel) (Nat.le_of_ble_eq_true rfl) ?_
  (repeat' ((fail_if_success (show AWp _ _ _ (Code.region 3 _ _) _ _)); first | refine AWp_seq ?_ | (refine AWp_reg tok (by rfl) ?_; conv => whnf)))
  refine AWp_reg tok (by rfl) ?_
  conv => whnf
  refine AWp_meet (fun q : End × Bool => mkS [(2, .bp (2, 0, 0) 0), (3, .bp (3, 0, 0) 0), (4, .bool false), (5, .bp (5, 0, 0) 0), (6, .bool q.2)] [((2, 0, 0), boxed (encL m f)), ((3, 0, 0), boxed (encEnd x)), ((5, 0, 0), .row true 8 1 (fun _ => encEnd q.1))]) (fun q => (q.2 && decide (q.1 = x)) = decide (EndP m f x)) ?_ ?_
  · (repeat' first | refine AWp_seq ?_ | (refine AWp_reg tok (by rfl) ?_; conv => whnf) | (refine AWp_any tok mix (by rfl) ?_; conv => whnf) | refine AWp_block ?_ | (refine AWp_skip ?_; conv => whnf) | (refine AWp_ret ?_; conv => whnf) | refine AWp_cond rfl (fun hb => ?_) (fun hb => ?_))
    all_goals (try (exfalso; simp only [decide_eq_true_eq, decide_eq_false_iff_not] at *; omega))
    all_goals (repeat' first | (refine .inl ⟨_, _, _, uG (QC.fc (c_place m f x.dst) rfl), ?_⟩; conv => whnf) | (refine .inl ⟨_, _, _, uG (QC.fc (c_place m f x.a) rfl), ?_⟩; conv => whnf) | (refine .inl ⟨_, _, _, uG (QC.fc (c_lgoal m f x.to) rfl), ?_⟩; conv => whnf) | (refine .inl ⟨_, _, _, uG (QC.fc (c_lgoal m f x.els) rfl), ?_⟩; conv => whnf) | (refine .inl ⟨_, _, _, uG (QC.fc (c_landing m f x.pad) rfl), ?_⟩; conv => whnf) | (refine .inl ⟨_, _, _, uG (QC.fc (c_lcall m f x.f x.args) rfl), ?_⟩; conv => whnf))
    skip
    all_goals (have hop := hb; simp only [decide_eq_true_eq, decide_eq_false_iff_not] at hop)
    all_goals (try (first | (refine ⟨(⟨x.kind, x.a, 0, 0, [], 0, 0, 0⟩, inn x.a f.regs), ?hp, Weak.list [((2, 0, 0), .old (2, 0, 0), boxed (encL m f)), ((3, 0, 0), .old (3, 0, 0), boxed (encEnd x)), ((5, 0, 0), .old (5, 0, 0), .row true 8 1 (fun _ => encEnd ⟨x.kind, x.a, 0, 0, [], 0, 0, 0⟩))] rfl (by rfl) (.cons (.eq rfl) (.cons (.eq rfl) (.cons (.eq rfl) (.cons (.eq rfl) (.cons (.eq rfl) .nil))))) (.old rfl (BLe.refl _) (.old rfl (BLe.refl _) (.old rfl (BLe.rowW (Nat.le_refl _) (fun z hz => ?row)) .nil)))⟩; (case row => (match z, hz with | 0, _ => (repeat' ((conv => arg 1; whnf); (conv => arg 2; whnf); first | refine Wks.cons .refl ?_ | refine Wks.cons (.nsl rfl) ?_ | exact Wks.nil)))); (case hp => (rw [Bool.eq_iff_iff]; simp [EndP, end_eq, hop, landB, and_assoc, and_comm, and_left_comm]; done))) | (refine ⟨(⟨x.kind, 0, 0, 0, [], x.to, 0, 0⟩, goalB f x.to), ?hp, Weak.list [((2, 0, 0), .old (2, 0, 0), boxed (encL m f)), ((3, 0, 0), .old (3, 0, 0), boxed (encEnd x)), ((5, 0, 0), .old (5, 0, 0), .row true 8 1 (fun _ => encEnd ⟨x.kind, 0, 0, 0, [], x.to, 0, 0⟩))] rfl (by rfl) (.cons (.eq rfl) (.cons (.eq rfl) (.cons (.eq rfl) (.cons (.eq rfl) (.cons (.eq rfl) .nil))))) (.old rfl (BLe.refl _) (.old rfl (BLe.refl _) (.old rfl (BLe.rowW (Nat.le_refl _) (fun z hz => ?row)) .nil)))⟩; (case row => (match z, hz with | 0, _ => (repeat' ((conv => arg 1; whnf); (conv => arg 2; whnf); first | refine Wks.cons .refl ?_ | refine Wks.cons (.nsl rfl) ?_ | exact Wks.nil)))); (case hp => (rw [Bool.eq_iff_iff]; simp [EndP, end_eq, hop, landB, and_assoc, and_comm, and_left_comm]; done))) | (refine ⟨(⟨x.kind, x.a, 0, 0, [], x.to, x.els, 0⟩, bif bif inn x.a f.regs then goalB f x.to else false then goalB f x.els else false), ?hp, Weak.list [((2, 0, 0), .old (2, 0, 0), boxed (encL m f)), ((3, 0, 0), .old (3, 0, 0), boxed (encEnd x)), ((5, 0, 0), .old (5, 0, 0), .row true 8 1 (fun _ => encEnd ⟨x.kind, x.a, 0, 0, [], x.to, x.els, 0⟩))] rfl (by rfl) (.cons (.eq rfl) (.cons (.eq rfl) (.cons (.eq rfl) (.cons (.eq rfl) (.cons (.eq rfl) .nil))))) (.old rfl (BLe.refl _) (.old rfl (BLe.refl _) (.old rfl (BLe.rowW (Nat.le_refl _) (fun z hz => ?row)) .nil)))⟩; (case row => (match z, hz with | 0, _ => (repeat' ((conv => arg 1; whnf); (conv => arg 2; whnf); first | refine Wks.cons .refl ?_ | refine Wks.cons (.nsl rfl) ?_ | exact Wks.nil)))); (case hp => (rw [Bool.eq_iff_iff]; simp [EndP, end_eq, hop, landB, and_assoc, and_comm, and_left_comm]; done))) | (refine ⟨(⟨x.kind, 0, x.dst, x.f, x.args, x.to, 0, x.pad⟩, bif bif bif inn x.dst f.regs then argsB m f x.f x.args else false then goalB f x.to else false then landB f x.pad else false), ?hp, Weak.list [((2, 0, 0), .old (2, 0, 0), boxed (encL m f)), ((3, 0, 0), .old (3, 0, 0), boxed (encEnd x)), ((5, 0, 0), .old (5, 0, 0), .row true 8 1 (fun _ => encEnd ⟨x.kind, 0, x.dst, x.f, x.args, x.to, 0, x.pad⟩))] rfl (by rfl) (.cons (.eq rfl) (.cons (.eq rfl) (.cons (.eq rfl) (.cons (.eq rfl) (.cons (.eq rfl) .nil))))) (.old rfl (BLe.refl _) (.old rfl (BLe.refl _) (.old rfl (BLe.rowW (Nat.le_refl _) (fun z hz => ?row)) .nil)))⟩; (case row => (match z, hz with | 0, _ => (repeat' ((conv => arg 1; whnf); (conv => arg 2; whnf); first | refine Wks.cons .refl ?_ | exact Wks.nil)))); (case hp => (rw [Bool.eq_iff_iff]; simp [EndP, end_eq, hop, landB, and_assoc, and_comm, and_left_comm]; done))) | (refine ⟨(⟨x.kind, 0, 0, 0, [], 0, 0, 0⟩, true), ?hp, Weak.list [((2, 0, 0), .old (2, 0, 0), boxed (encL m f)), ((3, 0, 0), .old (3, 0, 0), boxed (encEnd x)), ((5, 0, 0), .old (5, 0, 0), .row true 8 1 (fun _ => encEnd ⟨x.kind, 0, 0, 0, [], 0, 0, 0⟩))] rfl (by rfl) (.cons (.eq rfl) (.cons (.eq rfl) (.cons (.eq rfl) (.cons (.eq rfl) (.cons (.eq rfl) .nil))))) (.old rfl (BLe.refl _) (.old rfl (BLe.refl _) (.old rfl (BLe.rowW (Nat.le_refl _) (fun z hz => ?row)) .nil)))⟩; (case row => (match z, hz with | 0, _ => (repeat' ((conv => arg 1; whnf); (conv => arg 2; whnf); first | refine Wks.cons .refl ?_ | refine Wks.cons (.nsl rfl) ?_ | exact Wks.nil)))); (case hp => (rw [Bool.eq_iff_iff]; simp [EndP, end_eq, hop, landB, and_assoc, and_comm, and_left_comm]; done)))))
    refine ⟨_, rfl, Rel.bool ?_⟩
    simp only [decide_eq_true_eq, decide_eq_false_iff_not] at *
    symm; rw [decide_eq_false_iff_not]
    rintro (h | h | h | h | h) <;> omega
  rintro q hq τ hτ
  refine AWp_weak hτ ?_
  conv => whnf
  (repeat' first | refine AWp_seq ?_ | (refine AWp_reg tok (by rfl) ?_; conv => whnf))
  refine .inl ⟨_, _, _, uG (QC.fc (c_sameEnd q.1 x) rfl), ?_⟩
  conv => whnf
  (repeat' (refine AWp_ret ?_; conv => whnf))
  refine ⟨_, rfl, Rel.bool ?_⟩
  rw [← hq]
  cases q.2 <;> rfl
end Go.Proofs.Ytmanpbgaihdalaa
namespace Go.Proofs.Ytmanpbgaihdalaa
open Go Dv
set_option maxRecDepth 10000
set_option linter.unusedSimpArgs false
theorem c_IdxInsM {g : FuncId} {cap : List AV} {p : Ins → Bool} (hi : immDs cap = true) (l : List Ins) (hg : ∀ i, i < l.length → FC Try.prog g (.agg (encIns (l.getD i default)) :: cap) (.bool (p (l.getD i default)))) : FC Try.prog 122 [inss l, .fn g cap] (iv (idxG p l)) := by
  refine FC_intro tok Try.func122 rfl (by decide +kernel) (Nat.le_of_ble_eq_true rfl) ?_
  refine AWp_facts 0 (fun hl => ?_)
  have hl0 : l.length ≤ maxL := hl.1
  (repeat' first | refine AWp_seq ?_ | (refine AWp_reg tok (by rfl) ?_; conv => whnf) | refine AWp_block ?_)
  refine AWp_loop (fun i : Nat => mkS [(0, inss l), (1, .fn g cap), (7, iv l.length), (8, iv i)] [])
    (fun i => i ≤ l.length ∧ ∀ j, j < i → p (l.getD j default) = false) (fun i => l.length - i) 0 ⟨Nat.zero_le _, by simp⟩ ?_ ?_
  · refine Weak.list [] rfl (by rfl) ?_ .nil
    ((repeat' first | exact TLes.nil | refine TLes.cons (TLe.eq rfl) ?_ | refine TLes.cons (TLe.fn (by assumption)) ?_); skip)
  rintro i ⟨hi2, hc⟩
  ((repeat' first | refine AWp_seq ?_ | (refine AWp_reg tok (by rfl) ?_; conv => whnf) | refine AWp_block ?_ | (refine AWp_skip ?_; conv => whnf) | (refine AWp_exit ?_; conv => whnf) | (refine AWp_ret ?_; conv => whnf) | (refine (forceL_eq _ _).mpr ?_; conv => whnf) | refine AWp_cond rfl (fun hb => ?_) (fun hb => ?_) | (refine @And.intro (underG _ _ _ _) _ ?_ ?_; rotate_left; (conv => whnf); rotate_right)); all_goals (try ((guard_target = underG _ _ _ _); refine underG_none ?_; (all_goals (try simp only [underG, true_and, and_true, Bool.cond_true_left, Bool.cond_false_left, Bool.cond_true_right, Bool.cond_false_right, Bool.or_eq_true, Bool.and_eq_true, Bool.or_eq_false_iff, Bool.and_eq_false_iff, cond_true, cond_false, Bool.not_eq_eq_eq_not, Bool.not_true, Bool.not_false, decide_eq_true_eq, decide_eq_false_iff_not, Int.toNat_natCast, Nat.zero_add, Decidable.not_not, maxL, inn_iff] at *)); all_goals omega)))
  · have hlt : i < l.length := by simp only [underG, true_and, and_true, Bool.cond_true_left, Bool.cond_false_left, Bool.cond_true_right, Bool.cond_false_right, Bool.or_eq_true, Bool.and_eq_true, Bool.or_eq_false_iff, Bool.and_eq_false_iff, cond_true, cond_false, Bool.not_eq_eq_eq_not, Bool.not_true, Bool.not_false, decide_eq_true_eq, decide_eq_false_iff_not, Int.toNat_natCast, Nat.zero_add, Decidable.not_not, maxL, inn_iff] at *; omega
    refine .inl ⟨_, _, _, uG (QC.fc (hg (i : Int).toNat hlt) (immDs_app (xs := [.agg (encIns (l.getD (i : Int).toNat default))]) rfl hi)), ?_⟩
    conv => whnf
    (repeat' first | refine AWp_seq ?_ | (refine AWp_reg tok (by rfl) ?_; conv => whnf) | (refine AWp_skip ?_; conv => whnf) | (refine AWp_ret ?_; conv => whnf) | refine AWp_cond rfl (fun hb => ?_) (fun hb => ?_))
    · refine ⟨_, rfl, Rel.int ?_⟩
      exact (idxG_at default hlt hc (by simpa using hb)).symm
    · refine ⟨i + 1, ⟨hlt, fun j hj => ?_⟩, by omega, ?_⟩
      · by_cases e : j = i
        · subst e; simpa using hb
        · exact hc j (by omega)
      refine Weak.list [] rfl (by rfl) ?_ .nil
      ((repeat' first | exact TLes.nil | refine TLes.cons (TLe.eq rfl) ?_ | refine TLes.cons (TLe.int ?_) ?_ | refine TLes.cons (TLe.fn (by assumption)) ?_); (all_goals first | ((try (simp only [underG, true_and, and_true, Bool.cond_true_left, Bool.cond_false_left, Bool.cond_true_right, Bool.cond_false_right, Bool.or_eq_true, Bool.and_eq_true, Bool.or_eq_false_iff, Bool.and_eq_false_iff, cond_true, cond_false, Bool.not_eq_eq_eq_not, Bool.not_true, Bool.not_false, decide_eq_true_eq, decide_eq_false_iff_not, Int.toNat_natCast, Nat.zero_add, Decidable.not_not, maxL, inn_iff] at *)); exact wrap64 (by omega) (by omega)) | skip))
  · refine ⟨_, rfl, Rel.int ?_⟩
    exact (idxG_none default (fun j hj => hc j (by simp only [underG, true_and, and_true, Bool.cond_true_left, Bool.cond_false_left, Bool.cond_true_right, Bool.cond_false_right, Bool.or_eq_true, Bool.and_eq_true, Bool.or_eq_false_iff, Bool.and_eq_false_iff, cond_true, cond_false, Bool.not_eq_eq_eq_not, Bool.not_true, Bool.not_false, decide_eq_true_eq, decide_eq_false_iff_not, Int.toNat_natCast, Nat.zero_add, Decidable.not_not, maxL, inn_iff] at *; omega))).symm
theorem c_HasInsM {g : FuncId} {cap : List AV} {p : Ins → Bool} (hi : immDs cap = true) (l : List Ins) (hg : ∀ i, i < l.length → FC Try.prog g (.agg (encIns (l.getD i default)) :: cap) (.bool (p (l.getD i default)))) : FC Try.prog 85 [inss l, .fn g cap] (.bool (l.any p)) := by
  refine FC_intro tok Try.func85 rfl (by decide +kernel) (Nat.le_of_ble_eq_true rfl) ?_
  (repeat' first | refine AWp_seq ?_ | (refine AWp_reg tok (by rfl) ?_; conv => whnf) | (refine (forceL_eq _ _).mpr ?_; conv => whnf))
  refine .inl ⟨_, _, _, uG (QC.fc (c_IdxInsM hi l hg) (show immDs [inss l, AV.fn g cap] = true from by simp [immDs, immD, inss, hi])), ?_⟩
  conv => whnf
  (repeat' (refine AWp_ret ?_; conv => whnf))
  refine ⟨_, rfl, Rel.bool ?_⟩
  rw [← idxG_any]
theorem c_IdxBlockM {g : FuncId} {cap : List AV} {p : Block → Bool} (hi : immDs cap = true) (l : List Block) (hg : ∀ i, i < l.length → FC Try.prog g (.agg (encBlock (l.getD i default)) :: cap) (.bool (p (l.getD i default)))) : FC Try.prog 137 [blockss l, .fn g cap] (iv (idxG p l)) := by
  refine FC_intro tok Try.func137 rfl (by decide +kernel) (Nat.le_of_ble_eq_true rfl) ?_
  refine AWp_facts 0 (fun hl => ?_)
  have hl0 : l.length ≤ maxL := hl.1
  (repeat' first | refine AWp_seq ?_ | (refine AWp_reg tok (by rfl) ?_; conv => whnf) | refine AWp_block ?_)
  refine AWp_loop (fun i : Nat => mkS [(0, blockss l), (1, .fn g cap), (7, iv l.length), (8, iv i)] [])
    (fun i => i ≤ l.length ∧ ∀ j, j < i → p (l.getD j default) = false) (fun i => l.length - i) 0 ⟨Nat.zero_le _, by simp⟩ ?_ ?_
  · refine Weak.list [] rfl (by rfl) ?_ .nil
    ((repeat' first | exact TLes.nil | refine TLes.cons (TLe.eq rfl) ?_ | refine TLes.cons (TLe.fn (by assumption)) ?_); skip)
  rintro i ⟨hi2, hc⟩
  ((repeat' first | refine AWp_seq ?_ | (refine AWp_reg tok (by rfl) ?_; conv => whnf) | refine AWp_block ?_ | (refine AWp_skip ?_; conv => whnf) | (refine AWp_exit ?_; conv => whnf) | (refine AWp_ret ?_; conv => whnf) | (refine (forceL_eq _ _).mpr ?_; conv => whnf) | refine AWp_cond rfl (fun hb => ?_) (fun hb => ?_) | (refine @And.intro (underG _ _ _ _) _ ?_ ?_; rotate_left; (conv => whnf); rotate_right)); all_goals (try ((guard_target = underG _ _ _ _); refine underG_none ?_; (all_goals (try simp only [underG, true_and, and_true, Bool.cond_true_left, Bool.cond_false_left, Bool.cond_true_right, Bool.cond_false_right, Bool.or_eq_true, Bool.and_eq_true, Bool.or_eq_false_iff, Bool.and_eq_false_iff, cond_true, cond_false, Bool.not_eq_eq_eq_not, Bool.not_true, Bool.not_false, decide_eq_true_eq, decide_eq_false_iff_not, Int.toNat_natCast, Nat.zero_add, Decidable.not_not, maxL, inn_iff] at *)); all_goals omega)))
  · have hlt : i < l.length := by simp only [underG, true_and, and_true, Bool.cond_true_left, Bool.cond_false_left, Bool.cond_true_right, Bool.cond_false_right, Bool.or_eq_true, Bool.and_eq_true, Bool.or_eq_false_iff, Bool.and_eq_false_iff, cond_true, cond_false, Bool.not_eq_eq_eq_not, Bool.not_true, Bool.not_false, decide_eq_true_eq, decide_eq_false_iff_not, Int.toNat_natCast, Nat.zero_add, Decidable.not_not, maxL, inn_iff] at *; omega
    refine .inl ⟨_, _, _, uG (QC.fc (hg (i : Int).toNat hlt) (immDs_app (xs := [.agg (encBlock (l.getD (i : Int).toNat default))]) rfl hi)), ?_⟩
    conv => whnf
    (repeat' first | refine AWp_seq ?_ | (refine AWp_reg tok (by rfl) ?_; conv => whnf) | (refine AWp_skip ?_; conv => whnf) | (refine AWp_ret ?_; conv => whnf) | refine AWp_cond rfl (fun hb => ?_) (fun hb => ?_))
    · refine ⟨_, rfl, Rel.int ?_⟩
      exact (idxG_at default hlt hc (by simpa using hb)).symm
    · refine ⟨i + 1, ⟨hlt, fun j hj => ?_⟩, by omega, ?_⟩
      · by_cases e : j = i
        · subst e; simpa using hb
        · exact hc j (by omega)
      refine Weak.list [] rfl (by rfl) ?_ .nil
      ((repeat' first | exact TLes.nil | refine TLes.cons (TLe.eq rfl) ?_ | refine TLes.cons (TLe.int ?_) ?_ | refine TLes.cons (TLe.fn (by assumption)) ?_); (all_goals first | ((try (simp only [underG, true_and, and_true, Bool.cond_true_left, Bool.cond_false_left, Bool.cond_true_right, Bool.cond_false_right, Bool.or_eq_true, Bool.and_eq_true, Bool.or_eq_false_iff, Bool.and_eq_false_iff, cond_true, cond_false, Bool.not_eq_eq_eq_not, Bool.not_true, Bool.not_false, decide_eq_true_eq, decide_eq_false_iff_not, Int.toNat_natCast, Nat.zero_add, Decidable.not_not, maxL, inn_iff] at *)); exact wrap64 (by omega) (by omega)) | skip))
  · refine ⟨_, rfl, Rel.int ?_⟩
    exact (idxG_none default (fun j hj => hc j (by simp only [underG, true_and, and_true, Bool.cond_true_left, Bool.cond_false_left, Bool.cond_true_right, Bool.cond_false_right, Bool.or_eq_true, Bool.and_eq_true, Bool.or_eq_false_iff, Bool.and_eq_false_iff, cond_true, cond_false, Bool.not_eq_eq_eq_not, Bool.not_true, Bool.not_false, decide_eq_true_eq, decide_eq_false_iff_not, Int.toNat_natCast, Nat.zero_add, Decidable.not_not, maxL, inn_iff] at *; omega))).symm
theorem c_HasBlockM {g : FuncId} {cap : List AV} {p : Block → Bool} (hi : immDs cap = true) (l : List Block) (hg : ∀ i, i < l.length → FC Try.prog g (.agg (encBlock (l.getD i default)) :: cap) (.bool (p (l.getD i default)))) : FC Try.prog 108 [blockss l, .fn g cap] (.bool (l.any p)) := by
  refine FC_intro tok Try.func108 rfl (by decide +kernel) (Nat.le_of_ble_eq_true rfl) ?_
  (repeat' first | refine AWp_seq ?_ | (refine AWp_reg tok (by rfl) ?_; conv => whnf) | (refine (forceL_eq _ _).mpr ?_; conv => whnf))
  refine .inl ⟨_, _, _, uG (QC.fc (c_IdxBlockM hi l hg) (show immDs [blockss l, AV.fn g cap] = true from by simp [immDs, immD, blockss, hi])), ?_⟩
  conv => whnf
  (repeat' (refine AWp_ret ?_; conv => whnf))
  refine ⟨_, rfl, Rel.bool ?_⟩
  rw [← idxG_any]
theorem c_IdxFuncM {g : FuncId} {cap : List AV} {p : Func → Bool} (hi : immDs cap = true) (l : List Func) (hg : ∀ i, i < l.length → FC Try.prog g (.agg (encFunc (l.getD i default)) :: cap) (.bool (p (l.getD i default)))) : FC Try.prog 128 [funcss l, .fn g cap] (iv (idxG p l)) := by
  refine FC_intro tok Try.func128 rfl (by decide +kernel) (Nat.le_of_ble_eq_true rfl) ?_
  refine AWp_facts 0 (fun hl => ?_)
  have hl0 : l.length ≤ maxL := hl.1
  (repeat' first | refine AWp_seq ?_ | (refine AWp_reg tok (by rfl) ?_; conv => whnf) | refine AWp_block ?_)
  refine AWp_loop (fun i : Nat => mkS [(0, funcss l), (1, .fn g cap), (7, iv l.length), (8, iv i)] [])
    (fun i => i ≤ l.length ∧ ∀ j, j < i → p (l.getD j default) = false) (fun i => l.length - i) 0 ⟨Nat.zero_le _, by simp⟩ ?_ ?_
  · refine Weak.list [] rfl (by rfl) ?_ .nil
    ((repeat' first | exact TLes.nil | refine TLes.cons (TLe.eq rfl) ?_ | refine TLes.cons (TLe.fn (by assumption)) ?_); skip)
  rintro i ⟨hi2, hc⟩
  ((repeat' first | refine AWp_seq ?_ | (refine AWp_reg tok (by rfl) ?_; conv => whnf) | refine AWp_block ?_ | (refine AWp_skip ?_; conv => whnf) | (refine AWp_exit ?_; conv => whnf) | (refine AWp_ret ?_; conv => whnf) | (refine (forceL_eq _ _).mpr ?_; conv => whnf) | refine AWp_cond rfl (fun hb => ?_) (fun hb => ?_) | (refine @And.intro (underG _ _ _ _) _ ?_ ?_; rotate_left; (conv => whnf); rotate_right)); all_goals (try ((guard_target = underG _ _ _ _); refine underG_none ?_; (all_goals (try simp only [underG, true_and, and_true, Bool.cond_true_left, Bool.cond_false_left, Bool.cond_true_right, Bool.cond_false_right, Bool.or_eq_true, Bool.and_eq_true, Bool.or_eq_false_iff, Bool.and_eq_false_iff, cond_true, cond_false, Bool.not_eq_eq_eq_not, Bool.not_true, Bool.not_false, decide_eq_true_eq, decide_eq_false_iff_not, Int.toNat_natCast, Nat.zero_add, Decidable.not_not, maxL, inn_iff] at *)); all_goals omega)))
  · have hlt : i < l.length := by simp only [underG, true_and, and_true, Bool.cond_true_left, Bool.cond_false_left, Bool.cond_true_right, Bool.cond_false_right, Bool.or_eq_true, Bool.and_eq_true, Bool.or_eq_false_iff, Bool.and_eq_false_iff, cond_true, cond_false, Bool.not_eq_eq_eq_not, Bool.not_true, Bool.not_false, decide_eq_true_eq, decide_eq_false_iff_not, Int.toNat_natCast, Nat.zero_add, Decidable.not_not, maxL, inn_iff] at *; omega
    refine .inl ⟨_, _, _, uG (QC.fc (hg (i : Int).toNat hlt) (immDs_app (xs := [.agg (encFunc (l.getD (i : Int).toNat default))]) rfl hi)), ?_⟩
    conv => whnf
    (repeat' first | refine AWp_seq ?_ | (refine AWp_reg tok (by rfl) ?_; conv => whnf) | (refine AWp_skip ?_; conv => whnf) | (refine AWp_ret ?_; conv => whnf) | refine AWp_cond rfl (fun hb => ?_) (fun hb => ?_))
    · refine ⟨_, rfl, Rel.int ?_⟩
      exact (idxG_at default hlt hc (by simpa using hb)).symm
    · refine ⟨i + 1, ⟨hlt, fun j hj => ?_⟩, by omega, ?_⟩
      · by_cases e : j = i
        · subst e; simpa using hb
        · exact hc j (by omega)
      refine Weak.list [] rfl (by rfl) ?_ .nil
      ((repeat' first | exact TLes.nil | refine TLes.cons (TLe.eq rfl) ?_ | refine TLes.cons (TLe.int ?_) ?_ | refine TLes.cons (TLe.fn (by assumption)) ?_); (all_goals first | ((try (simp only [underG, true_and, and_true, Bool.cond_true_left, Bool.cond_false_left, Bool.cond_true_right, Bool.cond_false_right, Bool.or_eq_true, Bool.and_eq_true, Bool.or_eq_false_iff, Bool.and_eq_false_iff, cond_true, cond_false, Bool.not_eq_eq_eq_not, Bool.not_true, Bool.not_false, decide_eq_true_eq, decide_eq_false_iff_not, Int.toNat_natCast, Nat.zero_add, Decidable.not_not, maxL, inn_iff] at *)); exact wrap64 (by omega) (by omega)) | skip))
  · refine ⟨_, rfl, Rel.int ?_⟩
    exact (idxG_none default (fun j hj => hc j (by simp only [underG, true_and, and_true, Bool.cond_true_left, Bool.cond_false_left, Bool.cond_true_right, Bool.cond_false_right, Bool.or_eq_true, Bool.and_eq_true, Bool.or_eq_false_iff, Bool.and_eq_false_iff, cond_true, cond_false, Bool.not_eq_eq_eq_not, Bool.not_true, Bool.not_false, decide_eq_true_eq, decide_eq_false_iff_not, Int.toNat_natCast, Nat.zero_add, Decidable.not_not, maxL, inn_iff] at *; omega))).symm
theorem c_HasFuncM {g : FuncId} {cap : List AV} {p : Func → Bool} (hi : immDs cap = true) (l : List Func) (hg : ∀ i, i < l.length → FC Try.prog g (.agg (encFunc (l.getD i default)) :: cap) (.bool (p (l.getD i default)))) : FC Try.prog 103 [funcss l, .fn g cap] (.bool (l.any p)) := by
  refine FC_intro tok Try.func103 rfl (by decide +kernel) (Nat.le_of_ble_eq_true rfl) ?_
  (repeat' first | refine AWp_seq ?_ | (refine AWp_reg tok (by rfl) ?_; conv => whnf) | (refine (forceL_eq _ _).mpr ?_; conv => whnf))
  refine .inl ⟨_, _, _, uG (QC.fc (c_IdxFuncM hi l hg) (show immDs [funcss l, AV.fn g cap] = true from by simp [immDs, immD, funcss, hi])), ?_⟩
  conv => whnf
  (repeat' (refine AWp_ret ?_; conv => whnf))
  refine ⟨_, rfl, Rel.bool ?_⟩
  rw [← idxG_any]
theorem c_HasIns {g : FuncId} {cap : List AV} {p : Ins → Bool} (hi : immDs cap = true) (hg : ∀ x, FC Try.prog g (.agg (encIns x) :: cap) (.bool (p x))) (l : List Ins) : FC Try.prog 85 [inss l, .fn g cap] (.bool (l.any p)) := c_HasInsM hi l (fun i _ => hg _)
theorem c_HasBlock {g : FuncId} {cap : List AV} {p : Block → Bool} (hi : immDs cap = true) (hg : ∀ x, FC Try.prog g (.agg (encBlock x) :: cap) (.bool (p x))) (l : List Block) : FC Try.prog 108 [blockss l, .fn g cap] (.bool (l.any p)) := c_HasBlockM hi l (fun i _ => hg _)
theorem c_HasFunc {g : FuncId} {cap : List AV} {p : Func → Bool} (hi : immDs cap = true) (hg : ∀ x, FC Try.prog g (.agg (encFunc x) :: cap) (.bool (p x))) (l : List Func) : FC Try.prog 103 [funcss l, .fn g cap] (.bool (l.any p)) := c_HasFuncM hi l (fun i _ => hg _)
end Go.Proofs.Ytmanpbgaihdalaa
namespace Go.Proofs.Ytmanpbgaihdalaa
open Go Dv
set_option maxRecDepth 10000
set_option linter.unusedSimpArgs false
theorem c_lblk1 (m : Module) (f : Func) (x : Ins) : FC Try.prog 158 [.agg (encIns x), .ip (encL m f)] (.bool (!decide (InsP m f x))) := by
  refine FC_intro tok Try.func158 rfl (by decide +kernel) (Nat.le_of_ble_eq_true rfl) ?_
  (repeat' first | refine AWp_seq ?_ | (refine AWp_reg tok (by rfl) ?_; conv => whnf))
  refine .inl ⟨_, _, _, uG (QC.fc (c_lins m f x) rfl), ?_⟩
  conv => whnf
  (repeat' (refine AWp_ret ?_; conv => whnf))
  exact ⟨_, rfl, Rel.imm rfl⟩
/-- What is owed of looker.pad: it needs slices.Sorted (range over a function). -/
def LPad : Prop := ∀ (m : Module) (f : Func) (b : Block), FC Try.prog 156 [.agg (encL m f), .agg (encBlock b)] (.bool (decide (PadP f b)))
theorem c_lblock (hpad : LPad) (m : Module) (f : Func) (n : Nat) (hn : n < f.blocks.length) : FC Try.prog 134 [.agg (encL m f), iv n] (.bool (blkB m f (f.blocks.getD n default))) := by
  refine FC_intro tok Try.func134 rfl (by decide +kernel) (Nat.le_of_ble_eq_true rfl) ?_
  ((repeat' ((fail_if_success (show AWp _ _ _ (Code.region 2 _ _) _ _)); first | refine AWp_seq ?_ | (refine AWp_reg tok (by rfl) ?_; conv => whnf) | (refine @And.intro (underG _ _ _ _) _ ?_ ?_; rotate_left; (conv => whnf); rotate_right))); all_goals (try ((guard_target = underG _ _ _ _); refine underG_none ?_; all_goals omega)))
  have hget : f.blocks.getD (n : Int).toNat default = f.blocks.getD n default := by simp
  generalize f.blocks.getD n default = b at hget ⊢
  refine AWp_weak (Weak.list (tl := [(2, .bp (2, 0, 0) 0), (4, .bool false), (5, .bp (5, 0, 0) 0)]) [((2, 0, 0), .old (2, 0, 0), boxed (encL m f)), ((5, 0, 0), .old (5, 0, 0), .row true 14 1 (fun _ => encBlock b))] rfl (by rfl) ?_ (.old rfl (BLe.refl _) (.old rfl (BLe.rowW (Nat.le_refl _) (fun z hz => ?_)) .nil))) ?_
  · ((repeat' first | exact TLes.nil | refine TLes.cons (TLe.eq rfl) ?_); skip)
  · match z, hz with
    | 0, _ => rw [← hget]; exact Wks.of rfl
  (repeat' (refine AWp_reg tok (by rfl) ?_; conv => whnf))
  refine .inl ⟨_, _, _, uG (QC.fc (hpad m f b) rfl), ?_⟩
  conv => whnf
  skip
  refine .inl ⟨_, _, _, uG (QC.fc (c_lend m f b.fin) rfl), ?_⟩
  conv => whnf
  skip
  have hh := c_HasIns (g := 158) (cap := [.ip (encL m f)]) (p := fun x => !decide (InsP m f x)) rfl (fun x => c_lblk1 m f x) b.ins
  refine .inl ⟨_, _, _, uG (QC.sc (rd := [(2, 0, 0)]) hh (.cons (.imm rfl) (.cons (.fn (.cons (.ip rfl (List.mem_singleton.2 rfl) (by decide) (Ress.imms rfl)) .nil)) .nil)) rfl), ?_⟩
  conv => whnf
  (repeat' (refine AWp_ret ?_; conv => whnf))
  refine ⟨_, rfl, Rel.bool ?_⟩
  unfold blkB
  rw [List.not_any_eq_all_not, Bool.eq_iff_iff]
  have hc : decide ((b.ins.length : Int) ≤ 64) = decide (b.ins.length ≤ 64) := by rw [decide_eq_decide]; omega
  rw [hc]
  simp [and_assoc]
end Go.Proofs.Ytmanpbgaihdalaa
namespace Go.Proofs.Ytmanpbgaihdalaa
open Go Dv
set_option maxRecDepth 10000
set_option linter.unusedSimpArgs false
theorem c_lFunc (hpad : LPad) (m : Module) (f : Func) : FC Try.prog 105 [.agg (encMod m), .agg (encFunc f)] (.bool (funcB m f)) := by
  refine FC_intro tok Try.func105 rfl (by decide +kernel) (Nat.le_of_ble_eq_true rfl) ?_
  refine AWp_facts 1 (fun hl => ?_)
  have hl0 : f.blocks.length ≤ maxL := hl.2.2.1.1
  ((repeat' first | refine AWp_seq ?_ | (refine AWp_reg tok (by rfl) ?_; conv => whnf) | refine AWp_block ?_ | (refine AWp_skip ?_; conv => whnf) | (refine AWp_ret ?_; conv => whnf) | refine AWp_cond rfl (fun hb => ?_) (fun hb => ?_) | (refine @And.intro (underG _ _ _ _) _ ?_ ?_; rotate_left; (conv => whnf); rotate_right)); all_goals (try ((guard_target = underG _ _ _ _); ((refine underG_some ?_; intro hgd; (conv at hgd => whnf))); (all_goals (try simp only [underG, true_and, and_true, Bool.cond_true_left, Bool.cond_false_left, Bool.cond_true_right, Bool.cond_false_right, Bool.or_eq_true, Bool.and_eq_true, Bool.or_eq_false_iff, Bool.and_eq_false_iff, cond_true, cond_false, Bool.not_eq_eq_eq_not, Bool.not_true, Bool.not_false, decide_eq_true_eq, decide_eq_false_iff_not, Int.toNat_natCast, Nat.zero_add, Decidable.not_not, maxL, inn_iff] at *)); all_goals omega)))
  · refine ⟨_, rfl, Rel.bool ?_⟩
    rw [show Int.toNat 0 = 0 from rfl] at hb
    unfold funcB
    have hF : decide (FunP f) = false := by
      rw [decide_eq_false_iff_not]; intro h; unfold FunP at h
      rw [h.2.2.2.2.2.2] at hb; simp [-List.length_eq_zero_iff] at hb; omega
    rw [hF]; rfl
  have hF : FunP f := by
    rw [show Int.toNat 0 = 0 from rfl] at hb
    unfold FunP
    cases hland : (f.blocks.getD 0 default).landing with
    | true => rw [hland] at hb; simp at hb
    | false => rw [hland] at hb; simp [-List.length_eq_zero_iff] at hb; refine ⟨?_, ?_, ?_, ?_, ?_, ?_, rfl⟩ <;> omega
  clear hb
  refine AWp_loop (fun i : Nat => mkS [(4, .bool false), (5, .bp (5, 0, 0) 0), (51, iv f.blocks.length), (52, iv i)] [((5, 0, 0), .row true 4 1 (fun _ => encL m f))])
    (fun i => i ≤ f.blocks.length ∧ ∀ j, j < i → blkB m f (f.blocks.getD j default) = true) (fun i => f.blocks.length - i) 0 ⟨Nat.zero_le _, by simp⟩ ?_ ?_
  · refine Weak.list [((5, 0, 0), .old (5, 0, 0), .row true 4 1 (fun _ => encL m f))] rfl (by rfl) ?_ (.old rfl (BLe.rowW (Nat.le_refl _) (fun z hz => ?_)) .nil)
    · ((repeat' first | exact TLes.nil | refine TLes.cons (TLe.eq rfl) ?_); skip)
    · match z, hz with
      | 0, _ => exact Wks.of rfl
  rintro i ⟨hi, hc⟩
  (repeat' first | refine AWp_seq ?_ | (refine AWp_reg tok (by rfl) ?_; conv => whnf) | refine AWp_block ?_ | (refine AWp_skip ?_; conv => whnf) | (refine AWp_exit ?_; conv => whnf) | (refine AWp_ret ?_; conv => whnf) | refine AWp_cond rfl (fun hb => ?_) (fun hb => ?_))
  · have hlt : i < f.blocks.length := by simp only [underG, true_and, and_true, Bool.cond_true_left, Bool.cond_false_left, Bool.cond_true_right, Bool.cond_false_right, Bool.or_eq_true, Bool.and_eq_true, Bool.or_eq_false_iff, Bool.and_eq_false_iff, cond_true, cond_false, Bool.not_eq_eq_eq_not, Bool.not_true, Bool.not_false, decide_eq_true_eq, decide_eq_false_iff_not, Int.toNat_natCast, Nat.zero_add, Decidable.not_not, maxL, inn_iff] at *; omega
    refine .inl ⟨_, _, _, uG (QC.fc (c_lblock hpad m f i hlt) rfl), ?_⟩
    conv => whnf
    (repeat' first | refine AWp_seq ?_ | (refine AWp_reg tok (by rfl) ?_; conv => whnf) | (refine AWp_skip ?_; conv => whnf) | (refine AWp_ret ?_; conv => whnf) | refine AWp_cond rfl (fun hb => ?_) (fun hb => ?_))
    · refine ⟨_, rfl, Rel.bool ?_⟩
      unfold funcB
      rw [all_no default hlt (p := blkB m f) (by simpa using hb)]
      simp
    · refine ⟨i + 1, ⟨hlt, fun j hj => ?_⟩, by omega, ?_⟩
      · by_cases e : j = i
        · subst e; simpa using hb
        · exact hc j (by omega)
      refine Weak.list [((5, 0, 0), .old (5, 0, 0), .row true 4 1 (fun _ => encL m f))] rfl (by rfl) ?_ (.old rfl (BLe.refl _) .nil)
      ((repeat' first | exact TLes.nil | refine TLes.cons (TLe.eq rfl) ?_ | refine TLes.cons (TLe.int ?_) ?_); (all_goals first | ((try (simp only [underG, true_and, and_true, Bool.cond_true_left, Bool.cond_false_left, Bool.cond_true_right, Bool.cond_false_right, Bool.or_eq_true, Bool.and_eq_true, Bool.or_eq_false_iff, Bool.and_eq_false_iff, cond_true, cond_false, Bool.not_eq_eq_eq_not, Bool.not_true, Bool.not_false, decide_eq_true_eq, decide_eq_false_iff_not, Int.toNat_natCast, Nat.zero_add, Decidable.not_not, maxL, inn_iff] at *)); exact wrap64 (by omega) (by omega)) | skip))
  · refine ⟨_, rfl, Rel.bool ?_⟩
    unfold funcB
    rw [decide_eq_true hF, all_yes default (fun j hj => hc j (by simp only [underG, true_and, and_true, Bool.cond_true_left, Bool.cond_false_left, Bool.cond_true_right, Bool.cond_false_right, Bool.or_eq_true, Bool.and_eq_true, Bool.or_eq_false_iff, Bool.and_eq_false_iff, cond_true, cond_false, Bool.not_eq_eq_eq_not, Bool.not_true, Bool.not_false, decide_eq_true_eq, decide_eq_false_iff_not, Int.toNat_natCast, Nat.zero_add, Decidable.not_not, maxL, inn_iff] at *; omega))]; rfl
theorem c_lRight1 (hpad : LPad) (m : Module) (f : Func) : FC Try.prog 104 [.agg (encFunc f), .ip (encMod m)] (.bool (!funcB m f)) := by
  refine FC_intro tok Try.func104 rfl (by decide +kernel) (Nat.le_of_ble_eq_true rfl) ?_
  (repeat' first | refine AWp_seq ?_ | (refine AWp_reg tok (by rfl) ?_; conv => whnf))
  refine .inl ⟨_, _, _, uG (QC.fc (c_lFunc hpad m f) rfl), ?_⟩
  conv => whnf
  (repeat' (refine AWp_ret ?_; conv => whnf))
  exact ⟨_, rfl, Rel.imm rfl⟩
theorem c_lRight (hpad : LPad) (m : Module) : FC Try.prog 62 [.agg (encMod m)] (.bool (rightB m)) := by
  refine FC_intro tok Try.func62 rfl (by decide +kernel) (Nat.le_of_ble_eq_true rfl) ?_
  refine AWp_facts 0 (fun hl => ?_)
  have hl0 : m.funcs.length ≤ maxL := hl.1.1
  ((repeat' first | refine AWp_seq ?_ | (refine AWp_reg tok (by rfl) ?_; conv => whnf) | (refine AWp_skip ?_; conv => whnf) | (refine AWp_ret ?_; conv => whnf) | refine AWp_cond rfl (fun hb => ?_) (fun hb => ?_) | (refine @And.intro (underG _ _ _ _) _ ?_ ?_; rotate_left; (conv => whnf); rotate_right)); all_goals (try ((guard_target = underG _ _ _ _); ((refine underG_some ?_; intro hgd; (conv at hgd => whnf))); (all_goals (try simp only [underG, true_and, and_true, Bool.cond_true_left, Bool.cond_false_left, Bool.cond_true_right, Bool.cond_false_right, Bool.or_eq_true, Bool.and_eq_true, Bool.or_eq_false_iff, Bool.and_eq_false_iff, cond_true, cond_false, Bool.not_eq_eq_eq_not, Bool.not_true, Bool.not_false, decide_eq_true_eq, decide_eq_false_iff_not, Int.toNat_natCast, Nat.zero_add, Decidable.not_not, maxL, inn_iff] at *)); all_goals omega)))
  · refine ⟨_, rfl, Rel.bool ?_⟩
    rw [show Int.toNat 0 = 0 from rfl] at hb
    unfold rightB
    rw [decide_eq_false]
    · rfl
    · rintro ⟨h1, h2, h3⟩
      rw [h3] at hb; simp [-List.length_eq_zero_iff] at hb; omega
  have hF : 1 ≤ m.funcs.length ∧ m.funcs.length ≤ 16 ∧ (m.funcs.getD 0 default).params = 0 := by
    rw [show Int.toNat 0 = 0 from rfl] at hb
    simp only [Bool.cond_true_left, Bool.or_eq_false_iff] at hb
    refine ⟨?_, ?_, by simpa using hb.2⟩ <;> simp only [underG, true_and, and_true, Bool.cond_true_left, Bool.cond_false_left, Bool.cond_true_right, Bool.cond_false_right, Bool.or_eq_true, Bool.and_eq_true, Bool.or_eq_false_iff, Bool.and_eq_false_iff, cond_true, cond_false, Bool.not_eq_eq_eq_not, Bool.not_true, Bool.not_false, decide_eq_true_eq, decide_eq_false_iff_not, Int.toNat_natCast, Nat.zero_add, Decidable.not_not, maxL, inn_iff] at * <;> omega
  clear hb
  refine .inl ⟨_, _, _, uG (QC.sc (rd := [(1, 0, 0)]) (c_HasFunc (g := 104) (cap := [.ip (encMod m)]) (p := fun f => !funcB m f) rfl (fun f => c_lRight1 hpad m f) m.funcs) (.cons (.imm rfl) (.cons (.fn (.cons (.ip rfl (List.mem_singleton.2 rfl) (by decide) (Ress.imms rfl)) .nil)) .nil)) rfl), ?_⟩
  conv => whnf
  (repeat' (refine AWp_ret ?_; conv => whnf))
  refine ⟨_, rfl, Rel.bool ?_⟩
  unfold rightB
  rw [List.not_any_eq_all_not, decide_eq_true hF]
  simp
end Go.Proofs.Ytmanpbgaihdalaa
namespace Go.Proofs.Ytmanpbgaihdalaa
open Go Dv Go.RowKit Go.Maps Go.Sort Go.Shelf
set_option linter.unusedSimpArgs false
@[go_sem, reducible] def encU (k : Int) : Value := .int .u16 k
def SeqU (F : Fence) (n : Nat) (g : Nat) (lb : Array Value) (S : List Int → Prop) (N : Nat) (w : World) : Prop :=
  ∀ (l : Nat) (J : List Int → World → Prop) (W : World), RowKit.Below w.heap.size w W → (∀ pre W', J pre W' → RowKit.Below w.heap.size w W') →
    (∀ pre x W', J pre W' → pre.length < N → YieldAt F (n - 1) Try.prog l #[encU x] W' fun e W2 => e = .returned (.bool true) ∧ J (pre ++ [x]) W2 ∧ KeepsWalks W' W2) → J [] W →
    CallsIn F n Try.prog g (#[.func (.yield l) #[] #[]] ++ lb) W fun e W' => (∃ v, e = .returned v) ∧ ∃ ss, S ss ∧ J ss W'

def Sq.apAssign : Code := (Code.region 2 #[{ dst := some 5, op := Op.assign (Operand.tmp 7), type := 55, pos := "iter.go:51", after := #[], guard := none }] false)
def Sq.apBody : Code := (Code.block 1 (Code.region 3 #[{ dst := some 8, op := Op.load 37 (Operand.tmp 2), type := 37, pos := "iter.go:52", after := #[], guard := none }, { dst := some 9, op := Op.move (Operand.tmp 5), type := 55, pos := "iter.go:52", after := #[], guard := none }, { dst := some 10, op := Op.buildSlice 37 1 #[(0, Operand.tmp 9)], type := 37, pos := "iter.go:52", after := #[{ on := 1, ground := Ground.data }], guard := none }, { dst := some 11, op := Op.call { callee := Callee.builtin Builtin.append, args := #[Operand.tmp 8, Operand.tmp 10], argTypes := #[37, 37] }, type := 37, pos := "iter.go:52", after := #[{ on := 0, ground := Ground.data }, { on := 2, ground := Ground.data }], guard := none }, { dst := none, op := Op.store 37 (Operand.tmp 2) (Operand.tmp 11), type := 0, pos := "iter.go:52", after := #[{ on := 3, ground := Ground.data }, { on := 3, ground := Ground.chain }, { on := 0, ground := Ground.phase }, { on := 1, ground := Ground.phase }, { on := 2, ground := Ground.phase }, { on := 3, ground := Ground.phase }], guard := none }] false))
def Sq.apRec (fn : FuncId) (sv : Value) (Bs D : Nat) (st : LoopState) (pend : Option Code) : Loop :=
  { state := st, pending := pend, fn, tmps := #[.slice none 0 0, sv, .pointer (some ⟨Bs, 0, none⟩), undef, .slice none 0 0, undef, sv, undef, undef, undef, undef, undef, undef], params := #[7], assign := Sq.apAssign, body := Sq.apBody, defers := D }

structure Sq.ApAt (w0 : World) (fn : FuncId) (sv : Value) (Bs l D : Nat) (ss : List Int) (W : World) : Prop where
  box : ∃ v, W.heap[Bs]? = some (.cells #[v] 37 (0, 0)) ∧ W.ownsRow w0.heap.size 55 1 v ss.length (ss.map encU) ∧ (v = .slice none 0 0 ↔ ss = [])
  L : W.heap[l]? = some (.loop (Sq.apRec fn sv Bs D .ready none))
  K : W.heap[D]? = some (.deferred (some []))
  below : Below w0.heap.size w0 W

theorem ownsRow_abides {W W' : World} {row : Option Nat} {base : Nat} {e : TypeId} {size : Nat} {v : Value} {k : Nat} {xs : List Value} (h : W.ownsRow base e size v k xs) (hg : W.grownBy W' row)
    (hrow : ∀ r, row = some r → ∃ o : Obj, W.heap[r]? = some o ∧ o.isWalk = true) : W'.ownsRow base e size v k xs := by
  refine h.kept hg ?_
  rcases h.2 with ⟨rfl, _⟩ | ⟨g, cap, cur, rfl, _, hgb, _⟩
  · exact .inl rfl
  · refine .inr fun e' => ?_
    obtain ⟨o, ho, hw⟩ := hrow g (by simpa [Value.ownBlock] using e'.symm)
    rw [hgb] at ho; cases ho; cases hw

theorem Sq.ap_abides (w0 : World) (fn : FuncId) (sv : Value) (Bs l D B : Nat) (hB : w0.heap.size ≤ B) : AbidesFrom B (Sq.ApAt w0 fn sv Bs l D) := fun s W W' row h hg hrow => by
  have hrow' : ∀ r, row = some r → ∃ o : Obj, W.heap[r]? = some o ∧ o.isWalk = true := fun r e => (hrow r e).2
  obtain ⟨v, hv, hr, hn⟩ := h.box
  exact ⟨⟨v, (grownBy_keeps hg hrow' hv rfl).trans hv, ownsRow_abides hr hg hrow', hn⟩, (grownBy_keeps hg hrow' h.L rfl).trans h.L, (grownBy_keeps hg hrow' h.K rfl).trans h.K,
    h.below.grown hg h.below.size (fun k e => Nat.le_trans hB (hrow k e).1)⟩

theorem grownBy_putObj (W : World) (l : Nat) (o : Obj) : W.grownBy (W.putObj l o) (some l) :=
  ⟨rfl, rfl, rfl, by simp, fun k _ hk => World.putObj_heap_other (fun e => hk (by rw [e]))⟩
theorem grownBy_setCell0 (W : World) (b : Nat) (v : Value) : W.grownBy (W.setCell ⟨b, 0, none⟩ v) (some b) :=
  ⟨rfl, rfl, rfl, (KeepsWalks.setCell W _ v).size, fun k _ hk => Below.heap_setCell _ _ _ k (fun e => hk (by rw [e]))⟩
theorem ownsRow_ne {W : World} {base : Nat} {e : TypeId} {size : Nat} {v : Value} {k : Nat} {xs : List Value} (h : W.ownsRow base e size v k xs) {j : Nat} {o : Obj} (hj : W.heap[j]? = some o) (hno : ∀ cur, o ≠ .cells cur e (0, 0)) :
    v.ownBlock = none ∨ v.ownBlock ≠ some j := by
  rcases h.2 with ⟨rfl, _⟩ | ⟨g, cap, cur, rfl, _, hgb, _⟩
  · exact .inl rfl
  · refine .inr fun e' => ?_
    have : g = j := by simpa [Value.ownBlock] using e'
    subst this; rw [hgb] at hj; cases hj; exact hno cur rfl
theorem cell_of_box {W : World} {B : Nat} {v : Value} {t : TypeId} (h : W.heap[B]? = some (.cells #[v] t (0, 0))) : W.cell? ⟨B, 0, none⟩ = some v ∧ W.frozen? ⟨B, 0, none⟩ = false := by
  constructor <;> simp [World.cell?, World.frozen?, h]

theorem heap_setCell_box {W : World} {B : Nat} {v : Value} {t : TypeId} (v' : Value) (h : W.heap[B]? = some (.cells #[v] t (0, 0))) : (W.setCell ⟨B, 0, none⟩ v').heap[B]? = some (.cells #[v'] t (0, 0)) := by
  obtain ⟨hlt, hk⟩ := Array.getElem?_eq_some_iff.1 h
  show (W.heap.modify B _)[B]? = _
  rw [Array.getElem?_eq_getElem (by rw [Array.size_modify]; exact hlt), Array.getElem_modify_self, hk]
  rfl
theorem ownsRow_not_walk {W : World} {base : Nat} {e : TypeId} {size : Nat} {v : Value} {k : Nat} {xs : List Value} (h : W.ownsRow base e size v k xs) : ∀ (j : Nat) (o : Obj), v.ownBlock = some j → W.heap[j]? = some o → o.isWalk = false := by
  intro j o hj ho
  rcases h.2 with ⟨rfl, _⟩ | ⟨g, cap, cur, rfl, _, hgb, _⟩
  · simp [Value.ownBlock] at hj
  · have : g = j := by simpa [Value.ownBlock] using hj
    subst this; rw [hgb] at ho; cases ho; rfl

theorem Sq.info55 : (Try.prog.info? 55).map (fun i => (i.zero, i.size, i.bytes)) = some (some (.int .u16 0), 1, 2) := by kernel_rfl

set_option maxRecDepth 100000 in
set_option maxHeartbeats 2000000 in
theorem Sq.apYield (F : Fence) (m : Nat) (w0 : World) (fn : FuncId) (hfn : F.fn fn) (sv : Value) (Bs l D : Nat) (hBl : Bs ≠ l) (hDl : D ≠ l) (hDB : D ≠ Bs) (h0B : w0.heap.size ≤ Bs) (h0l : w0.heap.size ≤ l)
    (N : Nat) (hN : N ≤ maxLen) (hNb : N * 2 ≤ 140737488355328) (ss : List Int) (x : Int) (W : World) (h : Sq.ApAt w0 fn sv Bs l D ss W) (hlen : ss.length < N) :
    YieldAt F m Try.prog l #[encU x] W fun e W' => e = .returned (.bool true) ∧ Sq.ApAt w0 fn sv Bs l D (ss ++ [x]) W' ∧ KeepsWalks W W' := by
  obtain ⟨i0, hi, hz0, hz1, hz2⟩ := info_parts Sq.info55
  obtain ⟨v, hv, hrow, _⟩ := h.box
  refine ⟨fn, #[.slice none 0 0, sv, .pointer (some ⟨Bs, 0, none⟩), undef, .slice none 0 0, undef, sv, encU x, undef, undef, undef, undef, undef], Sq.apAssign, Sq.apBody, by simpa [Sq.apRec] using run_yield (P := Try.prog) (args := #[encU x]) h.L rfl, roundIn_of_wpIn hfn ?_⟩
  have hl : l < W.heap.size := (Array.getElem?_eq_some_iff.1 h.L).1
  have hbr := run_beginRound (P := Try.prog) h.L rfl
  obtain ⟨W2, hW2⟩ : ∃ W2, W.putObj l (.loop { Sq.apRec fn sv Bs D .ready none with state := .busy }) = W2 := ⟨_, rfl⟩
  rw [hW2] at hbr
  have hg2 : W.grownBy W2 (some l) := by rw [← hW2]; exact grownBy_putObj _ _ _
  have hk2 : KeepsWalks W W2 := by rw [← hW2]; exact KeepsWalks.putObj _ h.L rfl
  have hv2 : W2.heap[Bs]? = some (.cells #[v] 37 (0, 0)) := by rw [← hW2]; exact (World.putObj_heap_other hBl).trans hv
  have hK2 : W2.heap[D]? = some (.deferred (some [])) := by rw [← hW2]; exact (World.putObj_heap_other hDl).trans h.K
  have hL2 : W2.heap[l]? = some (.loop { Sq.apRec fn sv Bs D .ready none with state := .busy }) := by rw [← hW2]; exact World.putObj_heap_same hl
  have hrow2 : W2.ownsRow w0.heap.size 55 1 v ss.length (ss.map encU) := hrow.kept hg2 (ownsRow_ne hrow h.L (fun cur e => by cases e))
  have hb2 : Below w0.heap.size w0 W2 := h.below.grown hg2 h.below.size (fun k e => by cases e; exact h0l)
  obtain ⟨hc2, hf2⟩ := cell_of_box hv2
  have hBlt : Bs < W2.heap.size := (Array.getElem?_eq_some_iff.1 hv2).1
  have hl2 : l < W2.heap.size := (Array.getElem?_eq_some_iff.1 hL2).1
  have hDlt : D < W2.heap.size := (Array.getElem?_eq_some_iff.1 hK2).1
  have ne_of : ∀ {j : Nat} {o : Obj}, W2.heap[j]? = some o → (∀ cur, o ≠ .cells cur 55 (0, 0)) → some j ≠ v.ownBlock := fun hj hno => by
    rcases ownsRow_ne hrow2 hj hno with e | e
    · rw [e]; simp
    · exact fun e' => e e'.symm
  clear hW2
  unfold Sq.apAssign
  gi_wp2_with (rw [Oper.semAt_eq _ _ _ (fun c h => by cases h)]; go_simp; try go_bits)
  unfold Sq.apBody
  gi_wp2_with (first
    | (gi_at_builtin; refine wpListIn_append_own _ rfl _ _ 37 rfl w0.heap.size 55 i0 (.int .u16 0) 1 2 Try.underlying37 hi hz0 hz1 hz2 rfl (by decide) _ _ _ rfl (hrow2.alloc _) ⟨W2.heap.size, 0, none⟩ 1 1 [encU x] rfl rfl (cell_one_new _ _ _) (by simp [Value.oneCell', encU]) (by omega) (by omega) (by have := hb2.size; simp; omega) ?_; intro v' w3 hown' hg3 hnil3
       have hv3 : w3.heap[Bs]? = some (.cells #[v] 37 (0, 0)) := (hg3.block Bs (by simp; omega) (ne_of hv2 (fun cur e => by cases e))).trans ((Below.heap_alloc _ _ Bs hBlt).trans hv2)
       obtain ⟨hc3, hf3⟩ := cell_of_box hv3
       obtain ⟨g', cap', cur', rfl, hbase', hgb', hr1, hr2, hr3, hr4⟩ : ∃ g' cap' cur', v' = .slice (some ⟨g', 0, none⟩) (ss.length + 1) cap' ∧ w0.heap.size ≤ g' ∧ w3.heap[g']? = some (.cells cur' 55 (0, 0)) ∧ ss.length + 1 ≤ cap' ∧ cap' ≤ maxLen ∧ cur'.size = cap' * 1 ∧ cur'.toList.take ((ss.length + 1) * 1) = ss.map encU ++ [encU x] := by
         rcases hown'.2 with ⟨_, h0⟩ | h'
         · exact absurd h0 (by omega)
         · exact h'
       go_frame)
    | (rw [Oper.semAt_eq _ _ _ (fun c h => by cases h)]; go_simp; try go_bits))
  have hg3' : (W2.alloc (.cells #[encU x] 55)).grownBy w3 v.ownBlock := hg3
  have hL3 : w3.heap[l]? = some (.loop { Sq.apRec fn sv Bs D .ready none with state := .busy }) := (hg3'.block l (by simp; omega) (ne_of hL2 (fun cur e => by cases e))).trans ((Below.heap_alloc _ _ l hl2).trans hL2)
  have hK3 : w3.heap[D]? = some (.deferred (some [])) := (hg3'.block D (by simp; omega) (ne_of hK2 (fun cur e => by cases e))).trans ((Below.heap_alloc _ _ D hDlt).trans hK2)
  obtain ⟨w4, hw4⟩ : ∃ w4, w3.setCell ⟨Bs, 0, none⟩ (.slice (some ⟨g', 0, none⟩) (ss.length + 1) cap') = w4 := ⟨_, rfl⟩
  rw [hw4]
  have hg4 : w3.grownBy w4 (some Bs) := by rw [← hw4]; exact grownBy_setCell0 _ _ _
  have hv4 : w4.heap[Bs]? = some (.cells #[.slice (some ⟨g', 0, none⟩) (ss.length + 1) cap'] 37 (0, 0)) := by rw [← hw4]; exact heap_setCell_box _ hv3
  have hL4 : w4.heap[l]? = some (.loop { Sq.apRec fn sv Bs D .ready none with state := .busy }) := (hg4.block l (Array.getElem?_eq_some_iff.1 hL3).1 (fun e => hBl (by cases e; rfl))).trans hL3
  have hK4 : w4.heap[D]? = some (.deferred (some [])) := (hg4.block D (Array.getElem?_eq_some_iff.1 hK3).1 (fun e => hDB (by cases e; rfl))).trans hK3
  have hrow4 := hown'.kept hg4 (ownsRow_ne hown' hv3 (fun cur e => by cases e))
  have hl4 : l < w4.heap.size := (Array.getElem?_eq_some_iff.1 hL4).1
  have hb3 : Below w0.heap.size w0 w3 := (hb2.alloc hb2.size _).grown hg3' (by have := hb2.size; simp; omega) (fun k e => (hrow2.lt k e).1)
  have hb4 : Below w0.heap.size w0 w4 := hb3.grown hg4 hb3.size (fun k e => by cases e; exact h0B)
  have hk4 : KeepsWalks W w4 := ((hk2.trans (KeepsWalks.alloc _ _)).trans (KeepsWalks.of_grownBy hg3' (ownsRow_not_walk (hrow2.alloc _)))).trans (by rw [← hw4]; exact KeepsWalks.setCell _ _ _)
  clear hw4
  refine ⟨_, _, run_endRound none hL4, rfl, ⟨⟨_, (World.putObj_heap_other hBl).trans hv4, ?_, by simp⟩, World.putObj_heap_same hl4, (World.putObj_heap_other hDl).trans hK4, hb4.grown (grownBy_putObj _ _ _) hb4.size (fun k e => by cases e; exact h0l)⟩, hk4.trans (KeepsWalks.putObj _ hL4 rfl)⟩
  have := hrow4.kept (grownBy_putObj w4 l (.loop { { Sq.apRec fn sv Bs D .ready none with state := .busy } with state := if (none : Option Code).isNone then .ready else .done, pending := none })) (ownsRow_ne hrow4 hL4 (fun cur e => by cases e))
  simpa using this


set_option maxRecDepth 100000 in
set_option maxHeartbeats 2000000 in
theorem Sq.appendSeq_in (F : Fence) (n : Nat) (h11 : F.fn 181) (hro : F.round = none) (hn : 2 ≤ n) (g : Nat) (lb : Array Value) (hFg : F.fn g) (eg : ∀ args w, (callFunc g args).run Try.prog w = .ok (.enter g args) w)
    (S : List Int → Prop) (N : Nat) (hN : N ≤ maxLen) (hNb : N * 2 ≤ 140737488355328) (w : World) (hseq : SeqU F (n - 1) g lb S N w) :
    CallsIn F n Try.prog 181 #[.slice none 0 0, .func (.func g) #[] lb] w fun e w' => ∃ (v : Value) (ss : List Int), e = .returned v ∧ S ss ∧ w'.ownsRow w.heap.size 55 1 v ss.length (ss.map encU) ∧ (v = .slice none 0 0 ↔ ss = []) ∧ Below w.heap.size w w' := by
  have h1 : 1 ≤ n := by omega
  refine callsIn_of_wp_marks Try.func181 rfl h11 ?_ hro
  simp only [Try.ntmps181, List.size_toArray, List.length_cons, List.length_nil, Nat.reduceAdd, Nat.reduceSub, Array.replicate_succ, Array.replicate_zero, List.push_toArray, List.append_toArray, List.nil_append, List.cons_append]
  gi_wp2
  refine wpIn_rangeFunc ?_
  intro fn hfn
  rw [hro]
  obtain ⟨W0, hW0⟩ : ∃ W0, w.alloc (.cells #[.slice none 0 0] 37) = W0 := ⟨_, rfl⟩
  have hs0 : W0.heap.size = w.heap.size + 1 := by rw [← hW0]; simp
  have hv0 : W0.heap[w.heap.size]? = some (.cells #[.slice none 0 0] 37 (0, 0)) := by rw [← hW0]; exact World.alloc_heap_new w _
  have hb0 : Below w.heap.size w W0 := by rw [← hW0]; exact (Below.refl _ w).alloc (Nat.le_refl _) _
  rw [hW0]
  obtain ⟨W1, hW1⟩ : ∃ W1, (W0.alloc (.deferred (some []))).alloc (.loop (Sq.apRec fn (.func (.func g) #[] lb) w.heap.size W0.heap.size .ready none)) = W1 := ⟨_, rfl⟩
  have hold : ∀ k, k < W0.heap.size → W1.heap[k]? = W0.heap[k]? := fun k hk => by
    rw [← hW1]; exact (Below.heap_alloc _ _ k (by simp; omega)).trans (Below.heap_alloc _ _ k hk)
  have hb1 : Below w.heap.size w W1 := by rw [← hW1]; exact (hb0.alloc hb0.size _).alloc (by have := hb0.size; simp; omega) _
  have hs1 : W1.heap.size = W0.heap.size + 2 := by rw [← hW1]; simp
  have hM : Sq.ApAt w fn (.func (.func g) #[] lb) w.heap.size (W0.heap.size + 1) W0.heap.size [] W1 :=
    ⟨⟨_, (hold w.heap.size (by omega)).trans hv0, ⟨rfl, .inl ⟨rfl, rfl⟩⟩, by simp⟩,
     by rw [← hW1]; have := World.alloc_heap_new (W0.alloc (.deferred (some []))) (.loop (Sq.apRec fn (.func (.func g) #[] lb) w.heap.size W0.heap.size .ready none)); rwa [World.size_alloc] at this,
     by rw [← hW1]; exact (Below.heap_alloc _ _ _ (by simp)).trans (World.alloc_heap_new W0 _), hb1⟩
  refine ⟨W0.heap.size + 1, [{ target := .collected W0.heap.size, args := #[] }], W1, { target := .fn (.func g) lb, args := #[.func (.yield (W0.heap.size + 1)) #[] #[]] }, W1, g,
    #[.func (.yield (W0.heap.size + 1)) #[] #[]] ++ lb, W1, ?_, ?_, ?_, ?_, fun _ => h1, ?_⟩
  · rw [← hW1]; exact run_enterLoop_outer _ _ _ _ _
  · simp [resolve, go_sem]
  · intro f' hf'; simp [Target.leads] at hf'; subst hf'; exact hFg
  · simp [invoke, go_sem, eg]
  · refine (hseq (W0.heap.size + 1) (Sq.ApAt w fn (.func (.func g) #[] lb) w.heap.size (W0.heap.size + 1) W0.heap.size) W1 hb1 (fun _ _ h => h.below)
      (fun pre x W hJ hl => Sq.apYield F (n - 1 - 1) w fn hfn _ w.heap.size (W0.heap.size + 1) W0.heap.size (by omega) (by omega) (by omega) (Nat.le_refl _) (by omega) N hN hNb pre x W hJ hl) hM).mono ?_
    rintro e W2 ⟨⟨v0, rfl⟩, ss, hS, h2⟩
    obtain ⟨v, hv, hrow, hnil⟩ := h2.box
    have hend := run_endLoop (P := Try.prog) h2.L (by simp [Sq.apRec])
    obtain ⟨W3, hW3⟩ : ∃ W3, W2.putObj (W0.heap.size + 1) (.loop { Sq.apRec fn (.func (.func g) #[] lb) w.heap.size W0.heap.size .ready none with state := .exhausted }) = W3 := ⟨_, rfl⟩
    rw [hW3] at hend
    have hg3 : W2.grownBy W3 (some (W0.heap.size + 1)) := by rw [← hW3]; exact grownBy_putObj _ _ _
    have hv3 : W3.heap[w.heap.size]? = some (.cells #[v] 37 (0, 0)) := by rw [← hW3]; exact (World.putObj_heap_other (by omega)).trans hv
    have hK3 : W3.heap[W0.heap.size]? = some (.deferred (some [])) := by rw [← hW3]; exact (World.putObj_heap_other (by omega)).trans h2.K
    have hrow3 := hrow.kept hg3 (ownsRow_ne hrow h2.L (fun cur e => by cases e))
    have hb3 : Below w.heap.size w W3 := h2.below.grown hg3 h2.below.size (fun k e => by cases e; omega)
    obtain ⟨hc3, hf3⟩ := cell_of_box hv3
    clear hW3
    refine ⟨none, W3, hend, ?_⟩
    gi_wp2
    rw [← hs0]
    refine ⟨by simp, .inl ⟨_, _, rfl, run_takeDeferred hK3, ?_⟩⟩
    exact ⟨_, results_tmp rfl _ _ _, v, ss, rfl, hS, hrow3.kept (grownBy_putObj _ _ _) (ownsRow_ne hrow3 hK3 (fun cur e => by cases e)), hnil, hb3.grown (grownBy_putObj _ _ _) hb3.size (fun k e => by cases e; omega)⟩



end Go.Proofs.Ytmanpbgaihdalaa
namespace Go.Proofs.Ytmanpbgaihdalaa
open Go Dv Go.RowKit Go.Maps Go.Sort Go.Shelf
attribute [local go_sem] Oper.semAt_some
set_option maxRecDepth 100000 in
set_option maxHeartbeats 2000000 in
theorem Sq.values1_in (F : Fence) (n : Nat) (h7 : F.fn 177) (hro : F.round = none) (hn : 1 ≤ n) (Bs bo b off cap : Nat) (zs : List Int) (hreach : zs.length * 2 ≤ 140737488351232) (w : World) (hBs0 : Bs < w.heap.size) (hb : b < w.heap.size)
    (hBs : w.cell? ⟨Bs, bo, none⟩ = some (.slice (some ⟨b, off, none⟩) zs.length cap)) (hc : ∀ j, j < zs.length → w.cell? ⟨b, off + j, none⟩ = some (.int .u16 (zs[j]?.getD 0))) :
    SeqU F n 177 #[.pointer (some ⟨Bs, bo, none⟩)] (fun ss => ss = zs) zs.length w := by
  intro l J W hW hJB hY h0
  have hBsW := (hW.cell (p := ⟨Bs, bo, none⟩) hBs0).trans hBs
  have hcW : ∀ W', RowKit.Below w.heap.size w W' → ∀ k, k < zs.length → W'.cell? ⟨b, off + k, none⟩ = some (.int .u16 (zs[k]?.getD 0)) := fun W' h k hk => (h.cell (p := ⟨b, off + k, none⟩) hb).trans (hc k hk)
  refine callsIn_of_wp Try.func177 rfl h7 ?_ hro
  simp only [Try.ntmps177, List.size_toArray, List.length_cons, List.length_nil, Nat.reduceAdd, Nat.reduceSub, Array.replicate_succ, Array.replicate_zero, List.push_toArray, List.append_toArray, List.nil_append, List.cons_append]
  gi_wp2
  gi_loopw [7] (fun i wr => ∃ k : Nat, k ≤ zs.length ∧ i = .int .i64 k ∧ J (zs.take k) wr)
    (fun i _ => zs.length - (intOf i).toNat)
  case atStart => exact ⟨0, Nat.zero_le _, rfl, by simpa using h0⟩
  case round =>
    obtain ⟨k, hk, rfl, hJs⟩ := hrel
    by_cases hlt : k < zs.length
    · have hcx' := hcW wr (hJB _ _ hJs) k hlt
      have hJx : ∀ W', J (zs.take k ++ [zs[k]?.getD 0]) W' → J (zs.take (k + 1)) W' := fun W' h => by rw [List.take_add_one]; simpa [List.getElem?_eq_getElem hlt] using h
      generalize zs[k]?.getD 0 = x at hcx' hJx
      obtain ⟨fn, tmps, assign, body, hy, hR⟩ := hY _ x wr hJs (by rw [List.length_take]; omega)
      unfold encU at hy
      gi_wp2
      refine hR.mono ?_
      rintro e W3 ⟨rfl, hJ3, _⟩
      gi_wp2
      go_roundw
      case rel => exact ⟨k + 1, by omega, by simp, hJx _ hJ3⟩
      case measure => simp [intOf]; omega
    · obtain rfl : k = zs.length := by omega
      gi_wp2
      go_end0
      exact ⟨⟨_, rfl⟩, _, rfl, by simpa using hJs⟩
set_option maxRecDepth 100000 in
set_option maxHeartbeats 1000000 in
theorem Sq.values1_nil (F : Fence) (n : Nat) (h7 : F.fn 177) (hro : F.round = none) (Bs bo cap : Nat) (p : Option Addr) (w : World) (hBs0 : Bs < w.heap.size)
    (hBs : w.cell? ⟨Bs, bo, none⟩ = some (.slice p 0 cap)) :
    SeqU F n 177 #[.pointer (some ⟨Bs, bo, none⟩)] (fun ss => ss = []) 0 w := by
  intro l J W hW hJB hY h0
  have hBsW := (hW.cell (p := ⟨Bs, bo, none⟩) hBs0).trans hBs
  refine callsIn_of_wp Try.func177 rfl h7 ?_ hro
  simp only [Try.ntmps177, List.size_toArray, List.length_cons, List.length_nil, Nat.reduceAdd, Nat.reduceSub, Array.replicate_succ, Array.replicate_zero, List.push_toArray, List.append_toArray, List.nil_append, List.cons_append]
  gi_wp2
  gi_loopw [7] (fun i wr => i = .int .i64 0 ∧ J [] wr) (fun _ _ => 0)
  case atStart => exact ⟨rfl, h0⟩
  case round =>
    obtain ⟨rfl, hJs⟩ := hrel
    gi_wp2
    go_end0
    exact ⟨⟨_, rfl⟩, _, rfl, hJs⟩
end Go.Proofs.Ytmanpbgaihdalaa
namespace Go.Proofs.Ytmanpbgaihdalaa
open Go Dv Go.RowKit Go.Maps Go.Sort Go.Shelf
set_option linter.unusedSimpArgs false
theorem fr_below {w w' : World} (h : RowKit.Below w.heap.size w w') : Fr (fun _ => False) w w' :=
  ⟨h.os, h.tape, h.output, h.size, fun b hb _ => h.block b hb, fun a ha => by simp only [World.frozen?, h.block a.block ha]⟩
theorem c_AppendSeq (l : List Int) (hl : l.length ≤ maxL) : FO Try.prog 181 [.nsl, .fn 177 [.ip [u16s l]]] 1 l.length (fun i => [.int .u16 (l.getD i 0)]) := by
  refine ⟨⟨_, Try.func181, rfl, by decide +kernel⟩, fun X w vals hX hv => ?_⟩
  simp only [Vs, V, Vc, u16s] at hv
  obtain ⟨_, _, rfl, rfl, _, _, rfl, ⟨a, rfl, _, _, rfl, ⟨Bs, bo, rfl, hBs, hnX, ⟨v, hcell, _, p, c, rfl, hnc, _, hrow⟩, _⟩, rfl⟩, rfl⟩ := hv
  have hu : ∀ i, i < l.length → IntKind.u16.min ≤ l.getD i 0 ∧ l.getD i 0 ≤ IntKind.u16.max := fun i hi => by
    rcases hrow with h0 | ⟨b, o, _, _, _, hc⟩
    · omega
    · exact (hc i hi).2.1.choose_spec.2.2.2
  have key : ∃ N, SeqU Fence.wide 1 177 #[.pointer (some ⟨Bs, bo, none⟩)] (fun ss => ss = l) N w ∧ N ≤ maxLen ∧ N * 2 ≤ 140737488355328 := by
    rcases hrow with h0 | ⟨b, o, rfl, hb, _, hc⟩
    · have : l = [] := List.length_eq_zero_iff.1 h0
      subst this
      exact ⟨0, Sq.values1_nil Fence.wide 1 trivial rfl Bs bo c p w hBs hcell, by decide, by decide⟩
    · refine ⟨l.length, Sq.values1_in Fence.wide 1 trivial rfl (by omega) Bs bo b o c l (by simp only [maxL] at hl; omega) w hBs hb hcell (fun j hj => ?_), by simp only [maxL] at hl; simp only [maxLen]; omega, by simp only [maxL] at hl; omega⟩
      obtain ⟨_, ⟨v, h1, _, h2, _⟩, _⟩ := hc j hj
      rw [Nat.mul_one] at h1
      rw [h1, h2]; simp
  obtain ⟨N, hseq, hN, hN2⟩ := key
  refine (callsIn_wide.1 (Sq.appendSeq_in Fence.wide 2 trivial rfl (by omega) 177 #[.pointer (some ⟨Bs, bo, none⟩)] trivial (fun args w => run_callFunc ⟨_, Try.func177, rfl, by decide +kernel⟩ args w) (fun ss => ss = l) N hN hN2 w hseq)).mono ?_
  rintro e w' ⟨v, ss, rfl, rfl, hown, hnil, hb⟩
  refine ⟨v, rfl, fr_below hb, hl, ?_⟩
  rcases hown.2 with ⟨h1, h2⟩ | ⟨g, cap, cur, h1, h2, h3, h4, h5, h6, h7⟩
  · exact .inl ⟨h1, h2⟩
  · refine .inr ⟨_, g, cap, h1, h2, .inr rfl, cur, 55, h3, h4, h6, fun i hi => ⟨rfl, ?_⟩⟩
    simp only [Vc, V]
    have hg : cur[i]? = some (.int .u16 (ss.getD i 0)) := by
      have := congrArg (fun l => l[i]?) h7
      simp only [Nat.mul_one, List.getElem?_take, hi, if_true, List.getElem?_map] at this
      rw [← Array.getElem?_toList, this, List.getElem?_eq_getElem hi, List.getD_eq_getElem?_getD, List.getElem?_eq_getElem hi]; rfl
    refine ⟨⟨_, ?_, rfl, rfl, ?_⟩, trivial⟩
    · simp [World.cell?, h3, hg]
    · exact hu i hi
theorem Rel.bp {h : AHeap} {id : Dv.Id} {imm : Bool} {sz k : Nat} {f : Nat → List AV} {g : List AV} (hh : h id = some (.row imm sz k f)) (hk : 0 < k) (hm : Rels h (f 0) g) : Rel h (.bp id 0) (.ip g) := fun X ι w v s hv => by
  simp only [V] at hv ⊢
  cases hl : ι id with
  | none => simp [hl] at hv
  | some l =>
    cases l with
    | ghost => simp [hl] at hv
    | nil => simp [hl] at hv
    | «at» b c =>
      simp only [hl] at hv
      obtain ⟨arr, TT, hc, h4, h5, h6⟩ := s.rel id _ _ hh hl
      refine ⟨b, 0, hv, s.lt hl, s.apart id b c hl, ?_⟩
      obtain ⟨h7, h8⟩ := h6 0 hk
      have h9 := Vc_weak' imm _ _ _ h8
      rw [Nat.zero_mul] at h9
      obtain ⟨vs, hvl, hvc, hvV, hv1⟩ := Vc_read h9
      exact Vc_of_Vs (hm X ι w vs s hvV) hvc hv1
theorem c_Values (l : List Int) : FC Try.prog 166 [u16s l] (.fn 177 [.ip [u16s l]]) := by
  refine FC_intro tok Try.func166 rfl (by decide +kernel) (Nat.le_of_ble_eq_true rfl) ?_
  (repeat' first | refine AWp_seq ?_ | (refine AWp_reg tok (by rfl) ?_; conv => whnf) | (refine AWp_ret ?_; conv => whnf))
  exact ⟨_, rfl, Rel.fn (Rels.cons (Rel.bp rfl Nat.zero_lt_one (Rels.imm rfl)) Rels.nil)⟩
theorem c_Collect (l : List Int) (hl : l.length ≤ maxL) : FO Try.prog 175 [.fn 177 [.ip [u16s l]]] 1 l.length (fun i => [.int .u16 (l.getD i 0)]) := by
  refine FO_intro tok Try.func175 rfl (by decide +kernel) (Nat.le_of_ble_eq_true rfl) ?_
  (repeat' first | refine AWp_seq ?_ | (refine AWp_reg tok (by rfl) ?_; conv => whnf))
  refine .inl ⟨_, _, _, uG (QC.fo (rd := []) (c_AppendSeq l hl) (Ress.imms rfl) (.inl rfl) rfl), ?_⟩
  conv => whnf
  (repeat' (refine AWp_ret ?_; conv => whnf))
  exact ⟨_, rfl, .rs rfl (Nat.le_refl _) rfl (fun _ _ => rfl)⟩
theorem c_Sorted (l : List Int) (hl : l.length ≤ maxL) : FO Try.prog 165 [.fn 177 [.ip [u16s l]]] 1 l.length (fun i => [.int .u16 ((sorted l).getD i 0)]) := by
  refine FO_intro tok Try.func165 rfl (by decide +kernel) (Nat.le_of_ble_eq_true rfl) ?_
  (repeat' first | refine AWp_seq ?_ | (refine AWp_reg tok (by rfl) ?_; conv => whnf))
  refine .inl ⟨_, _, _, uG (QC.fo (rd := []) (c_Collect l hl) (Ress.imms rfl) (.inl rfl) rfl), ?_⟩
  conv => whnf
  (repeat' first | refine AWp_seq ?_ | (refine AWp_reg tok (by rfl) ?_; conv => whnf))
  have hS := c_Sort l.length l.toArray (by simp)
  refine .inr ⟨_, _, _, uG (QH.of (dead := []) [(i0, .old (5, 0, 0), arow l.length l.toArray)] hS rfl (.old rfl (BLe.row rfl (fun x h2 => ?_)) .nil) (.cons (.eq rfl) .nil) [(i0, (5, 0, 0))] rfl (.cons (b' := .row true 1 l.length (fun i => [.int .u16 ((sorted l).getD i 0)])) rfl (BLe.row rfl (fun x h2 => ?_)) .nil) rfl), ?_⟩
  · show [AV.int .u16 (l.getD x 0)] = [.int .u16 l.toArray[x]!]
    rw [bang_list]
  · show [AV.int .u16 (Go.Sort.sort ltInt l.toArray)[x]!] = [.int .u16 ((sorted l).getD x 0)]
    rw [← bang_list]; simp [sorted]
  conv => whnf
  (repeat' first | refine AWp_seq ?_ | (refine AWp_reg tok (by rfl) ?_; conv => whnf) | (refine AWp_ret ?_; conv => whnf))
  exact ⟨_, rfl, .rs rfl (Nat.le_refl _) rfl (fun _ _ => rfl)⟩
end Go.Proofs.Ytmanpbgaihdalaa
namespace Go.Proofs.Ytmanpbgaihdalaa
open Go Dv
set_option maxRecDepth 10000
set_option linter.unusedSimpArgs false
theorem sorted_perm (l : List Int) : (sorted l).Perm l := by rw [sorted_eq]; exact List.mergeSort_perm l _
theorem sorted_asc (l : List Int) : ∀ i j, i < j → j < (sorted l).length → (sorted l).getD i 0 ≤ (sorted l).getD j 0 := by
  have h : (sorted l).Pairwise (fun x y => decide (x ≤ y) = true) := by
    rw [sorted_eq]
    exact List.pairwise_mergeSort (fun a b c h1 h2 => by simp at *; omega) (fun a b => by simp; omega) l
  intro i j hij hj
  rw [List.pairwise_iff_getElem] at h
  have := h i j (by omega) hj hij
  rw [getD_lt _ (by omega), getD_lt _ hj]; simpa using this
theorem runs_sorted (l : List Int) : runs (sorted l).toArray l.length = l.length ↔ l.Nodup := by
  have h := runs_all (sorted_asc l) l.length (by rw [sorted_len]; omega)
  rw [h, ← (sorted_perm l).nodup_iff]
  constructor
  · intro hh; exact nodup_getD (fun i hi k hk => hh i (by rw [sorted_len] at hi; exact hi) k hk)
  · intro hn x hx y hy he
    exact not_nodup (by rw [sorted_len]; exact hx) hy he hn
theorem c_lpad : LPad := by
  intro m f b
  refine FC_intro tok Try.func156 rfl (by decide +kernel) (Nat.le_of_ble_eq_true rfl) ?_
  refine AWp_facts 1 (fun hl => ?_)
  have hl0 : b.pad.catch_.length ≤ maxL := hl.2.2.1.1
  (repeat' first | refine AWp_seq ?_ | (refine AWp_reg tok (by rfl) ?_; conv => whnf) | (refine AWp_skip ?_; conv => whnf) | refine AWp_cond rfl (fun hb => ?_) (fun hb => ?_))
  · refine .inl ⟨_, _, _, uG (QC.sc (rd := []) (c_samePad b.pad ⟨0, [], false, false⟩) (.cons (.imm rfl) (.cons (.agg (.cons (.imm rfl) (.cons .nsl (.cons (.imm rfl) (.cons (.imm rfl) .nil))))) .nil)) rfl), ?_⟩
    conv => whnf
    (repeat' (refine AWp_ret ?_; conv => whnf))
    refine ⟨_, rfl, Rel.bool ?_⟩
    rw [decide_eq_decide]
    obtain ⟨land, ⟨d, c, al, cl⟩, _, _⟩ := b
    simp at hb
    simp [PadP, hb, and_assoc]
  refine .inl ⟨_, _, _, uG (QC.fc (c_Values b.pad.catch_) rfl), ?_⟩
  conv => whnf
  skip
  refine .inl ⟨_, _, _, uG (QC.fo (rd := []) (c_Sorted b.pad.catch_ hl0) (Ress.imms rfl) (.inl rfl) rfl), ?_⟩
  conv => whnf
  (repeat' first | refine AWp_seq ?_ | (refine AWp_any tok mix (by rfl) ?_; conv => whnf))
  refine .inl ⟨_, _, _, uG (QC.fc (c_place m f b.pad.dst) rfl), ?_⟩
  conv => whnf
  skip
  have hC := c_Compact b.pad.catch_.length (sorted b.pad.catch_).toArray (by simp [sorted_len])
  refine .inl ⟨_, _, _, uG (QC.turn (i := (18, 0, 0)) (rd := [(18, 0, 0)]) (b := .row true 1 0 (fun _ => [])) (List.mem_singleton.2 rfl) (fun h' hh => QH.of (dead := []) [(i0, .old (18, 0, 0), arow b.pad.catch_.length (sorted b.pad.catch_).toArray)] hC rfl (.old (hh _ (List.mem_singleton.2 rfl)) (BLe.row rfl (fun x h2 => ?_)) .nil) (.cons (.eq rfl) .nil) [(i0, (18, 0, 0))] rfl (.cons (b' := .row true 1 0 (fun _ => [])) rfl (BLe.rowW (Nat.zero_le _) (fun x h2 => absurd h2 (Nat.not_lt_zero x))) .nil) rfl)), ?_⟩
  · show [AV.int .u16 ((sorted b.pad.catch_).getD x 0)] = [.int .u16 (sorted b.pad.catch_).toArray[x]!]
    rw [bang_list]
  conv => whnf
  (repeat' (refine AWp_ret ?_; conv => whnf))
  refine ⟨_, rfl, Rel.bool ?_⟩
  have h1 := runs_sorted b.pad.catch_
  generalize runs (sorted b.pad.catch_).toArray b.pad.catch_.length = rr at h1 ⊢
  have hland : b.landing = true := by simpa using hb
  rw [Bool.eq_iff_iff]
  have e1 : ((rr : Int) = (b.pad.catch_.length : Int)) ↔ b.pad.catch_.Nodup := by rw [← h1]; omega
  have e2 : ((b.pad.catch_.length : Int) ≤ 8) ↔ b.pad.catch_.length ≤ 8 := by omega
  have e3 : (0 : Int) < (b.pad.catch_.length : Int) ↔ b.pad.catch_ ≠ [] := by
    rw [← List.length_pos_iff]; omega
  simp only [cond_eq_ite, Bool.if_false_right, Bool.if_true_left, Bool.and_eq_true, Bool.or_eq_true, decide_eq_true_eq, e1, e2, e3, PadP, hland, Bool.decide_eq_true]
  simp
  constructor
  · rintro ⟨⟨⟨h2, h3⟩, h4⟩, h5⟩
    refine ⟨h3, h4, h2, ?_⟩
    rcases h5 with (h5 | h5) | h5 <;> simp [h5]
  · rintro ⟨h3, h4, h2, h5⟩
    refine ⟨⟨⟨h2, h3⟩, h4⟩, ?_⟩
    rcases h5 with h5 | h5 | h5 <;> simp [h5]
end Go.Proofs.Ytmanpbgaihdalaa
namespace Go.Proofs.Ytmanpbgaihdalaa
open Go Dv
/-! The least set that a rule leaves as it is. -/
def leL (a b : List Bool) : Prop := ∀ i, a.getD i false = true → b.getD i false = true
theorem leL.refl (a : List Bool) : leL a a := fun _ h => h
theorem leL.trans {a b c : List Bool} (h : leL a b) (k : leL b c) : leL a c := fun i e => k i (h i e)
def cnt (a : List Bool) : Nat := a.count true
theorem cnt_le {a : List Bool} : cnt a ≤ a.length := List.count_le_length
theorem cnt_mono : ∀ {a b : List Bool}, a.length = b.length → leL a b → cnt a ≤ cnt b ∧ (cnt b ≤ cnt a → a = b)
  | [], [], _, _ => ⟨Nat.le_refl _, fun _ => rfl⟩
  | x :: a, y :: b, hl, h => by
      have hl' : a.length = b.length := by simpa using hl
      have h' : leL a b := fun i e => by have := h (i + 1) (by simpa using e); simpa using this
      have h0 : x = true → y = true := fun e => by have := h 0 (by simpa using e); simpa using this
      obtain ⟨h1, h2⟩ := cnt_mono hl' h'
      unfold cnt at h1 h2 ⊢
      cases x <;> cases y
      · refine ⟨by simpa using h1, fun k => ?_⟩
        rw [h2 (by simpa using k)]
      · refine ⟨by simp; omega, fun k => ?_⟩
        simp at k; omega
      · exact absurd (h0 rfl) (by simp)
      · refine ⟨by simpa using h1, fun k => ?_⟩
        rw [h2 (by simpa using k)]
theorem set_get {a : List Bool} {n i : Nat} (hn : n < a.length) : (a.set n true).getD i false = (decide (n = i) || a.getD i false) := by
  rw [getD_set]
  by_cases h : n = i
  · subst h; simp [hn]
  · simp [h]
theorem leL_set (a : List Bool) (n : Nat) : leL a (a.set n true) := fun i h => by
  by_cases hn : n < a.length
  · rw [set_get hn, h]; simp
  · rw [List.set_eq_of_length_le (by omega)]; exact h
theorem cnt_set {a : List Bool} {n : Nat} (hn : n < a.length) (h : a.getD n false = false) : cnt a < cnt (a.set n true) := by
  rcases Nat.lt_or_ge (cnt a) (cnt (a.set n true)) with k | k
  · exact k
  · have := (cnt_mono (by simp) (leL_set a n)).2 k
    rw [this, set_get hn] at h; simp at h
section
variable (len : Nat) (D : Nat → List Bool → Bool)
def MonoD : Prop := ∀ n a b, leL a b → D n a = true → D n b = true
structure Closed (a : List Bool) : Prop where
  sz : a.length = len
  cl : ∀ n, n < len → D n a = true → a.getD n false = true
def Beneath (a : List Bool) : Prop := ∀ c, Closed len D c → leL a c
def nxt (a : List Bool) : List Bool := (List.range len).map fun n => a.getD n false || D n a
def iterN : Nat → List Bool → List Bool
  | 0, a => a
  | k + 1, a => iterN k (nxt len D a)
def lfp : List Bool := iterN len D (len + 1) (List.replicate len false)
variable {len D}
theorem nxt_len (a : List Bool) : (nxt len D a).length = len := by simp [nxt]
theorem nxt_get (a : List Bool) {i : Nat} (hi : i < len) : (nxt len D a).getD i false = (a.getD i false || D i a) := by simp [nxt, List.getD_eq_getElem?_getD, hi]
theorem getD_ge {a : List Bool} {i : Nat} (h : a.length ≤ i) : a.getD i false = false := by simp [List.getD_eq_getElem?_getD, h]
theorem nxt_le {a : List Bool} (hl : a.length = len) : leL a (nxt len D a) := fun i h => by
  by_cases hi : i < len
  · rw [nxt_get a hi, h]; rfl
  · rw [getD_ge (by omega)] at h; cases h
theorem nxt_beneath (hD : MonoD D) {a : List Bool} (h : Beneath len D a) : Beneath len D (nxt len D a) := fun c hc i e => by
  by_cases hi : i < len
  · rw [nxt_get a hi, Bool.or_eq_true] at e
    rcases e with e | e
    · exact h c hc i e
    · exact hc.cl i hi (hD i a c (h c hc) e)
  · rw [getD_ge (by rw [nxt_len]; omega)] at e; cases e
theorem nxt_same {a : List Bool} (hl : a.length = len) (h : cnt (nxt len D a) ≤ cnt a) : Closed len D a := by
  have e := (cnt_mono (by rw [hl, nxt_len]) (nxt_le hl)).2 h
  refine ⟨hl, fun n hn hd => ?_⟩
  rw [e, nxt_get a hn, hd]; simp
theorem nxt_closed {a : List Bool} (h : Closed len D a) : nxt len D a = a := by
  refine list_ext_getD false (by rw [nxt_len, h.sz]) (fun i hi => ?_)
  rw [nxt_len] at hi
  rw [nxt_get a hi]
  cases e : D i a with
  | false => simp
  | true => rw [h.cl i hi e]; rfl
theorem iterN_ok (hD : MonoD D) : ∀ (k : Nat) (a : List Bool), a.length = len → Beneath len D a → (iterN len D k a).length = len ∧ Beneath len D (iterN len D k a) ∧ (Closed len D (iterN len D k a) ∨ k + cnt a ≤ cnt (iterN len D k a))
  | 0, a, hl, hb => ⟨hl, hb, .inr (by simp [iterN])⟩
  | k + 1, a, hl, hb => by
      have ih := iterN_ok hD k (nxt len D a) (nxt_len a) (nxt_beneath hD hb)
      simp only [iterN]
      refine ⟨ih.1, ih.2.1, ?_⟩
      by_cases hc : cnt (nxt len D a) ≤ cnt a
      · have h0 := nxt_same hl hc
        left
        have : ∀ k, iterN len D k a = a := fun k => by
          induction k with
          | zero => rfl
          | succ k ih => rw [iterN, nxt_closed h0, ih]
        rw [nxt_closed h0, this k]; exact h0
      · rcases ih.2.2 with h | h
        · exact .inl h
        · right; omega
theorem lfp_ok (hD : MonoD D) : Closed len D (lfp len D) ∧ Beneath len D (lfp len D) := by
  have h0 : Beneath len D (List.replicate len false) := fun c _ i e => by
    exfalso; simp only [List.getD_eq_getElem?_getD, List.getElem?_replicate] at e; split at e <;> simp at e
  have := iterN_ok hD (len + 1) (List.replicate len false) (by simp) h0
  refine ⟨?_, this.2.1⟩
  rcases this.2.2 with h | h
  · exact h
  · have h2 : cnt (iterN len D (len + 1) (List.replicate len false)) ≤ (iterN len D (len + 1) (List.replicate len false)).length := cnt_le
    rw [this.1] at h2; omega
theorem lfp_uniq (hD : MonoD D) {a : List Bool} (h1 : Closed len D a) (h2 : Beneath len D a) : a = lfp len D := by
  obtain ⟨h3, h4⟩ := lfp_ok hD (len := len)
  refine list_ext_getD false (by rw [h1.sz, h3.sz]) (fun i _ => ?_)
  have e1 := h2 _ h3 i
  have e2 := h4 _ h1 i
  cases hx : a.getD i false <;> cases hy : (lfp len D).getD i false
  · rfl
  · rw [e2 hy] at hx; cases hx
  · rw [e1 hx] at hy; cases hy
  · rfl
end
end Go.Proofs.Ytmanpbgaihdalaa
namespace Go.Proofs.Ytmanpbgaihdalaa
open Go Dv
set_option maxRecDepth 10000
set_option linter.unusedSimpArgs false
def hasB (l : List Int) (n : Int) : Bool := l.any fun y => decide (n = y)
def isAt (is : List Bool) (n : Int) : Bool := is.getD n.toNat false
def callsB (b : Block) (is : List Bool) : Bool := b.ins.any fun x => bif decide (x.op = 11) then isAt is x.f else false
def outB (f : Func) (b : Block) (is : List Bool) : Bool := decide (b.fin.kind = 5) || (decide (b.fin.kind = 6) || ((bif decide (b.fin.kind = 4) then bif isAt is b.fin.f then !(f.blocks.getD b.fin.pad.toNat default).pad.all else false else false) || callsB b is))
def doB (ops : List Int) (_ : Func) (b : Block) (is : List Bool) : Bool := (bif decide (b.fin.kind = 4) then isAt is b.fin.f else false) || (callsB b is || b.ins.any fun x => hasB ops x.op)
structure OkB (nf nb : Nat) (b : Block) : Prop where
  fn : b.fin.kind = 4 → 0 ≤ b.fin.f ∧ b.fin.f < nf
  pad : b.fin.kind = 4 → 0 ≤ b.fin.pad ∧ b.fin.pad < nb
  ins : ∀ i, i < b.ins.length → (b.ins.getD i default).op = 11 → 0 ≤ (b.ins.getD i default).f ∧ (b.ins.getD i default).f < nf
theorem all_at {α : Type} (d : α) {p : α → Bool} {l : List α} (h : l.all p = true) {i : Nat} (hi : i < l.length) : p (l.getD i d) = true := by
  rw [List.all_eq_true] at h; rw [getD_lt d hi]; exact h _ (List.getElem_mem hi)
theorem args_in {m : Module} {f : Func} {n : Int} {l : List Int} (h : argsB m f n l = true) : 0 ≤ n ∧ n < m.funcs.length := by
  unfold argsB at h
  cases h1 : inn n m.funcs.length with
  | true => exact (inn_iff _ _).1 h1
  | false => rw [h1] at h; simp at h
theorem right_funcs {m : Module} (h : rightB m = true) {n : Nat} (hn : n < m.funcs.length) : funcB m (m.funcs.getD n default) = true := by
  unfold rightB at h; rw [Bool.and_eq_true] at h
  exact all_at default h.2 hn
theorem func_blocks {m : Module} {f : Func} (h : funcB m f = true) {i : Nat} (hi : i < f.blocks.length) : blkB m f (f.blocks.getD i default) = true := by
  unfold funcB at h; rw [Bool.and_eq_true] at h
  exact all_at default h.2 hi
theorem blk_ok {m : Module} {f : Func} {b : Block} (h : blkB m f b = true) : OkB m.funcs.length f.blocks.length b := by
  unfold blkB at h; rw [Bool.and_eq_true, decide_eq_true_eq] at h
  obtain ⟨⟨_, _, he⟩, hi⟩ := h
  have k4 : b.fin.kind = 4 → argsB m f b.fin.f b.fin.args = true ∧ inn b.fin.pad f.blocks.length = true := fun k => by
    rcases he with h | h | h | h | h
    · omega
    · omega
    · omega
    · exact ⟨h.2.2.2.1, h.2.2.2.2.2.2.1⟩
    · omega
  refine ⟨fun k => args_in (k4 k).1, fun k => (inn_iff _ _).1 (k4 k).2, fun i hi' k => ?_⟩
  have := all_at default hi hi'
  rw [decide_eq_true_eq] at this
  rcases this with h | h | h | h | h | h | h
  · omega
  · omega
  · omega
  · omega
  · exact args_in h.2.2.2.2.2
  · omega
  · omega
theorem c_called1 (x : Ins) (is : List Bool) (h : x.op = 11 → 0 ≤ x.f ∧ x.f < is.length) : FC Try.prog 110 [.agg (encIns x), .ip [bools is]] (.bool (bif decide (x.op = 11) then isAt is x.f else false)) := by
  refine FC_intro tok Try.func110 rfl (by decide +kernel) (Nat.le_of_ble_eq_true rfl) ?_
  ((repeat' first | refine AWp_seq ?_ | (refine AWp_reg tok (by rfl) ?_; conv => whnf) | (refine AWp_ret ?_; conv => whnf) | (refine @And.intro (underG _ _ _ _) _ ?_ ?_; rotate_left; (conv => whnf); rotate_right)); all_goals (try ((guard_target = underG _ _ _ _); ((refine underG_some ?_; intro hgd; (conv at hgd => whnf))); (all_goals (try simp only [underG, true_and, and_true, Bool.cond_true_left, Bool.cond_false_left, Bool.cond_true_right, Bool.cond_false_right, Bool.or_eq_true, Bool.and_eq_true, Bool.or_eq_false_iff, Bool.and_eq_false_iff, cond_true, cond_false, Bool.not_eq_eq_eq_not, Bool.not_true, Bool.not_false, decide_eq_true_eq, decide_eq_false_iff_not, Int.toNat_natCast, Nat.zero_add, Decidable.not_not, maxL, inn_iff] at *)); all_goals omega)))
  exact ⟨_, rfl, Rel.imm rfl⟩
theorem c_called (b : Block) (is : List Bool) {nf nb : Nat} (h : OkB nf nb b) (hn : is.length = nf) : FC Try.prog 68 [.agg (encBlock b), bools is] (.bool (callsB b is)) := by
  refine FC_intro tok Try.func68 rfl (by decide +kernel) (Nat.le_of_ble_eq_true rfl) ?_
  (repeat' first | refine AWp_seq ?_ | (refine AWp_reg tok (by rfl) ?_; conv => whnf))
  refine .inl ⟨_, _, _, uG (QC.sc (rd := [(3, 0, 0)]) (c_HasInsM (g := 110) (cap := [.ip [bools is]]) (p := fun x => bif decide (x.op = 11) then isAt is x.f else false) rfl b.ins (fun i hi => c_called1 _ is (by subst hn; exact h.ins i hi))) (.cons (.imm rfl) (.cons (.fn (.cons (.ip rfl (List.mem_singleton.2 rfl) (by decide) (Ress.imms rfl)) .nil)) .nil)) rfl), ?_⟩
  conv => whnf
  (repeat' (refine AWp_ret ?_; conv => whnf))
  exact ⟨_, rfl, Rel.imm rfl⟩
theorem c_Out1 (f : Func) (b : Block) (is : List Bool) {nf : Nat} (h : OkB nf f.blocks.length b) (hn : is.length = nf) : FC Try.prog 67 [.agg (encFunc f), .agg (encBlock b), bools is] (.bool (outB f b is)) := by
  refine FC_intro tok Try.func67 rfl (by decide +kernel) (Nat.le_of_ble_eq_true rfl) ?_
  have h1 := h.fn
  have h2 := h.pad
  subst hn
  ((repeat' first | refine AWp_seq ?_ | (refine AWp_reg tok (by rfl) ?_; conv => whnf) | refine AWp_block ?_ | (refine AWp_skip ?_; conv => whnf) | (refine AWp_ret ?_; conv => whnf) | refine AWp_cond rfl (fun hb => ?_) (fun hb => ?_) | (refine @And.intro (underG _ _ _ _) _ ?_ ?_; rotate_left; (conv => whnf); rotate_right)); all_goals (try ((guard_target = underG _ _ _ _); (first | refine underG_none ?_ | (refine underG_some ?_; intro hgd; (conv at hgd => whnf))); (all_goals (try simp only [underG, true_and, and_true, Bool.cond_true_left, Bool.cond_false_left, Bool.cond_true_right, Bool.cond_false_right, Bool.or_eq_true, Bool.and_eq_true, Bool.or_eq_false_iff, Bool.and_eq_false_iff, cond_true, cond_false, Bool.not_eq_eq_eq_not, Bool.not_true, Bool.not_false, decide_eq_true_eq, decide_eq_false_iff_not, Int.toNat_natCast, Nat.zero_add, Decidable.not_not, maxL, inn_iff] at *)); all_goals omega)))
  all_goals (try (refine .inl ⟨_, _, _, uG (QC.fc (c_called b is h rfl) rfl), ?_⟩; conv => whnf))
  (repeat' (refine AWp_ret ?_; conv => whnf))
  all_goals (refine ⟨_, rfl, Rel.bool ?_⟩)
  all_goals (unfold outB isAt)
  all_goals first
    | (exfalso; simp only [decide_eq_true_eq, decide_eq_false_iff_not] at *; omega)
    | (rename_i k5 k6 k4; rw [k5, k6, k4]; simp only [cond_true]; rw [hb]; rfl)
    | (simp only [decide_eq_true_eq, decide_eq_false_iff_not] at *; simp [*]; done)
theorem c_spread1 {g : FuncId} {cap : List AV} {r : Bool} (f : Func) (b : Block) (is : List Bool) (hi : immDs cap = true) (hg : FC Try.prog g (.agg (encFunc f) :: .agg (encBlock b) :: bools is :: cap) (.bool r)) : FC Try.prog 109 [.agg (encBlock b), .ip [.fn g cap], .ip (encFunc f), .ip [bools is]] (.bool r) := by
  refine FC_intro tok Try.func109 rfl (by decide +kernel) (Nat.le_of_ble_eq_true rfl) ?_
  (repeat' first | refine AWp_seq ?_ | (refine AWp_reg tok (by rfl) ?_; conv => whnf) | (refine (forceL_eq _ _).mpr ?_; conv => whnf))
  refine .inl ⟨_, _, _, uG (QC.fc hg (immDs_app (xs := [.agg (encFunc f), .agg (encBlock b), bools is]) rfl hi)), ?_⟩
  conv => whnf
  (repeat' (refine AWp_ret ?_; conv => whnf))
  exact ⟨_, rfl, Rel.imm rfl⟩
def ruleOf (does : Func → Block → List Bool → Bool) (m : Module) (n : Nat) (is : List Bool) : Bool := (m.funcs.getD n default).blocks.any fun b => does (m.funcs.getD n default) b is
def spreadL (does : Func → Block → List Bool → Bool) (m : Module) : List Bool := if rightB m = true then lfp m.funcs.length (ruleOf does m) else []
theorem c_spread {g : FuncId} {cap : List AV} (does : Func → Block → List Bool → Bool) (m : Module) (hi : immDs cap = true)
    (hg : rightB m = true → ∀ n, n < m.funcs.length → ∀ i, i < (m.funcs.getD n default).blocks.length → ∀ is : List Bool, is.length = m.funcs.length →
      FC Try.prog g (.agg (encFunc (m.funcs.getD n default)) :: .agg (encBlock ((m.funcs.getD n default).blocks.getD i default)) :: bools is :: cap) (.bool (does (m.funcs.getD n default) ((m.funcs.getD n default).blocks.getD i default) is)))
    (hmono : ∀ f b, ∀ is js, leL is js → does f b is = true → does f b js = true) :
    FO Try.prog 66 [.agg (encMod m), .fn g cap] 1 (spreadL does m).length (fun i => [.bool ((spreadL does m).getD i false)]) := by
  refine FO_intro tok Try.func66 rfl (by decide +kernel) (Nat.le_of_ble_eq_true rfl) ?_
  refine AWp_facts 0 (fun hl => ?_)
  have hl0 : m.funcs.length ≤ maxL := hl.1.1
  (repeat' first | refine AWp_seq ?_ | (refine AWp_reg tok (by rfl) ?_; conv => whnf) | (refine (forceL_eq _ _).mpr ?_; conv => whnf))
  refine .inl ⟨_, _, _, uG (QC.fc (c_lRight c_lpad m) rfl), ?_⟩
  conv => whnf
  ((repeat' first | refine AWp_seq ?_ | (refine AWp_reg tok (by rfl) ?_; conv => whnf) | refine AWp_block ?_ | (refine AWp_skip ?_; conv => whnf) | (refine AWp_ret ?_; conv => whnf) | refine AWp_cond rfl (fun hb => ?_) (fun hb => ?_) | (refine @And.intro (underG _ _ _ _) _ ?_ ?_; rotate_left; (conv => whnf); rotate_right)); all_goals (try ((guard_target = underG _ _ _ _); refine underG_none ?_; (all_goals (try simp only [underG, true_and, and_true, Bool.cond_true_left, Bool.cond_false_left, Bool.cond_true_right, Bool.cond_false_right, Bool.or_eq_true, Bool.and_eq_true, Bool.or_eq_false_iff, Bool.and_eq_false_iff, cond_true, cond_false, Bool.not_eq_eq_eq_not, Bool.not_true, Bool.not_false, decide_eq_true_eq, decide_eq_false_iff_not, Int.toNat_natCast, Nat.zero_add, Decidable.not_not, maxL, inn_iff] at *)); all_goals omega)))
  · refine ⟨_, rfl, RelO.nsl' ?_⟩
    have : rightB m = false := by simpa using hb
    simp [spreadL, this]
  have hr : rightB m = true := by simpa using hb
  have hsp : spreadL does m = lfp m.funcs.length (ruleOf does m) := by simp [spreadL, hr]
  have hD : MonoD (ruleOf does m) := fun n a b h k => by
    unfold ruleOf at k ⊢
    rw [List.any_eq_true] at k ⊢
    obtain ⟨x, hx, hk⟩ := k
    exact ⟨x, hx, hmono _ _ _ _ h hk⟩
  rw [hsp]
  replace hg := hg hr
  generalize hDe : ruleOf does m = D at *
  clear hb
  refine AWp_loop (fun q : Bool × List Bool => mkS [(2, .bp (2, 0, 0) 0), (3, .bp (3, 0, 0) 0), (5, .bp (5, 0, 0) 0), (6, .bool q.1)]
      [((2, 0, 0), boxed (encMod m)), ((3, 0, 0), boxed [.fn g cap]), ((5, 0, 0), .row false 1 1 (fun _ => [.rs (15, 0, 0) 1 0 m.funcs.length])), ((15, 0, 0), .row true 1 m.funcs.length (fun i => [.bool (q.2.getD i false)]))])
    (fun q => q.2.length = m.funcs.length ∧ Beneath m.funcs.length D q.2 ∧ (q.1 = true ∨ Closed m.funcs.length D q.2)) (fun q => 2 * (m.funcs.length - cnt q.2) + (if q.1 = true then 1 else 0)) (true, List.replicate m.funcs.length false)
      ⟨by simp, fun c _ i e => by exfalso; simp only [List.getD_eq_getElem?_getD, List.getElem?_replicate] at e; split at e <;> simp at e, .inl rfl⟩ ?_ ?_
  · refine Weak.list [((2, 0, 0), .old (2, 0, 0), boxed (encMod m)), ((3, 0, 0), .old (3, 0, 0), boxed [.fn g cap]), ((5, 0, 0), .old (5, 0, 0), .row false 1 1 (fun _ => [.rs (15, 0, 0) 1 0 m.funcs.length])), ((15, 0, 0), .old (15, 0, 0), .row true 1 m.funcs.length (fun i => [.bool ((List.replicate m.funcs.length false).getD i false)]))] rfl (by rfl) ?_ (.old rfl (BLe.refl _) (.old rfl (BLe.boxI (by simp [immDs, immD, hi])) (.old rfl (BLe.rowO rfl) (.old rfl (BLe.rowW (Nat.le_refl _) (fun z hz => ?_)) .nil))))
    · ((repeat' first | exact TLes.nil | refine TLes.cons (TLe.eq rfl) ?_); skip)
    · exact Wks.of (by simp [List.getD_eq_getElem?_getD, List.getElem?_replicate]; split <;> rfl)
  rintro ⟨more, is⟩ ⟨hlen, hbe, hmc⟩
  simp only at hlen hbe hmc ⊢
  (repeat' ((fail_if_success (show AWp _ _ _ (Code.region 8 _ _) _ _)); first | refine AWp_seq ?_ | (refine AWp_reg tok (by rfl) ?_; conv => whnf) | refine AWp_block ?_ | (refine AWp_skip ?_; conv => whnf) | (refine AWp_exit ?_; conv => whnf) | (refine AWp_ret ?_; conv => whnf) | refine AWp_cond rfl (fun hb => ?_) (fun hb => ?_)))
  · have hm : more = true := hb
    subst hm
    refine AWp_loop (fun q : Nat × Bool × List Bool => mkS [(2, .bp (2, 0, 0) 0), (3, .bp (3, 0, 0) 0), (5, .bp (5, 0, 0) 0), (6, .bool q.2.1), (18, funcss m.funcs), (19, iv m.funcs.length), (20, iv q.1)]
        [((2, 0, 0), boxed (encMod m)), ((3, 0, 0), boxed [.fn g cap]), ((5, 0, 0), .row false 1 1 (fun _ => [.rs (15, 0, 0) 1 0 m.funcs.length])), ((15, 0, 0), .row true 1 m.funcs.length (fun i => [.bool (q.2.2.getD i false)]))])
      (fun q => q.1 ≤ m.funcs.length ∧ q.2.2.length = m.funcs.length ∧ Beneath m.funcs.length D q.2.2 ∧ ((q.2.1 = true ∧ cnt is < cnt q.2.2) ∨ (q.2.1 = false ∧ q.2.2 = is ∧ ∀ j, j < q.1 → D j is = true → is.getD j false = true)))
      (fun q => m.funcs.length - q.1) (0, false, is) ⟨Nat.zero_le _, hlen, hbe, .inr ⟨rfl, rfl, fun j hj => absurd hj (Nat.not_lt_zero j)⟩⟩ ?_ ?_
    · refine Weak.list [((2, 0, 0), .old (2, 0, 0), boxed (encMod m)), ((3, 0, 0), .old (3, 0, 0), boxed [.fn g cap]), ((5, 0, 0), .old (5, 0, 0), .row false 1 1 (fun _ => [.rs (15, 0, 0) 1 0 m.funcs.length])), ((15, 0, 0), .old (15, 0, 0), .row true 1 m.funcs.length (fun i => [.bool (is.getD i false)]))] rfl (by rfl) ?_ (.old rfl (BLe.refl _) (.old rfl (BLe.boxI (by simp [immDs, immD, hi])) (.old rfl (BLe.refl _) (.old rfl (BLe.refl _) .nil))))
      ((repeat' first | exact TLes.nil | refine TLes.cons (TLe.eq rfl) ?_); skip)
    rintro ⟨n, mo, js⟩ ⟨hn, hl2, hb2, hcase⟩
    simp only at hn hl2 hb2 hcase ⊢
    ((repeat' ((fail_if_success (show AWp _ _ _ (Code.region 11 _ _) _ _)); first | refine AWp_seq ?_ | (refine AWp_reg tok (by rfl) ?_; conv => whnf) | refine AWp_block ?_ | (refine AWp_skip ?_; conv => whnf) | (refine AWp_exit ?_; conv => whnf) | refine AWp_cond rfl (fun hb => ?_) (fun hb => ?_) | (refine @And.intro (underG _ _ _ _) _ ?_ ?_; rotate_left; (conv => whnf); rotate_right))); all_goals (try ((guard_target = underG _ _ _ _); refine underG_none ?_; (all_goals (try simp only [underG, true_and, and_true, Bool.cond_true_left, Bool.cond_false_left, Bool.cond_true_right, Bool.cond_false_right, Bool.or_eq_true, Bool.and_eq_true, Bool.or_eq_false_iff, Bool.and_eq_false_iff, cond_true, cond_false, Bool.not_eq_eq_eq_not, Bool.not_true, Bool.not_false, decide_eq_true_eq, decide_eq_false_iff_not, Int.toNat_natCast, Nat.zero_add, Decidable.not_not, maxL, inn_iff] at *)); all_goals omega)))
    · have hlt : n < m.funcs.length := by simp only [decide_eq_true_eq] at hb; omega
      have hnn : (n : Int).toNat = n := Int.toNat_natCast n
      have hrule : ruleOf does m n js = D n js := by rw [← hDe]
      refine .inl ⟨_, _, _, uG (QC.sc (rd := [(3, 0, 0), (8, 0, 0), (5, 0, 0), (15, 0, 0)]) (r := .bool (ruleOf does m n js)) (c_HasBlockM (g := 109) (cap := [.ip [.fn g cap], .ip (encFunc (m.funcs.getD n default)), .ip [bools js]]) (p := fun b => does (m.funcs.getD n default) b js) rfl (m.funcs.getD n default).blocks (fun i hi2 => c_spread1 _ _ js hi (hg n hlt i hi2 js hl2))) ?_ rfl), ?_⟩
      · refine .cons (.imm rfl) (.cons (.fn (.cons (.ip rfl (memI_iff.1 rfl) Nat.zero_lt_one (Ress.imms (by simp [immDs, immD, hi]))) (.cons (.ip rfl (memI_iff.1 rfl) Nat.zero_lt_one (Ress.imms rfl)) (.cons (.ip rfl (memI_iff.1 rfl) Nat.zero_lt_one (.cons (.row rfl (memI_iff.1 rfl) rfl hl2.symm (fun _ _ => rfl)) .nil)) .nil)))) .nil)
      conv => whnf
      rw [hrule]
      ((repeat' first | (refine AWp_reg tok (by rfl) ?_; conv => whnf) | (refine AWp_skip ?_; conv => whnf) | refine AWp_cond rfl (fun hb => ?_) (fun hb => ?_) | (refine @And.intro (underG _ _ _ _) _ ?_ ?_; rotate_left; (conv => whnf); rotate_right)); all_goals (try ((guard_target = underG _ _ _ _); refine underG_none ?_; (all_goals (try simp only [underG, true_and, and_true, Bool.cond_true_left, Bool.cond_false_left, Bool.cond_true_right, Bool.cond_false_right, Bool.or_eq_true, Bool.and_eq_true, Bool.or_eq_false_iff, Bool.and_eq_false_iff, cond_true, cond_false, Bool.not_eq_eq_eq_not, Bool.not_true, Bool.not_false, decide_eq_true_eq, decide_eq_false_iff_not, Int.toNat_natCast, Nat.zero_add, Decidable.not_not, maxL, inn_iff] at *)); all_goals omega)))
      · have hz : js.getD n false = false ∧ D n js = true := by
          rw [hnn, Nat.zero_add] at hb
          cases h1 : js.getD n false <;> cases h2 : D n js <;> rw [h1, h2] at hb <;> simp at hb ⊢
        refine ⟨(n + 1, true, js.set n true), ⟨by simp; omega, by simp [hl2], fun c hc i e => ?_, .inl ⟨rfl, ?_⟩⟩, by simp; omega, ?_⟩
        · simp only at e
          rw [set_get (by omega), Bool.or_eq_true] at e
          rcases e with e | e
          · have : n = i := by simpa using e
            subst this
            exact hc.cl n hlt (hD n js c (hb2 c hc) hz.2)
          · exact hb2 c hc i e
        · have := cnt_set (a := js) (n := n) (by omega) hz.1
          rcases hcase with h | h
          · simp only; omega
          · rw [h.2.1] at this; simp only; rw [h.2.1]; exact this
        refine Weak.list [((2, 0, 0), .old (2, 0, 0), boxed (encMod m)), ((3, 0, 0), .old (3, 0, 0), boxed [.fn g cap]), ((5, 0, 0), .old (5, 0, 0), .row false 1 1 (fun _ => [.rs (15, 0, 0) 1 0 m.funcs.length])), ((15, 0, 0), .old (15, 0, 0), .row true 1 m.funcs.length (fun i => [.bool ((js.set n true).getD i false)]))] rfl (by rfl) ?_ (.old rfl (BLe.refl _) (.old rfl (BLe.boxI (by simp [immDs, immD, hi])) (.old rfl (BLe.refl _) (.old rfl (BLe.rowW (Nat.le_refl _) (fun z hz2 => Wks.of ?_)) .nil))))
        · ((repeat' first | exact TLes.nil | refine TLes.cons (TLe.eq rfl) ?_ | refine TLes.cons (TLe.int ?_) ?_); (all_goals first | ((try (simp only [underG, true_and, and_true, Bool.cond_true_left, Bool.cond_false_left, Bool.cond_true_right, Bool.cond_false_right, Bool.or_eq_true, Bool.and_eq_true, Bool.or_eq_false_iff, Bool.and_eq_false_iff, cond_true, cond_false, Bool.not_eq_eq_eq_not, Bool.not_true, Bool.not_false, decide_eq_true_eq, decide_eq_false_iff_not, Int.toNat_natCast, Nat.zero_add, Decidable.not_not, maxL, inn_iff] at *)); exact wrap64 (by omega) (by omega)) | skip))
        · exact upd_row' (fun b => [AV.bool b]) false js (by omega) (by simp) rfl z
      · refine ⟨(n + 1, mo, js), ⟨by simp; omega, hl2, hb2, ?_⟩, by simp; omega, ?_⟩
        · rcases hcase with h | ⟨h1, h2, h3⟩
          · exact .inl h
          · refine .inr ⟨h1, h2, fun j hj hd => ?_⟩
            by_cases e : j = n
            · subst e
              rw [hnn, Nat.zero_add, h2, hd] at hb
              cases h4 : is.getD j false with
              | true => rfl
              | false => rw [h4] at hb; simp at hb
            · exact h3 j (by simp at hj; omega) hd
        refine Weak.list [((2, 0, 0), .old (2, 0, 0), boxed (encMod m)), ((3, 0, 0), .old (3, 0, 0), boxed [.fn g cap]), ((5, 0, 0), .old (5, 0, 0), .row false 1 1 (fun _ => [.rs (15, 0, 0) 1 0 m.funcs.length])), ((15, 0, 0), .old (15, 0, 0), .row true 1 m.funcs.length (fun i => [.bool (js.getD i false)]))] rfl (by rfl) ?_ (.old rfl (BLe.refl _) (.old rfl (BLe.boxI (by simp [immDs, immD, hi])) (.old rfl (BLe.refl _) (.old rfl (BLe.refl _) .nil))))
        ((repeat' first | exact TLes.nil | refine TLes.cons (TLe.eq rfl) ?_ | refine TLes.cons (TLe.int ?_) ?_); (all_goals first | ((try (simp only [underG, true_and, and_true, Bool.cond_true_left, Bool.cond_false_left, Bool.cond_true_right, Bool.cond_false_right, Bool.or_eq_true, Bool.and_eq_true, Bool.or_eq_false_iff, Bool.and_eq_false_iff, cond_true, cond_false, Bool.not_eq_eq_eq_not, Bool.not_true, Bool.not_false, decide_eq_true_eq, decide_eq_false_iff_not, Int.toNat_natCast, Nat.zero_add, Decidable.not_not, maxL, inn_iff] at *)); exact wrap64 (by omega) (by omega)) | skip))
    · have hn2 : n = m.funcs.length := by simp only [decide_eq_false_iff_not] at hb; omega
      refine ⟨(mo, js), ⟨hl2, hb2, ?_⟩, ?_, ?_⟩
      · rcases hcase with h | ⟨h1, h2, h3⟩
        · exact .inl h.1
        · exact .inr ⟨hl2, fun j hj hd => by simp only at hd ⊢; rw [h2] at hd ⊢; exact h3 j (by omega) hd⟩
      · have hle := cnt_le (a := js)
        rcases hcase with ⟨h1, h2⟩ | ⟨h1, h2, h3⟩
        · simp only [h1, if_true]; omega
        · simp only [h1, h2]; simp
      refine Weak.list [((2, 0, 0), .old (2, 0, 0), boxed (encMod m)), ((3, 0, 0), .old (3, 0, 0), boxed [.fn g cap]), ((5, 0, 0), .old (5, 0, 0), .row false 1 1 (fun _ => [.rs (15, 0, 0) 1 0 m.funcs.length])), ((15, 0, 0), .old (15, 0, 0), .row true 1 m.funcs.length (fun i => [.bool (js.getD i false)]))] rfl (by rfl) ?_ (.old rfl (BLe.refl _) (.old rfl (BLe.boxI (by simp [immDs, immD, hi])) (.old rfl (BLe.refl _) (.old rfl (BLe.refl _) .nil))))
      ((repeat' first | exact TLes.nil | refine TLes.cons (TLe.eq rfl) ?_); skip)
  · have hm : more = false := by simpa using hb
    have hcl : Closed m.funcs.length D is := by rcases hmc with h | h; (rw [hm] at h; cases h); exact h
    have he := lfp_uniq hD hcl hbe
    skip
    refine ⟨_, rfl, .rs rfl (Nat.le_refl _) ?_ (fun _ _ => ?_)⟩
    · rw [← he, hlen]
    · rw [← he]
end Go.Proofs.Ytmanpbgaihdalaa
namespace Go.Proofs.Ytmanpbgaihdalaa
open Go Dv
set_option maxRecDepth 10000
set_option linter.unusedSimpArgs false
/-! Laying calls open: small functions, moved instructions. -/
def smallF (f : Func) : Bool := decide (f.blocks.length = 1 ∧ f.regs ≤ 16 ∧ (f.blocks.getD 0 default).ins.length ≤ 16 ∧ (f.blocks.getD 0 default).fin.kind = 1) && !((f.blocks.getD 0 default).ins.any fun x => decide (x.op = 11))
abbrev wi (x : Int) : Int := IntKind.i64.wrap x
def mv1 (x : Ins) (n : Int) : Ins :=
  { x with dst := if x.op ≠ 10 ∧ x.op ≠ 12 then wi (x.dst + n) else x.dst, a := if x.op ≠ 1 ∧ x.op ≠ 13 then wi (x.a + n) else x.a, b := if x.op ≠ 1 ∧ x.op ≠ 13 ∧ x.op ≠ 2 ∧ x.op ≠ 9 ∧ x.op ≠ 12 then wi (x.b + n) else x.b }
def mv2 (x : Ins) (n : Int) : Ins :=
  { x with dst := if x.op ≠ 10 ∧ x.op ≠ 12 then wi (x.dst + n) else x.dst, a := if x.op ≠ 1 ∧ x.op ≠ 13 then wi (x.a + n) else x.a, b := if (3 ≤ x.op ∧ x.op ≤ 8) ∨ x.op = 10 then wi (x.b + n) else x.b }
theorem mv_eq {x : Ins} (n : Int) (h : 1 ≤ x.op ∧ x.op ≤ 13 ∧ x.op ≠ 11) : mv2 x n = mv1 x n := by
  unfold mv1 mv2
  have hc : ((3 ≤ x.op ∧ x.op ≤ 8) ∨ x.op = 10) ↔ (x.op ≠ 1 ∧ x.op ≠ 13 ∧ x.op ≠ 2 ∧ x.op ≠ 9 ∧ x.op ≠ 12) := by omega
  simp only [hc]
theorem c_small1 (x : Ins) : FC Try.prog 86 [.agg (encIns x)] (.bool (decide (x.op = 11))) := by
  refine FC_intro tok Try.func86 rfl (by decide +kernel) (Nat.le_of_ble_eq_true rfl) ?_
  (repeat' first | refine AWp_seq ?_ | (refine AWp_reg tok (by rfl) ?_; conv => whnf) | (refine AWp_ret ?_; conv => whnf))
  exact ⟨_, rfl, Rel.imm rfl⟩
theorem c_Small (f : Func) : FC Try.prog 42 [.agg (encFunc f)] (.bool (smallF f)) := by
  refine FC_intro tok Try.func42 rfl (by decide +kernel) (Nat.le_of_ble_eq_true rfl) ?_
  refine AWp_facts 0 (fun hl => ?_)
  have hl0 : f.blocks.length ≤ maxL := hl.2.2.1.1
  clear hl
  ((repeat' first | refine AWp_seq ?_ | (refine AWp_reg tok (by rfl) ?_; conv => whnf) | (refine AWp_skip ?_; conv => whnf) | (refine AWp_ret ?_; conv => whnf) | refine AWp_cond rfl (fun hb => ?_) (fun hb => ?_) | (refine @And.intro (underG _ _ _ _) _ ?_ ?_; rotate_left; (conv => whnf); rotate_right)); all_goals (try ((guard_target = underG _ _ _ _); refine underG_none ?_; (all_goals (try simp only [underG, true_and, and_true, Bool.cond_true_left, Bool.cond_false_left, Bool.cond_true_right, Bool.cond_false_right, Bool.or_eq_true, Bool.and_eq_true, Bool.or_eq_false_iff, Bool.and_eq_false_iff, cond_true, cond_false, Bool.not_eq_eq_eq_not, Bool.not_true, Bool.not_false, decide_eq_true_eq, decide_eq_false_iff_not, Int.toNat_natCast, Nat.zero_add, Decidable.not_not, maxL, inn_iff] at *)); all_goals omega)))
  · refine ⟨_, rfl, Rel.bool ?_⟩
    unfold smallF
    have : ¬ (f.blocks.length = 1 ∧ f.regs ≤ 16 ∧ (f.blocks.getD 0 default).ins.length ≤ 16 ∧ (f.blocks.getD 0 default).fin.kind = 1) := by
      intro h; simp [h.1] at hb; omega
    rw [decide_eq_false this]; rfl
  have h1 : f.blocks.length = 1 ∧ f.regs ≤ 16 := by simp at hb; omega
  refine .inl ⟨_, _, _, uG (QC.fc (c_HasIns (g := 86) (cap := []) (p := fun x => decide (x.op = 11)) rfl c_small1 (f.blocks.getD 0 default).ins) rfl), ?_⟩
  conv => whnf
  (repeat' first | refine AWp_seq ?_ | (refine AWp_reg tok (by rfl) ?_; conv => whnf) | (refine AWp_ret ?_; conv => whnf))
  refine ⟨_, rfl, Rel.bool ?_⟩
  unfold smallF
  rw [Bool.eq_iff_iff]
  simp [h1]
  grind
theorem c_moved (x : Ins) (n : Int) : FC Try.prog 143 [.agg (encIns x), iv n] (.agg (encIns (mv1 x n))) := by
  refine FC_intro tok Try.func143 rfl (by decide +kernel) (Nat.le_of_ble_eq_true rfl) ?_
  (repeat' first | refine AWp_seq ?_ | (refine AWp_reg tok (by rfl) ?_; conv => whnf) | refine AWp_block ?_ | (refine AWp_skip ?_; conv => whnf) | (refine AWp_ret ?_; conv => whnf) | refine AWp_cond rfl (fun hb => ?_) (fun hb => ?_))
  all_goals
    refine ⟨_, rfl, Rel.agg (.cons (Rel.imm rfl) (.cons (Rel.int ?_) (.cons (Rel.int ?_) (.cons (Rel.int ?_) (.cons (Rel.imm rfl) (.cons (Rel.imm rfl) (.cons (Rel.imm rfl) .nil)))))))⟩
  all_goals simp only [Bool.not_eq_eq_eq_not, Bool.cond_false_right, Bool.cond_true_left, Bool.cond_true_right, Bool.and_eq_true, Bool.and_eq_false_iff, Bool.or_eq_true, Bool.or_eq_false_iff, Bool.not_true, Bool.not_false, decide_eq_true_eq, decide_eq_false_iff_not] at *
  all_goals (simp only [mv1]; first | (rw [if_pos (by omega)]; done) | (rw [if_neg (by omega)]; done) | rfl)
theorem c_r23moved (x : Ins) (n : Int) : FC Try.prog 87 [.agg (encIns x), iv n] (.agg (encIns (mv2 x n))) := by
  refine FC_intro tok Try.func87 rfl (by decide +kernel) (Nat.le_of_ble_eq_true rfl) ?_
  (repeat' first | refine AWp_seq ?_ | (refine AWp_reg tok (by rfl) ?_; conv => whnf) | (refine AWp_skip ?_; conv => whnf) | (refine AWp_ret ?_; conv => whnf) | refine AWp_cond rfl (fun hb => ?_) (fun hb => ?_))
  all_goals
    refine ⟨_, rfl, Rel.agg (.cons (Rel.imm rfl) (.cons (Rel.int ?_) (.cons (Rel.int ?_) (.cons (Rel.int ?_) (.cons (Rel.imm rfl) (.cons (Rel.imm rfl) (.cons (Rel.imm rfl) .nil)))))))⟩
  all_goals simp only [Bool.not_eq_eq_eq_not, Bool.cond_false_right, Bool.cond_true_left, Bool.cond_true_right, Bool.and_eq_true, Bool.and_eq_false_iff, Bool.or_eq_true, Bool.or_eq_false_iff, Bool.not_true, Bool.not_false, decide_eq_true_eq, decide_eq_false_iff_not] at *
  all_goals (simp only [mv2]; first | (rw [if_pos (by omega)]; done) | (rw [if_neg (by omega)]; done) | rfl)
end Go.Proofs.Ytmanpbgaihdalaa
namespace Go.Proofs.Ytmanpbgaihdalaa
open Go Dv
set_option maxRecDepth 10000
set_option linter.unusedSimpArgs false
theorem smallF_of {f : Func} (h : smallF f = true) : f.blocks.length = 1 ∧ f.regs ≤ 16 ∧ (f.blocks.getD 0 default).ins.length ≤ 16 ∧ (f.blocks.getD 0 default).fin.kind = 1 ∧ ∀ i, i < (f.blocks.getD 0 default).ins.length → ((f.blocks.getD 0 default).ins.getD i default).op ≠ 11 := by
  unfold smallF at h
  rw [Bool.and_eq_true, decide_eq_true_eq] at h
  refine ⟨h.1.1, h.1.2.1, h.1.2.2.1, h.1.2.2.2, fun i hi e => ?_⟩
  have h2 : ((f.blocks.getD 0 default).ins.any fun x => decide (x.op = 11)) = false := by simpa using h.2
  rw [List.any_eq_false] at h2
  rw [getD_lt default hi] at e
  exact h2 _ (List.getElem_mem hi) (by simpa using e)
theorem c_r23Small (f : Func) : FC Try.prog 43 [.agg (encFunc f)] (.bool (smallF f)) := by
  refine FC_intro tok Try.func43 rfl (by decide +kernel) (Nat.le_of_ble_eq_true rfl) ?_
  refine AWp_facts 0 (fun hl => ?_)
  have hl0 : f.blocks.length ≤ maxL := hl.2.2.1.1
  clear hl
  ((repeat' first | refine AWp_seq ?_ | (refine AWp_reg tok (by rfl) ?_; conv => whnf) | refine AWp_block ?_ | (refine AWp_skip ?_; conv => whnf) | (refine AWp_ret ?_; conv => whnf) | refine AWp_cond rfl (fun hb => ?_) (fun hb => ?_) | (refine @And.intro (underG _ _ _ _) _ ?_ ?_; rotate_left; (conv => whnf); rotate_right)); all_goals (try ((guard_target = underG _ _ _ _); ((refine underG_some ?_; intro hgd; (conv at hgd => whnf))); (all_goals (try simp only [underG, true_and, and_true, Bool.cond_true_left, Bool.cond_false_left, Bool.cond_true_right, Bool.cond_false_right, Bool.or_eq_true, Bool.and_eq_true, Bool.or_eq_false_iff, Bool.and_eq_false_iff, cond_true, cond_false, Bool.not_eq_eq_eq_not, Bool.not_true, Bool.not_false, decide_eq_true_eq, decide_eq_false_iff_not, Int.toNat_natCast, Nat.zero_add, Decidable.not_not, maxL, inn_iff] at *)); all_goals omega)))
  · refine ⟨_, rfl, Rel.bool ?_⟩
    unfold smallF
    have : ¬ (f.blocks.length = 1 ∧ f.regs ≤ 16 ∧ (f.blocks.getD 0 default).ins.length ≤ 16 ∧ (f.blocks.getD 0 default).fin.kind = 1) := by
      intro h; simp [h.1] at hb; grind
    rw [decide_eq_false this]; rfl
  have h1 : f.blocks.length = 1 ∧ f.regs ≤ 16 ∧ (f.blocks.getD 0 default).ins.length ≤ 16 ∧ (f.blocks.getD 0 default).fin.kind = 1 := by simp at hb; grind
  clear hb
  have hgen : ∃ b, f.blocks.getD 0 default = b := ⟨_, rfl⟩
  obtain ⟨b, hbk⟩ := hgen
  have hb0 : f.blocks.getD (Int.toNat 0) default = b := hbk
  rw [hbk] at h1
  refine AWp_loop (fun i : Nat => mkS [(1, .bp (1, 0, 0) 0), (3, iv i)] [((1, 0, 0), boxed (encFunc f))])
    (fun i => i ≤ b.ins.length ∧ ∀ j, j < i → decide ((b.ins.getD j default).op = 11) = false) (fun i => b.ins.length - i) 0 ⟨Nat.zero_le _, by simp⟩ ?_ ?_
  · refine Weak.list [((1, 0, 0), .old (1, 0, 0), boxed (encFunc f))] rfl (by rfl) ?_ (.old rfl (BLe.refl _) .nil)
    ((repeat' first | exact TLes.nil | refine TLes.cons (TLe.eq rfl) ?_); skip)
  rintro i ⟨hi, hc⟩
  have hlb : (f.blocks.getD (Int.toNat 0) default).ins.length = b.ins.length := by rw [hb0]
  ((repeat' first | refine AWp_seq ?_ | (refine AWp_reg tok (by rfl) ?_; conv => whnf) | refine AWp_block ?_ | (refine AWp_skip ?_; conv => whnf) | (refine AWp_exit ?_; conv => whnf) | (refine AWp_ret ?_; conv => whnf) | refine AWp_cond rfl (fun hb => ?_) (fun hb => ?_) | (refine @And.intro (underG _ _ _ _) _ ?_ ?_; rotate_left; (conv => whnf); rotate_right)); all_goals (try ((guard_target = underG _ _ _ _); refine underG_none ?_; (all_goals (try simp only [underG, true_and, and_true, Bool.cond_true_left, Bool.cond_false_left, Bool.cond_true_right, Bool.cond_false_right, Bool.or_eq_true, Bool.and_eq_true, Bool.or_eq_false_iff, Bool.and_eq_false_iff, cond_true, cond_false, Bool.not_eq_eq_eq_not, Bool.not_true, Bool.not_false, decide_eq_true_eq, decide_eq_false_iff_not, Int.toNat_natCast, Nat.zero_add, Decidable.not_not, maxL, inn_iff] at *)); all_goals omega)))
  · have hlt : i < b.ins.length := by rename_i h; rw [hb0] at h; simp at h; omega
    refine ⟨_, rfl, Rel.bool ?_⟩
    unfold smallF
    rw [hbk]
    have : (b.ins.any fun x => decide (x.op = 11)) = true := by
      rw [List.any_eq_true]
      refine ⟨b.ins.getD i default, ?_, ?_⟩
      · rw [getD_lt default hlt]; exact List.getElem_mem hlt
      · rw [hb0] at hb; simpa using hb
    rw [this]; simp
  · have hlt : i < b.ins.length := by rename_i h; rw [hb0] at h; simp at h; omega
    refine ⟨i + 1, ⟨hlt, fun j hj => ?_⟩, by omega, ?_⟩
    · by_cases e : j = i
      · subst e; rw [hb0] at hb; simpa using hb
      · exact hc j (by omega)
    refine Weak.list [((1, 0, 0), .old (1, 0, 0), boxed (encFunc f))] rfl (by rfl) ?_ (.old rfl (BLe.refl _) .nil)
    ((repeat' first | exact TLes.nil | refine TLes.cons (TLe.eq rfl) ?_ | refine TLes.cons (TLe.int ?_) ?_); (all_goals first | ((try (simp only [underG, true_and, and_true, Bool.cond_true_left, Bool.cond_false_left, Bool.cond_true_right, Bool.cond_false_right, Bool.or_eq_true, Bool.and_eq_true, Bool.or_eq_false_iff, Bool.and_eq_false_iff, cond_true, cond_false, Bool.not_eq_eq_eq_not, Bool.not_true, Bool.not_false, decide_eq_true_eq, decide_eq_false_iff_not, Int.toNat_natCast, Nat.zero_add, Decidable.not_not, maxL, inn_iff] at *)); exact wrap64 (by omega) (by omega)) | skip))
  · have hil : i = b.ins.length := by rw [hb0] at hb; simp at hb; omega
    refine ⟨_, rfl, Rel.bool ?_⟩
    unfold smallF
    rw [hbk]
    have : (b.ins.any fun x => decide (x.op = 11)) = false := by
      rw [List.any_eq_false]
      intro x hx
      obtain ⟨j, hj, rfl⟩ := List.getElem_of_mem hx
      have := hc j (by omega)
      rw [getD_lt default hj] at this
      simpa using this
    rw [this, decide_eq_true h1]; rfl
theorem rels_snoc {h : AHeap} {l : List Ins} {v : Ins} {c : List AV} {f : Nat → List AV} {n z : Nat} (hn : n = l.length) (hf : ∀ i, i < l.length → f i = encIns (l.getD i default)) (hc : c.length = 7) (hg : Rels h c (encIns v)) (hz : z < l.length + 1) : Rels h (appR n f (fun i => rowOf 7 c (0 + i)) z) (encIns ((l ++ [v]).getD z default)) := by
  subst hn
  by_cases e : z < l.length
  · have h1 : appR l.length f (fun i => rowOf 7 c (0 + i)) z = f z := by
      unfold appR; rw [show Nat.blt z l.length = true from by rw [Nat.blt_eq]; exact e]; rfl
    rw [h1, hf z e, show (l ++ [v]).getD z default = l.getD z default from by simp [List.getD_eq_getElem?_getD, List.getElem?_append_left e]]
    exact Rels.imm rfl
  · have e2 : z = l.length := by omega
    subst e2
    have h1 : appR l.length f (fun i => rowOf 7 c (0 + i)) l.length = c := by
      unfold appR; rw [show Nat.blt l.length l.length = false from by rw [Bool.eq_false_iff]; intro h; rw [Nat.blt_eq] at h; omega, Nat.sub_self, ← hc]
      exact rowOf_one _
    rw [h1, show (l ++ [v]).getD l.length default = v from by simp [List.getD_eq_getElem?_getD]]
    exact hg
/-- The i-th of the instructions that an opened call begins with. -/
def opA (x : Ins) (base : Int) (i : Nat) : Ins := if i < x.args.length then ⟨2, wi (base + i), x.args.getD i 0, 0, 0, 0, []⟩ else ⟨1, wi (base + i), 0, 0, 0, 0, []⟩
def opP (x : Ins) (base : Int) (n : Nat) : List Ins := (List.range n).map (opA x base)
def opEnd (x : Ins) (f : Func) (base : Int) : Ins := ⟨2, x.dst, wi (base + (f.blocks.getD 0 default).fin.a), 0, 0, 0, []⟩
def openL (x : Ins) (f : Func) (base : Int) : List Ins := opP x base f.regs.toNat ++ (f.blocks.getD 0 default).ins.map (fun y => mv1 y base) ++ [opEnd x f base]
theorem opP_len (x : Ins) (base : Int) (n : Nat) : (opP x base n).length = n := by simp [opP]
theorem opP_succ (x : Ins) (base : Int) (n : Nat) : opP x base (n + 1) = opP x base n ++ [opA x base n] := by simp [opP, List.range_succ]
theorem openL_len (x : Ins) (f : Func) (base : Int) : (openL x f base).length = f.regs.toNat + (f.blocks.getD 0 default).ins.length + 1 := by simp [openL, opP_len]; omega
def mvP (l : List Ins) (base : Int) (i : Nat) : List Ins := (l.take i).map fun y => mv1 y base
theorem mvP_len {l : List Ins} {base : Int} {i : Nat} (h : i ≤ l.length) : (mvP l base i).length = i := by simp [mvP]; omega
theorem mvP_succ {l : List Ins} {base : Int} {i : Nat} (h : i < l.length) : mvP l base (i + 1) = mvP l base i ++ [mv1 (l.getD i default) base] := by
  unfold mvP; rw [take_succ_getD default h]; simp
set_option maxHeartbeats 2000000 in
theorem c_open (x : Ins) (f : Func) (base : Int) (hs : smallF f = true) : FC Try.prog 121 [.agg (encIns x), .agg (encFunc f), iv base] (inss (openL x f base)) := by
  obtain ⟨hs1, hs2, hs3, _, _⟩ := smallF_of hs
  refine FC_intro tok Try.func121 rfl (by decide +kernel) (Nat.le_of_ble_eq_true rfl) ?_
  refine AWp_facts 0 (fun hl => ?_)
  have hl0 : x.args.length ≤ maxL := hl.2.2.2.2.2.2.1.1
  have hmx : maxL = 4294967296 := rfl
  clear hl
  have hgen : ∃ b, f.blocks.getD 0 default = b := ⟨_, rfl⟩
  obtain ⟨b, hbk⟩ := hgen
  have hb0 : f.blocks.getD (Int.toNat 0) default = b := hbk
  rw [hbk] at hs3
  (repeat' first | refine AWp_seq ?_ | (refine AWp_reg tok (by rfl) ?_; conv => whnf) | refine AWp_block ?_)
  refine AWp_loop (fun i : Nat => mkS [(2, iv base), (3, .bp (3, 0, 0) 0), (4, .bp (4, 0, 0) 0), (7, .rs (7, 1, 0) 7 0 i), (13, iv f.regs), (14, iv i)] [((3, 0, 0), boxed (encIns x)), ((4, 0, 0), boxed (encFunc f)), ((7, 1, 0), .row true 7 i (fun y => encIns ((opP x base i).getD y default)))])
    (fun i => i ≤ f.regs.toNat) (fun i => f.regs.toNat - i) 0 (Nat.zero_le _) ?_ ?_
  · refine Weak.list [((3, 0, 0), .old (3, 0, 0), boxed (encIns x)), ((4, 0, 0), .old (4, 0, 0), boxed (encFunc f)), ((7, 1, 0), .nil, .row true 7 0 (fun y => encIns ((opP x base 0).getD y default)))] rfl (by rfl) ?_ (.old rfl (BLe.refl _) (.old rfl (BLe.refl _) (.new .nil)))
    ((repeat' first | exact TLes.nil | refine TLes.cons (TLe.eq rfl) ?_ | refine TLes.cons (TLe.nilL rfl ?_) ?_); (all_goals first | rfl | skip))
  intro i hi
  have hpl := opP_len x base i
  have hsucc := opP_succ x base i
  ((repeat' ((fail_if_success (show AWp _ _ _ (Code.region 8 _ _) _ _)); first | refine AWp_seq ?_ | (refine AWp_reg tok (by rfl) ?_; conv => whnf) | refine AWp_block ?_ | (refine AWp_skip ?_; conv => whnf) | (refine AWp_exit ?_; conv => whnf) | refine AWp_cond rfl (fun hb => ?_) (fun hb => ?_) | (refine @And.intro (underG _ _ _ _) _ ?_ ?_; rotate_left; (conv => whnf); rotate_right))); all_goals (try ((guard_target = underG _ _ _ _); refine underG_none ?_; (all_goals (try simp only [underG, true_and, and_true, Bool.cond_true_left, Bool.cond_false_left, Bool.cond_true_right, Bool.cond_false_right, Bool.or_eq_true, Bool.and_eq_true, Bool.or_eq_false_iff, Bool.and_eq_false_iff, cond_true, cond_false, Bool.not_eq_eq_eq_not, Bool.not_true, Bool.not_false, decide_eq_true_eq, decide_eq_false_iff_not, Int.toNat_natCast, Nat.zero_add, Decidable.not_not, maxL, inn_iff] at *)); all_goals omega)))
  · have hlt : i < f.regs.toNat := by simp only [decide_eq_true_eq] at *; omega
    have hA : opA x base i = ⟨2, wi (base + i), x.args.getD i 0, 0, 0, 0, []⟩ := if_pos (by simp only [decide_eq_true_eq] at *; omega)
    clear hb
    refine AWp_weak (Weak.list (tl := [(2, iv base), (3, .bp (3, 0, 0) 0), (4, .bp (4, 0, 0) 0), (7, .rs (7, 1, 0) 7 0 i), (13, iv f.regs), (14, iv i), (9, .bp (9, 0, 0) 0)]) [((3, 0, 0), .old (3, 0, 0), boxed (encIns x)), ((4, 0, 0), .old (4, 0, 0), boxed (encFunc f)), ((7, 1, 0), .old (7, 1, 0), .row true 7 i (fun y => encIns ((opP x base i).getD y default))), ((9, 0, 0), .old (9, 0, 0), .row true 7 1 (fun _ => encIns (opA x base i)))] rfl (by rfl) ?_ (.old rfl (BLe.refl _) (.old rfl (BLe.refl _) (.old rfl (BLe.refl _) (.old rfl (BLe.rowW (Nat.le_refl _) (ltS ?_ lt0)) .nil))))) ?_
    · ((repeat' first | exact TLes.nil | refine TLes.cons (TLe.eq rfl) ?_); skip)
    · rw [hA]
      exact .cons .refl (.cons .refl (.cons .refl (.cons .refl (.cons .refl (.cons .refl (.cons (.nsl rfl) .nil))))))
    ((repeat' first | (refine AWp_reg tok (by rfl) ?_; conv => whnf) | (refine @And.intro (underG _ _ _ _) _ ?_ ?_; rotate_left; (conv => whnf); rotate_right)); all_goals (try ((guard_target = underG _ _ _ _); refine underG_none ?_; (first | refine And.intro (srcObl_rs rfl ?_) ?_ | skip); (all_goals (try simp only [underG, true_and, and_true, Bool.cond_true_left, Bool.cond_false_left, Bool.cond_true_right, Bool.cond_false_right, Bool.or_eq_true, Bool.and_eq_true, Bool.or_eq_false_iff, Bool.and_eq_false_iff, cond_true, cond_false, Bool.not_eq_eq_eq_not, Bool.not_true, Bool.not_false, decide_eq_true_eq, decide_eq_false_iff_not, Int.toNat_natCast, Nat.zero_add, Decidable.not_not, maxL, inn_iff] at *)); all_goals omega)))
    refine ⟨i + 1, hlt, by omega, ?_⟩
    refine Weak.list [((3, 0, 0), .old (3, 0, 0), boxed (encIns x)), ((4, 0, 0), .old (4, 0, 0), boxed (encFunc f)), ((7, 1, 0), .old (38, 0, 0), .row true 7 (i + 1) (fun y => encIns ((opP x base (i + 1)).getD y default)))] rfl (by rfl) ?_ (.old rfl (BLe.refl _) (.old rfl (BLe.refl _) (.old rfl (BLe.rowW (Nat.le_refl _) (fun z hz => Wks.of ?_)) .nil)))
    · ((repeat' first | exact TLes.nil | refine TLes.cons (TLe.eq rfl) ?_ | refine TLes.cons (TLe.int ?_) ?_); (all_goals first | ((try (simp only [underG, true_and, and_true, Bool.cond_true_left, Bool.cond_false_left, Bool.cond_true_right, Bool.cond_false_right, Bool.or_eq_true, Bool.and_eq_true, Bool.or_eq_false_iff, Bool.and_eq_false_iff, cond_true, cond_false, Bool.not_eq_eq_eq_not, Bool.not_true, Bool.not_false, decide_eq_true_eq, decide_eq_false_iff_not, Int.toNat_natCast, Nat.zero_add, Decidable.not_not, maxL, inn_iff] at *)); exact wrap64 (by omega) (by omega)) | skip))
    · rw [hsucc]
      exact app_snoc encIns default 7 hpl.symm (fun q _ => rfl) rfl rfl hz
  · have hlt : i < f.regs.toNat := by simp only [decide_eq_true_eq] at *; omega
    have hA : opA x base i = ⟨1, wi (base + i), 0, 0, 0, 0, []⟩ := if_neg (by simp only [decide_eq_false_iff_not] at hb; omega)
    clear hb
    refine AWp_weak (Weak.list (tl := [(2, iv base), (3, .bp (3, 0, 0) 0), (4, .bp (4, 0, 0) 0), (7, .rs (7, 1, 0) 7 0 i), (13, iv f.regs), (14, iv i), (9, .bp (9, 0, 0) 0)]) [((3, 0, 0), .old (3, 0, 0), boxed (encIns x)), ((4, 0, 0), .old (4, 0, 0), boxed (encFunc f)), ((7, 1, 0), .old (7, 1, 0), .row true 7 i (fun y => encIns ((opP x base i).getD y default))), ((9, 0, 0), .old (9, 0, 0), .row true 7 1 (fun _ => encIns (opA x base i)))] rfl (by rfl) ?_ (.old rfl (BLe.refl _) (.old rfl (BLe.refl _) (.old rfl (BLe.refl _) (.old rfl (BLe.rowW (Nat.le_refl _) (ltS ?_ lt0)) .nil))))) ?_
    · ((repeat' first | exact TLes.nil | refine TLes.cons (TLe.eq rfl) ?_); skip)
    · rw [hA]
      exact .cons .refl (.cons .refl (.cons .refl (.cons .refl (.cons .refl (.cons .refl (.cons (.nsl rfl) .nil))))))
    ((repeat' first | (refine AWp_reg tok (by rfl) ?_; conv => whnf) | (refine @And.intro (underG _ _ _ _) _ ?_ ?_; rotate_left; (conv => whnf); rotate_right)); all_goals (try ((guard_target = underG _ _ _ _); refine underG_none ?_; (first | refine And.intro (srcObl_rs rfl ?_) ?_ | skip); (all_goals (try simp only [underG, true_and, and_true, Bool.cond_true_left, Bool.cond_false_left, Bool.cond_true_right, Bool.cond_false_right, Bool.or_eq_true, Bool.and_eq_true, Bool.or_eq_false_iff, Bool.and_eq_false_iff, cond_true, cond_false, Bool.not_eq_eq_eq_not, Bool.not_true, Bool.not_false, decide_eq_true_eq, decide_eq_false_iff_not, Int.toNat_natCast, Nat.zero_add, Decidable.not_not, maxL, inn_iff] at *)); all_goals omega)))
    refine ⟨i + 1, hlt, by omega, ?_⟩
    refine Weak.list [((3, 0, 0), .old (3, 0, 0), boxed (encIns x)), ((4, 0, 0), .old (4, 0, 0), boxed (encFunc f)), ((7, 1, 0), .old (38, 0, 0), .row true 7 (i + 1) (fun y => encIns ((opP x base (i + 1)).getD y default)))] rfl (by rfl) ?_ (.old rfl (BLe.refl _) (.old rfl (BLe.refl _) (.old rfl (BLe.rowW (Nat.le_refl _) (fun z hz => Wks.of ?_)) .nil)))
    · ((repeat' first | exact TLes.nil | refine TLes.cons (TLe.eq rfl) ?_ | refine TLes.cons (TLe.int ?_) ?_); (all_goals first | ((try (simp only [underG, true_and, and_true, Bool.cond_true_left, Bool.cond_false_left, Bool.cond_true_right, Bool.cond_false_right, Bool.or_eq_true, Bool.and_eq_true, Bool.or_eq_false_iff, Bool.and_eq_false_iff, cond_true, cond_false, Bool.not_eq_eq_eq_not, Bool.not_true, Bool.not_false, decide_eq_true_eq, decide_eq_false_iff_not, Int.toNat_natCast, Nat.zero_add, Decidable.not_not, maxL, inn_iff] at *)); exact wrap64 (by omega) (by omega)) | skip))
    · rw [hsucc]
      exact app_snoc encIns default 7 hpl.symm (fun q _ => rfl) rfl rfl hz
  have hin : i = f.regs.toNat := by simp only [decide_eq_false_iff_not] at hb; omega
  clear hb
  subst hin
  have hgen : ∃ A, opP x base f.regs.toNat = A := ⟨_, rfl⟩
  obtain ⟨A, hA⟩ := hgen
  rw [hA] at hpl
  clear hsucc
  have hib : (f.blocks.getD (Int.toNat 0) default).ins.length = b.ins.length := by rw [hb0]
  skip
  refine AWp_loop (fun i : Nat => mkS [(2, iv base), (3, .bp (3, 0, 0) 0), (4, .bp (4, 0, 0) 0), (7, .rs (7, 1, 0) 7 0 (f.regs.toNat + i)), (44, inss b.ins), (45, iv b.ins.length), (46, iv i)] [((3, 0, 0), boxed (encIns x)), ((4, 0, 0), boxed (encFunc f)), ((7, 1, 0), .row true 7 (f.regs.toNat + i) (fun y => encIns ((A ++ mvP b.ins base i).getD y default)))])
    (fun i => i ≤ b.ins.length) (fun i => b.ins.length - i) 0 (Nat.zero_le _) ?_ ?_
  · refine Weak.list [((3, 0, 0), .old (3, 0, 0), boxed (encIns x)), ((4, 0, 0), .old (4, 0, 0), boxed (encFunc f)), ((7, 1, 0), .old (7, 1, 0), .row true 7 (f.regs.toNat + 0) (fun y => encIns ((A ++ mvP b.ins base 0).getD y default)))] rfl (by rfl) ?_ (.old rfl (BLe.refl _) (.old rfl (BLe.refl _) (.old rfl (BLe.rowW (Nat.le_refl _) (fun z hz => Wks.of ?_)) .nil)))
    · rw [← hb0]
      ((repeat' first | exact TLes.nil | refine TLes.cons (TLe.eq rfl) ?_); skip)
    · simp [mvP, hA]
  intro i hi
  have hml : (A ++ mvP b.ins base i).length = f.regs.toNat + i := by rw [List.length_append, hpl, mvP_len hi]
  ((repeat' ((fail_if_success (show AWp _ _ _ (Code.region 13 _ _) _ _)); first | refine AWp_seq ?_ | (refine AWp_reg tok (by rfl) ?_; conv => whnf) | (refine AWp_any tok mix (by rfl) ?_; conv => whnf) | refine AWp_block ?_ | (refine AWp_skip ?_; conv => whnf) | (refine AWp_exit ?_; conv => whnf) | (refine AWp_ret ?_; conv => whnf) | refine AWp_cond rfl (fun hb => ?_) (fun hb => ?_) | (refine @And.intro (underG _ _ _ _) _ ?_ ?_; rotate_left; (conv => whnf); rotate_right))); all_goals (try ((guard_target = underG _ _ _ _); refine underG_none ?_; (first | refine And.intro (srcObl_rs rfl ?_) ?_ | skip); (all_goals (try simp only [underG, true_and, and_true, Bool.cond_true_left, Bool.cond_false_left, Bool.cond_true_right, Bool.cond_false_right, Bool.or_eq_true, Bool.and_eq_true, Bool.or_eq_false_iff, Bool.and_eq_false_iff, cond_true, cond_false, Bool.not_eq_eq_eq_not, Bool.not_true, Bool.not_false, decide_eq_true_eq, decide_eq_false_iff_not, Int.toNat_natCast, Nat.zero_add, Decidable.not_not, maxL, inn_iff] at *)); all_goals omega)))
  · have hlt : i < b.ins.length := by simp only [decide_eq_true_eq] at hb; omega
    clear hb
    have hsucc := mvP_succ (base := base) hlt
    (repeat' (refine AWp_reg tok (by rfl) ?_; conv => whnf))
    refine .inl ⟨_, _, _, uG (QC.fc (c_moved (b.ins.getD (i : Int).toNat default) base) rfl), ?_⟩
    conv => whnf
    ((repeat' first | (refine AWp_reg tok (by rfl) ?_; conv => whnf) | (refine @And.intro (underG _ _ _ _) _ ?_ ?_; rotate_left; (conv => whnf); rotate_right)); all_goals (try ((guard_target = underG _ _ _ _); refine underG_none ?_; (first | refine And.intro (srcObl_rs rfl ?_) ?_ | skip); (all_goals (try simp only [underG, true_and, and_true, Bool.cond_true_left, Bool.cond_false_left, Bool.cond_true_right, Bool.cond_false_right, Bool.or_eq_true, Bool.and_eq_true, Bool.or_eq_false_iff, Bool.and_eq_false_iff, cond_true, cond_false, Bool.not_eq_eq_eq_not, Bool.not_true, Bool.not_false, decide_eq_true_eq, decide_eq_false_iff_not, Int.toNat_natCast, Nat.zero_add, Decidable.not_not, maxL, inn_iff] at *)); all_goals omega)))
    refine ⟨i + 1, hlt, by omega, ?_⟩
    refine Weak.list [((3, 0, 0), .old (3, 0, 0), boxed (encIns x)), ((4, 0, 0), .old (4, 0, 0), boxed (encFunc f)), ((7, 1, 0), .old (55, 0, 0), .row true 7 (f.regs.toNat + (i + 1)) (fun y => encIns ((A ++ mvP b.ins base (i + 1)).getD y default)))] rfl (by rfl) ?_ (.old rfl (BLe.refl _) (.old rfl (BLe.refl _) (.old rfl (BLe.rowW (Nat.le_refl _) (fun z hz => Wks.of ?_)) .nil)))
    · ((repeat' first | exact TLes.nil | refine TLes.cons (TLe.eq rfl) ?_ | refine TLes.cons (TLe.int ?_) ?_); (all_goals first | ((try (simp only [underG, true_and, and_true, Bool.cond_true_left, Bool.cond_false_left, Bool.cond_true_right, Bool.cond_false_right, Bool.or_eq_true, Bool.and_eq_true, Bool.or_eq_false_iff, Bool.and_eq_false_iff, cond_true, cond_false, Bool.not_eq_eq_eq_not, Bool.not_true, Bool.not_false, decide_eq_true_eq, decide_eq_false_iff_not, Int.toNat_natCast, Nat.zero_add, Decidable.not_not, maxL, inn_iff] at *)); exact wrap64 (by omega) (by omega)) | skip))
    · rw [hsucc, ← List.append_assoc]
      exact app_snoc encIns default 7 hml.symm (fun q _ => rfl) rfl (by rw [Int.toNat_natCast]; rfl) hz
  have hil : i = b.ins.length := by simp only [decide_eq_false_iff_not] at hb; omega
  subst hil
  clear hb
  skip
  have hO : openL x f base = A ++ mvP b.ins base b.ins.length ++ [opEnd x f base] := by
    unfold openL mvP; rw [hA, hbk, List.take_length]
  refine ⟨_, rfl, ?_⟩
  rw [hO]
  have hlen : (A ++ mvP b.ins base b.ins.length ++ [opEnd x f base]).length = f.regs.toNat + b.ins.length + 1 := by rw [List.length_append, hml]; rfl
  show Rel _ _ (.sl 7 _ _)
  rw [hlen]
  refine Rel.rs (imm := true) (k := f.regs.toNat + b.ins.length + 1) (f := appR (f.regs.toNat + b.ins.length) (fun y => encIns ((A ++ mvP b.ins base b.ins.length).getD y default)) (fun i => rowOf 7 [iv 2, iv x.dst, iv (wi (base + (f.blocks.getD (Int.toNat 0) default).fin.a)), iv 0, .int .u16 0, iv 0, .nsl] (0 + i))) rfl (by omega) (fun z hz => ?_)
  rw [Nat.zero_add z]
  refine rels_snoc (v := opEnd x f base) (c := [iv 2, iv x.dst, iv (wi (base + (f.blocks.getD (Int.toNat 0) default).fin.a)), iv 0, .int .u16 0, iv 0, .nsl]) hml.symm (fun q _ => rfl) rfl ?_ (by rw [hml]; exact hz)
  exact .cons (Rel.imm rfl) (.cons (Rel.imm rfl) (.cons (Rel.imm rfl) (.cons (Rel.imm rfl) (.cons (Rel.imm rfl) (.cons (Rel.imm rfl) (.cons (Rel.nsl' rfl) .nil))))))
end Go.Proofs.Ytmanpbgaihdalaa
namespace Go.Proofs.Ytmanpbgaihdalaa
open Go Dv
set_option maxRecDepth 10000
set_option linter.unusedSimpArgs false
def inlX (m : Module) (n : Nat) (x : Ins) : Bool := decide (x.op = 11 ∧ x.f ≠ n) && smallF (m.funcs.getD x.f.toNat default)
def blkX (m : Module) (n : Nat) (x : Ins) : List Ins := if inlX m n x = true then openL x (m.funcs.getD x.f.toNat default) (m.funcs.getD n default).regs else [x]
def outX (m : Module) (n : Nat) (l : List Ins) : List Ins := l.flatMap (blkX m n)
def mrX (m : Module) (n : Nat) (a : Int) (x : Ins) : Int := if inlX m n x = true then max a (m.funcs.getD x.f.toNat default).regs else a
def moreX (m : Module) (n : Nat) (l : List Ins) : Int := l.foldl (mrX m n) 0
def blockI (m : Module) (n : Nat) (l : List Ins) : List Ins × Int := if 64 < (outX m n l).length then (l, 0) else (outX m n l, moreX m n l)
theorem blkX_len (m : Module) (n : Nat) (x : Ins) : (blkX m n x).length ≤ 33 := by
  unfold blkX
  split
  · rename_i h
    unfold inlX at h
    rw [Bool.and_eq_true] at h
    obtain ⟨_, h2, h3, _⟩ := smallF_of h.2
    rw [openL_len]; omega
  · simp
theorem outX_len (m : Module) (n : Nat) : ∀ l : List Ins, (outX m n l).length ≤ 33 * l.length
  | [] => by simp [outX]
  | x :: r => by
    have := outX_len m n r
    have h2 := blkX_len m n x
    show (blkX m n x ++ outX m n r).length ≤ _
    rw [List.length_append, List.length_cons]; omega
theorem outX_succ (m : Module) (n : Nat) {l : List Ins} {i : Nat} (h : i < l.length) : outX m n (l.take (i + 1)) = outX m n (l.take i) ++ blkX m n (l.getD i default) := by
  unfold outX; rw [take_succ_getD default h, List.flatMap_append]; simp
theorem moreX_succ (m : Module) (n : Nat) {l : List Ins} {i : Nat} (h : i < l.length) : moreX m n (l.take (i + 1)) = mrX m n (moreX m n (l.take i)) (l.getD i default) := by
  unfold moreX; rw [take_succ_getD default h, List.foldl_append]; rfl
set_option maxHeartbeats 2000000 in
theorem c_block (m : Module) (n : Nat) (l : List Ins) (hn : n < m.funcs.length) (hl64 : l.length ≤ 64) (hc : ∀ i, i < l.length → (l.getD i default).op = 11 → 0 ≤ (l.getD i default).f ∧ (l.getD i default).f < m.funcs.length) : FC Try.prog 84 [.agg (encMod m), iv n, inss l] (.tup [inss (blockI m n l).1, iv (blockI m n l).2]) := by
  refine FC_intro tok Try.func84 rfl (by decide +kernel) (Nat.le_of_ble_eq_true rfl) ?_
  refine AWp_facts 0 (fun hl => ?_)
  have hl0 : m.funcs.length ≤ maxL := hl.1.1
  have hmx : maxL = 4294967296 := rfl
  clear hl
  (repeat' first | refine AWp_seq ?_ | (refine AWp_reg tok (by rfl) ?_; conv => whnf) | refine AWp_block ?_)
  refine AWp_loop (fun i : Nat => mkS [(1, iv n), (2, inss l), (3, .bp (3, 0, 0) 0), (8, .rs (8, 1, 0) 7 0 (outX m n (l.take i)).length), (9, iv (moreX m n (l.take i))), (12, inss l), (13, iv l.length), (14, iv i)] [((3, 0, 0), boxed (encMod m)), ((8, 1, 0), .row true 7 (outX m n (l.take i)).length (fun y => encIns ((outX m n (l.take i)).getD y default)))])
    (fun i => i ≤ l.length) (fun i => l.length - i) 0 (Nat.zero_le _) ?_ ?_
  · refine Weak.list [((3, 0, 0), .old (3, 0, 0), boxed (encMod m)), ((8, 1, 0), .nil, .row true 7 0 (fun y => encIns ((outX m n (l.take 0)).getD y default)))] rfl (by rfl) ?_ (.old rfl (BLe.refl _) (.new .nil))
    ((repeat' first | exact TLes.nil | refine TLes.cons (TLe.eq rfl) ?_ | refine TLes.cons (TLe.nilL rfl ?_) ?_); (all_goals first | rfl | skip))
  intro i hi
  have hol := outX_len m n (l.take i)
  have htl : (l.take i).length = i := by simp; omega
  rw [htl] at hol
  (repeat' ((fail_if_success (show AWp _ _ _ (Code.region 5 _ _) _ _)); first | refine AWp_seq ?_ | (refine AWp_reg tok (by rfl) ?_; conv => whnf) | refine AWp_block ?_ | (refine AWp_skip ?_; conv => whnf) | (refine AWp_exit ?_; conv => whnf) | (refine AWp_ret ?_; conv => whnf) | refine AWp_cond rfl (fun hb => ?_) (fun hb => ?_)))
  · have hlt : i < l.length := by simp only [decide_eq_true_eq] at hb; omega
    clear hb
    have hs1 := outX_succ m n hlt
    have hs2 := moreX_succ m n hlt
    have hx := hc i hlt
    have hgen : ∃ x, l.getD i default = x := ⟨_, rfl⟩
    obtain ⟨x, hxi⟩ := hgen
    rw [hxi] at hs1 hs2 hx
    have hgen : ∃ L, outX m n (l.take i) = L := ⟨_, rfl⟩
    obtain ⟨L, hL⟩ := hgen
    have hgen : ∃ a, moreX m n (l.take i) = a := ⟨_, rfl⟩
    obtain ⟨a, ha⟩ := hgen
    rw [hL] at hs1 hol
    rw [ha] at hs2
    refine AWp_weak (Weak.list (tl := [(1, iv n), (2, inss l), (3, .bp (3, 0, 0) 0), (8, .rs (8, 1, 0) 7 0 L.length), (9, iv a), (12, inss l), (13, iv l.length), (14, iv i)]) [((3, 0, 0), .old (3, 0, 0), boxed (encMod m)), ((8, 1, 0), .old (8, 1, 0), .row true 7 L.length (fun y => encIns (L.getD y default)))] rfl (by rfl) ?_ (.old rfl (BLe.refl _) (.old rfl (BLe.rowW (Nat.le_of_eq (by rw [hL])) (fun z hz => Wks.of (by rw [← hL]; rfl))) .nil))) ?_
    · rw [← hL, ← ha]
      ((repeat' first | exact TLes.nil | refine TLes.cons (TLe.eq rfl) ?_); skip)
    ((repeat' ((fail_if_success (show AWp _ _ _ (Code.region 6 _ _) _ _)); first | refine AWp_seq ?_ | (refine AWp_reg tok (by rfl) ?_; conv => whnf) | (refine @And.intro (underG _ _ _ _) _ ?_ ?_; rotate_left; (conv => whnf); rotate_right))); all_goals (try ((guard_target = underG _ _ _ _); refine underG_none ?_; (all_goals (try simp only [underG, true_and, and_true, Bool.cond_true_left, Bool.cond_false_left, Bool.cond_true_right, Bool.cond_false_right, Bool.or_eq_true, Bool.and_eq_true, Bool.or_eq_false_iff, Bool.and_eq_false_iff, cond_true, cond_false, Bool.not_eq_eq_eq_not, Bool.not_true, Bool.not_false, decide_eq_true_eq, decide_eq_false_iff_not, Int.toNat_natCast, Nat.zero_add, Decidable.not_not, maxL, inn_iff] at *)); all_goals omega)))
    refine AWp_weak (Weak.list (tl := [(1, iv n), (2, inss l), (3, .bp (3, 0, 0) 0), (8, .rs (8, 1, 0) 7 0 L.length), (9, iv a), (12, inss l), (13, iv l.length), (14, iv i), (11, .bp (11, 0, 0) 0)]) [((3, 0, 0), .old (3, 0, 0), boxed (encMod m)), ((8, 1, 0), .old (8, 1, 0), .row true 7 L.length (fun y => encIns (L.getD y default))), ((11, 0, 0), .old (11, 0, 0), .row true 7 1 (fun _ => encIns x))] rfl (by rfl) ?_ (.old rfl (BLe.refl _) (.old rfl (BLe.refl _) (.old rfl (BLe.rowW (Nat.le_refl _) (ltS (Wks.of (by rw [← hxi, Int.toNat_natCast]; rfl)) lt0)) .nil)))) ?_
    · ((repeat' first | exact TLes.nil | refine TLes.cons (TLe.eq rfl) ?_); skip)
    ((repeat' ((fail_if_success (show AWp _ _ _ (Code.region 7 _ _) _ _)); first | (refine AWp_reg tok (by rfl) ?_; conv => whnf) | (refine @And.intro (underG _ _ _ _) _ ?_ ?_; rotate_left; (conv => whnf); rotate_right))); all_goals (try ((guard_target = underG _ _ _ _); ((refine underG_some ?_; intro hgd; (conv at hgd => whnf))); (all_goals (try simp only [underG, true_and, and_true, Bool.cond_true_left, Bool.cond_false_left, Bool.cond_true_right, Bool.cond_false_right, Bool.or_eq_true, Bool.and_eq_true, Bool.or_eq_false_iff, Bool.and_eq_false_iff, cond_true, cond_false, Bool.not_eq_eq_eq_not, Bool.not_true, Bool.not_false, decide_eq_true_eq, decide_eq_false_iff_not, Int.toNat_natCast, Nat.zero_add, Decidable.not_not, maxL, inn_iff] at *)); all_goals omega)))
    refine .inl ⟨_, _, _, uG (QC.fc (c_Small (m.funcs.getD x.f.toNat default)) rfl), ?_⟩
    conv => whnf
    ((repeat' ((fail_if_success (show AWp _ _ _ (Code.region 10 _ _) _ _)); first | refine AWp_seq ?_ | (refine AWp_reg tok (by rfl) ?_; conv => whnf) | (refine AWp_any tok mix (by rfl) ?_; conv => whnf) | (refine AWp_skip ?_; conv => whnf) | (refine AWp_exit ?_; conv => whnf) | refine AWp_cond rfl (fun hb => ?_) (fun hb => ?_) | (refine @And.intro (underG _ _ _ _) _ ?_ ?_; rotate_left; (conv => whnf); rotate_right))); all_goals (try ((guard_target = underG _ _ _ _); refine underG_none ?_; (first | refine And.intro (srcObl_rs rfl ?_) ?_ | skip); (all_goals (try simp only [underG, true_and, and_true, Bool.cond_true_left, Bool.cond_false_left, Bool.cond_true_right, Bool.cond_false_right, Bool.or_eq_true, Bool.and_eq_true, Bool.or_eq_false_iff, Bool.and_eq_false_iff, cond_true, cond_false, Bool.not_eq_eq_eq_not, Bool.not_true, Bool.not_false, decide_eq_true_eq, decide_eq_false_iff_not, Int.toNat_natCast, Nat.zero_add, Decidable.not_not, maxL, inn_iff] at *)); all_goals omega)))
    · have hin : inlX m n x = false := by
        unfold inlX
        rw [Bool.and_eq_false_iff, decide_eq_false_iff_not]
        simp [cond_eq_ite] at hb
        grind
      have hbx : blkX m n x = [x] := by unfold blkX; rw [hin]; rfl
      have hmr : mrX m n a x = a := by unfold mrX; rw [hin]; rfl
      rw [hbx] at hs1
      rw [hmr] at hs2
      clear hb
      (repeat' (refine AWp_reg tok (by rfl) ?_; conv => whnf))
      refine ⟨i + 1, hlt, by omega, ?_⟩
      refine Weak.list [((3, 0, 0), .old (3, 0, 0), boxed (encMod m)), ((8, 1, 0), .old (40, 0, 0), .row true 7 (outX m n (l.take (i + 1))).length (fun y => encIns ((outX m n (l.take (i + 1))).getD y default)))] rfl (by rfl) ?_ (.old rfl (BLe.refl _) (.old rfl (BLe.rowW ?_ (fun z hz => Wks.of ?_)) .nil))
      · (repeat' first | exact TLes.nil | refine TLes.cons (TLe.eq rfl) ?_ | refine TLes.cons (TLe.rsL rfl ?_) ?_ | refine TLes.cons (TLe.int ?_) ?_)
        · rw [hs1, List.length_append]; rfl
        · rw [hs2]
        · exact wrap64 (by omega) (by omega)
      · rw [hs1, List.length_append]; exact Nat.le_refl _
      · rw [hs1] at hz ⊢
        rw [List.length_append] at hz
        exact app_snoc encIns default 7 rfl (fun q _ => rfl) rfl rfl hz
    · have hin : inlX m n x = true := by
        unfold inlX
        rw [Bool.and_eq_true, decide_eq_true_eq]
        simp [cond_eq_ite] at hb
        grind
      have hop : x.op = 11 := by
        unfold inlX at hin; rw [Bool.and_eq_true, decide_eq_true_eq] at hin; exact hin.1.1
      have hsm : smallF (m.funcs.getD x.f.toNat default) = true := by
        unfold inlX at hin; rw [Bool.and_eq_true] at hin; exact hin.2
      obtain ⟨hx1, hx2⟩ := hx hop
      have hbx : blkX m n x = openL x (m.funcs.getD x.f.toNat default) (m.funcs.getD n default).regs := by unfold blkX; rw [hin]; rfl
      have hmr : mrX m n a x = max a (m.funcs.getD x.f.toNat default).regs := by unfold mrX; rw [hin]; rfl
      have hlo : (openL x (m.funcs.getD x.f.toNat default) (m.funcs.getD n default).regs).length ≤ 33 := by
        rw [← hbx]; exact blkX_len m n x
      rw [hbx] at hs1
      rw [hmr] at hs2
      clear hb
      skip
      refine .inl ⟨_, _, _, uG (QC.fc (c_open x (m.funcs.getD x.f.toNat default) (m.funcs.getD n default).regs hsm) rfl), ?_⟩
      conv => whnf
      refine @And.intro (underG _ _ _ _) _ ?_ ?_
      · ((guard_target = underG _ _ _ _); refine underG_none ?_; (first | refine And.intro srcObl_sl ?_ | skip); (all_goals (try simp only [underG, true_and, and_true, Bool.cond_true_left, Bool.cond_false_left, Bool.cond_true_right, Bool.cond_false_right, Bool.or_eq_true, Bool.and_eq_true, Bool.or_eq_false_iff, Bool.and_eq_false_iff, cond_true, cond_false, Bool.not_eq_eq_eq_not, Bool.not_true, Bool.not_false, decide_eq_true_eq, decide_eq_false_iff_not, Int.toNat_natCast, Nat.zero_add, Decidable.not_not, maxL, inn_iff] at *)); all_goals omega)
      conv => whnf
      skip
      refine AWp_max tok 8 rfl (by rfl) rfl rfl rfl rfl rfl ?_; conv => whnf
      refine @And.intro (underG _ _ _ _) _ ?_ ?_
      · ((guard_target = underG _ _ _ _); refine underG_none ?_; (all_goals (try simp only [underG, true_and, and_true, Bool.cond_true_left, Bool.cond_false_left, Bool.cond_true_right, Bool.cond_false_right, Bool.or_eq_true, Bool.and_eq_true, Bool.or_eq_false_iff, Bool.and_eq_false_iff, cond_true, cond_false, Bool.not_eq_eq_eq_not, Bool.not_true, Bool.not_false, decide_eq_true_eq, decide_eq_false_iff_not, Int.toNat_natCast, Nat.zero_add, Decidable.not_not, maxL, inn_iff] at *)); all_goals omega)
      conv => whnf
      refine ⟨_, _, _, rfl, rfl, rfl, ?_⟩
      conv => whnf
      (repeat' (refine AWp_reg tok (by rfl) ?_; conv => whnf))
      refine ⟨i + 1, hlt, by omega, ?_⟩
      refine Weak.list [((3, 0, 0), .old (3, 0, 0), boxed (encMod m)), ((8, 1, 0), .old (56, 0, 0), .row true 7 (outX m n (l.take (i + 1))).length (fun y => encIns ((outX m n (l.take (i + 1))).getD y default)))] rfl (by rfl) ?_ (.old rfl (BLe.refl _) (.old rfl (BLe.rowW ?_ (fun z hz => Wks.of ?_)) .nil))
      · (repeat' first | exact TLes.nil | refine TLes.cons (TLe.eq rfl) ?_ | refine TLes.cons (TLe.rsL rfl ?_) ?_ | refine TLes.cons (TLe.int ?_) ?_)
        · rw [hs1, List.length_append]
        · rw [hs2]
        · exact wrap64 (by omega) (by omega)
      · rw [hs1, List.length_append]; exact Nat.le_refl _
      · rw [hs1] at hz ⊢
        exact app_rows encIns default L _ rfl (fun q _ => rfl) (fun q _ => rfl) hz
  · rename_i hbi
    have hil : i = l.length := by simp only [decide_eq_false_iff_not] at hbi; omega
    have h64 : 64 < (outX m n l).length := by rw [hil, List.take_length] at hb; simp only [decide_eq_true_eq] at hb; omega
    refine ⟨_, rfl, ?_⟩
    unfold blockI
    rw [if_pos h64]
    exact Rel.tup (.cons (Rel.imm rfl) (.cons (Rel.imm rfl) .nil))
  · rename_i hbi
    have hil : i = l.length := by simp only [decide_eq_false_iff_not] at hbi; omega
    have h64 : ¬ 64 < (outX m n l).length := by rw [hil, List.take_length] at hb; simp only [decide_eq_false_iff_not] at hb; omega
    refine ⟨_, rfl, ?_⟩
    unfold blockI
    rw [if_neg h64]
    refine Rel.tup (.cons (Rel.row rfl rfl (by rw [hil, List.take_length]) (fun z _ => by rw [hil, List.take_length])) (.cons (Rel.int (by rw [hil, List.take_length])) .nil))
end Go.Proofs.Ytmanpbgaihdalaa
namespace Go.Proofs.Ytmanpbgaihdalaa
open Go Dv
set_option maxRecDepth 10000
set_option linter.unusedSimpArgs false
theorem appR_zero {f g : Nat → List AV} {i : Nat} : appR 0 f g i = g i := rfl
theorem c_CloneIns (l : List Ins) : FO Try.prog 75 [inss l] 7 l.length (fun i => encIns (l.getD i default)) := by
  refine FO_intro tok Try.func75 rfl (by decide +kernel) (Nat.le_of_ble_eq_true rfl) ?_
  refine AWp_facts 0 (fun hl => ?_)
  have hl0 : l.length ≤ maxL := hl.1
  ((repeat' first | refine AWp_seq ?_ | (refine AWp_reg tok (by rfl) ?_; conv => whnf) | (refine AWp_skip ?_; conv => whnf) | (refine AWp_ret ?_; conv => whnf) | refine AWp_cond rfl (fun hb => ?_) (fun hb => ?_) | (refine @And.intro (underG _ _ _ _) _ ?_ ?_; rotate_left; (conv => whnf); rotate_right) | (refine fun (bn : Bool) (hbn : (0 < _ → bn = _)) => ?_; conv => whnf)); all_goals (try ((guard_target = underG _ _ _ _); refine underG_none ?_; (first | refine And.intro srcObl_sl ?_ | skip); (all_goals (try simp only [underG, true_and, and_true, Bool.cond_true_left, Bool.cond_false_left, Bool.cond_true_right, Bool.cond_false_right, Bool.or_eq_true, Bool.and_eq_true, Bool.or_eq_false_iff, Bool.and_eq_false_iff, cond_true, cond_false, Bool.not_eq_eq_eq_not, Bool.not_true, Bool.not_false, decide_eq_true_eq, decide_eq_false_iff_not, Int.toNat_natCast, Nat.zero_add, Decidable.not_not, maxL, inn_iff] at *)); all_goals omega)))
  · refine ⟨_, rfl, RelO.nsl' ?_⟩
    rcases Nat.eq_zero_or_pos l.length with h | h
    · exact h
    · rw [hbn h] at hb; cases hb
  · refine ⟨_, rfl, RelO.rs rfl (Nat.le_refl _) (by simp) (fun i hi => ?_)⟩
    show appR 0 (rowOf 7 []) (fun i => encIns (l.getD i default)) i = _
    exact appR_zero
theorem c_CloneBlocks (l : List Block) : FO Try.prog 73 [blockss l] 14 l.length (fun i => encBlock (l.getD i default)) := by
  refine FO_intro tok Try.func73 rfl (by decide +kernel) (Nat.le_of_ble_eq_true rfl) ?_
  refine AWp_facts 0 (fun hl => ?_)
  have hl0 : l.length ≤ maxL := hl.1
  ((repeat' first | refine AWp_seq ?_ | (refine AWp_reg tok (by rfl) ?_; conv => whnf) | (refine AWp_skip ?_; conv => whnf) | (refine AWp_ret ?_; conv => whnf) | refine AWp_cond rfl (fun hb => ?_) (fun hb => ?_) | (refine @And.intro (underG _ _ _ _) _ ?_ ?_; rotate_left; (conv => whnf); rotate_right) | (refine fun (bn : Bool) (hbn : (0 < _ → bn = _)) => ?_; conv => whnf)); all_goals (try ((guard_target = underG _ _ _ _); refine underG_none ?_; (first | refine And.intro srcObl_sl ?_ | skip); (all_goals (try simp only [underG, true_and, and_true, Bool.cond_true_left, Bool.cond_false_left, Bool.cond_true_right, Bool.cond_false_right, Bool.or_eq_true, Bool.and_eq_true, Bool.or_eq_false_iff, Bool.and_eq_false_iff, cond_true, cond_false, Bool.not_eq_eq_eq_not, Bool.not_true, Bool.not_false, decide_eq_true_eq, decide_eq_false_iff_not, Int.toNat_natCast, Nat.zero_add, Decidable.not_not, maxL, inn_iff] at *)); all_goals omega)))
  · refine ⟨_, rfl, RelO.nsl' ?_⟩
    rcases Nat.eq_zero_or_pos l.length with h | h
    · exact h
    · rw [hbn h] at hb; cases hb
  · refine ⟨_, rfl, RelO.rs rfl (Nat.le_refl _) (by simp) (fun i hi => ?_)⟩
    show appR 0 (rowOf 14 []) (fun i => encBlock (l.getD i default)) i = _
    exact appR_zero
theorem c_CloneFuncs (l : List Func) : FO Try.prog 72 [funcss l] 3 l.length (fun i => encFunc (l.getD i default)) := by
  refine FO_intro tok Try.func72 rfl (by decide +kernel) (Nat.le_of_ble_eq_true rfl) ?_
  refine AWp_facts 0 (fun hl => ?_)
  have hl0 : l.length ≤ maxL := hl.1
  ((repeat' first | refine AWp_seq ?_ | (refine AWp_reg tok (by rfl) ?_; conv => whnf) | (refine AWp_skip ?_; conv => whnf) | (refine AWp_ret ?_; conv => whnf) | refine AWp_cond rfl (fun hb => ?_) (fun hb => ?_) | (refine @And.intro (underG _ _ _ _) _ ?_ ?_; rotate_left; (conv => whnf); rotate_right) | (refine fun (bn : Bool) (hbn : (0 < _ → bn = _)) => ?_; conv => whnf)); all_goals (try ((guard_target = underG _ _ _ _); refine underG_none ?_; (first | refine And.intro srcObl_sl ?_ | skip); (all_goals (try simp only [underG, true_and, and_true, Bool.cond_true_left, Bool.cond_false_left, Bool.cond_true_right, Bool.cond_false_right, Bool.or_eq_true, Bool.and_eq_true, Bool.or_eq_false_iff, Bool.and_eq_false_iff, cond_true, cond_false, Bool.not_eq_eq_eq_not, Bool.not_true, Bool.not_false, decide_eq_true_eq, decide_eq_false_iff_not, Int.toNat_natCast, Nat.zero_add, Decidable.not_not, maxL, inn_iff] at *)); all_goals omega)))
  · refine ⟨_, rfl, RelO.nsl' ?_⟩
    rcases Nat.eq_zero_or_pos l.length with h | h
    · exact h
    · rw [hbn h] at hb; cases hb
  · refine ⟨_, rfl, RelO.rs rfl (Nat.le_refl _) (by simp) (fun i hi => ?_)⟩
    show appR 0 (rowOf 3 []) (fun i => encFunc (l.getD i default)) i = _
    exact appR_zero
theorem c_CloneInts (l : List Int) : FO Try.prog 76 [ints l] 1 l.length (fun i => [iv (l.getD i 0)]) := by
  refine FO_intro tok Try.func76 rfl (by decide +kernel) (Nat.le_of_ble_eq_true rfl) ?_
  refine AWp_facts 0 (fun hl => ?_)
  have hl0 : l.length ≤ maxL := hl.1
  ((repeat' first | refine AWp_seq ?_ | (refine AWp_reg tok (by rfl) ?_; conv => whnf) | (refine AWp_skip ?_; conv => whnf) | (refine AWp_ret ?_; conv => whnf) | refine AWp_cond rfl (fun hb => ?_) (fun hb => ?_) | (refine @And.intro (underG _ _ _ _) _ ?_ ?_; rotate_left; (conv => whnf); rotate_right) | (refine fun (bn : Bool) (hbn : (0 < _ → bn = _)) => ?_; conv => whnf)); all_goals (try ((guard_target = underG _ _ _ _); refine underG_none ?_; (first | refine And.intro srcObl_sl ?_ | skip); (all_goals (try simp only [underG, true_and, and_true, Bool.cond_true_left, Bool.cond_false_left, Bool.cond_true_right, Bool.cond_false_right, Bool.or_eq_true, Bool.and_eq_true, Bool.or_eq_false_iff, Bool.and_eq_false_iff, cond_true, cond_false, Bool.not_eq_eq_eq_not, Bool.not_true, Bool.not_false, decide_eq_true_eq, decide_eq_false_iff_not, Int.toNat_natCast, Nat.zero_add, Decidable.not_not, maxL, inn_iff] at *)); all_goals omega)))
  · refine ⟨_, rfl, RelO.nsl' ?_⟩
    rcases Nat.eq_zero_or_pos l.length with h | h
    · exact h
    · rw [hbn h] at hb; cases hb
  · refine ⟨_, rfl, RelO.rs rfl (Nat.le_refl _) (by simp) (fun i hi => ?_)⟩
    show appR 0 (rowOf 1 []) (fun i => [iv (l.getD i 0)]) i = _
    exact appR_zero
theorem c_CloneU16s (l : List Int) : FO Try.prog 74 [u16s l] 1 l.length (fun i => [.int .u16 (l.getD i 0)]) := by
  refine FO_intro tok Try.func74 rfl (by decide +kernel) (Nat.le_of_ble_eq_true rfl) ?_
  refine AWp_facts 0 (fun hl => ?_)
  have hl0 : l.length ≤ maxL := hl.1
  ((repeat' first | refine AWp_seq ?_ | (refine AWp_reg tok (by rfl) ?_; conv => whnf) | (refine AWp_skip ?_; conv => whnf) | (refine AWp_ret ?_; conv => whnf) | refine AWp_cond rfl (fun hb => ?_) (fun hb => ?_) | (refine @And.intro (underG _ _ _ _) _ ?_ ?_; rotate_left; (conv => whnf); rotate_right) | (refine fun (bn : Bool) (hbn : (0 < _ → bn = _)) => ?_; conv => whnf)); all_goals (try ((guard_target = underG _ _ _ _); refine underG_none ?_; (first | refine And.intro srcObl_sl ?_ | skip); (all_goals (try simp only [underG, true_and, and_true, Bool.cond_true_left, Bool.cond_false_left, Bool.cond_true_right, Bool.cond_false_right, Bool.or_eq_true, Bool.and_eq_true, Bool.or_eq_false_iff, Bool.and_eq_false_iff, cond_true, cond_false, Bool.not_eq_eq_eq_not, Bool.not_true, Bool.not_false, decide_eq_true_eq, decide_eq_false_iff_not, Int.toNat_natCast, Nat.zero_add, Decidable.not_not, maxL, inn_iff] at *)); all_goals omega)))
  · refine ⟨_, rfl, RelO.nsl' ?_⟩
    rcases Nat.eq_zero_or_pos l.length with h | h
    · exact h
    · rw [hbn h] at hb; cases hb
  · refine ⟨_, rfl, RelO.rs rfl (Nat.le_refl _) (by simp) (fun i hi => ?_)⟩
    show appR 0 (rowOf 1 []) (fun i => [.int .u16 (l.getD i 0)]) i = _
    exact appR_zero
theorem c_CloneBools (l : List Bool) : FO Try.prog 147 [bools l] 1 l.length (fun i => [.bool (l.getD i false)]) := by
  refine FO_intro tok Try.func147 rfl (by decide +kernel) (Nat.le_of_ble_eq_true rfl) ?_
  refine AWp_facts 0 (fun hl => ?_)
  have hl0 : l.length ≤ maxL := hl.1
  ((repeat' first | refine AWp_seq ?_ | (refine AWp_reg tok (by rfl) ?_; conv => whnf) | (refine AWp_skip ?_; conv => whnf) | (refine AWp_ret ?_; conv => whnf) | refine AWp_cond rfl (fun hb => ?_) (fun hb => ?_) | (refine @And.intro (underG _ _ _ _) _ ?_ ?_; rotate_left; (conv => whnf); rotate_right) | (refine fun (bn : Bool) (hbn : (0 < _ → bn = _)) => ?_; conv => whnf)); all_goals (try ((guard_target = underG _ _ _ _); refine underG_none ?_; (first | refine And.intro srcObl_sl ?_ | skip); (all_goals (try simp only [underG, true_and, and_true, Bool.cond_true_left, Bool.cond_false_left, Bool.cond_true_right, Bool.cond_false_right, Bool.or_eq_true, Bool.and_eq_true, Bool.or_eq_false_iff, Bool.and_eq_false_iff, cond_true, cond_false, Bool.not_eq_eq_eq_not, Bool.not_true, Bool.not_false, decide_eq_true_eq, decide_eq_false_iff_not, Int.toNat_natCast, Nat.zero_add, Decidable.not_not, maxL, inn_iff] at *)); all_goals omega)))
  · refine ⟨_, rfl, RelO.nsl' ?_⟩
    rcases Nat.eq_zero_or_pos l.length with h | h
    · exact h
    · rw [hbn h] at hb; cases hb
  · refine ⟨_, rfl, RelO.rs rfl (Nat.le_refl _) (by simp) (fun i hi => ?_)⟩
    show appR 0 (rowOf 1 []) (fun i => [.bool (l.getD i false)]) i = _
    exact appR_zero
end Go.Proofs.Ytmanpbgaihdalaa
namespace Go.Proofs.Ytmanpbgaihdalaa
open Go Dv
set_option maxRecDepth 10000
set_option linter.unusedSimpArgs false
/-! Modules in memory of one's own. -/
def sel (b : Bool) (x y : AV) : AV := bif b then x else y
def blkO (b : Block) (x : AV) : List AV := [.bool b.landing, iv b.pad.dst, u16s b.pad.catch_, .bool b.pad.all, .bool b.pad.cleanup, x, iv b.fin.kind, iv b.fin.a, iv b.fin.dst, iv b.fin.f, ints b.fin.args, iv b.fin.to, iv b.fin.els, iv b.fin.pad]
def insR (l : List Ins) : ABlock := .row true 7 l.length (fun j => encIns (l.getD j default))
/-- The blocks of a function, the first k of them with instructions of their own. -/
def blkR (i : Nat) (l : List Block) (k : Nat) (c : Nat → AV) : ABlock := .row false 14 l.length (fun q => blkO (l.getD q default) (sel (Nat.blt q k) (.rs (1001, i, q) 7 0 (l.getD q default).ins.length) (c q)))
def funR (l : List Func) (k : Nat) (c : Nat → AV) : ABlock := .row false 3 l.length (fun j => [iv (l.getD j default).params, iv (l.getD j default).regs, sel (Nat.blt j k) (.rs (1000, j, 0) 14 0 (l.getD j default).blocks.length) (c j)])
/-- The instructions of the blocks of the functions before number n, and of the first k of that one. -/
def insF (l : List Func) (n k : Nat) : AHeap := famC 1001 (fun i q => bif (Nat.blt i n && Nat.blt q (l.getD i default).blocks.length) || (Nat.beq i n && Nat.blt q k) then some (insR ((l.getD i default).blocks.getD q default).ins) else none)
def blkF (l : List Func) (n : Nat) : AHeap := famC 1000 (fun i z => bif Nat.beq z 0 && Nat.blt i n then some (blkR i (l.getD i default).blocks (l.getD i default).blocks.length (fun _ => .any)) else none)
theorem sel_ge {a i : Nat} (h : i ≤ a) {x y : AV} : sel (Nat.blt a i) x y = y := by
  have : Nat.blt a i = false := by rw [Bool.eq_false_iff]; intro h2; rw [Nat.blt_eq] at h2; omega
  rw [this]; rfl
theorem sel_lt {a i : Nat} (h : a < i) {x y : AV} : sel (Nat.blt a i) x y = x := by
  have : Nat.blt a i = true := by rw [Nat.blt_eq]; exact h
  rw [this]; rfl
theorem sel_eq {i : Nat} {x y : AV} : sel (Nat.beq i i) x y = x := by
  have : Nat.beq i i = true := by simp
  rw [this]; rfl
theorem sel_ne {i j : Nat} (h : i ≠ j) {x y : AV} : sel (Nat.beq i j) x y = y := by
  have : Nat.beq i j = false := by rw [Bool.eq_false_iff]; intro h2; exact h (Nat.eq_of_beq_eq_true h2)
  rw [this]; rfl
theorem beq0_and {z n i : Nat} : (Nat.beq z 0 && Nat.blt i n) = true ↔ z = 0 ∧ i < n := by
  rw [Bool.and_eq_true, Nat.blt_eq]; simp
theorem blkF_some {l : List Func} {n : Nat} {j : Dv.Id} {b : ABlock} (h : blkF l n j = some b) : ∃ i, j = (1000, i, 0) ∧ i < n ∧ b = blkR i (l.getD i default).blocks (l.getD i default).blocks.length (fun _ => .any) := by
  obtain ⟨p, q, rfl, h3⟩ := famC_some h
  cases e : (Nat.beq q 0 && Nat.blt p n) with
  | false => rw [e] at h3; cases h3
  | true =>
    rw [e] at h3
    obtain ⟨rfl, h2⟩ := beq0_and.1 e
    exact ⟨p, rfl, h2, (Option.some.inj h3).symm⟩
theorem blkF_at {l : List Func} {n i : Nat} (h : i < n) : blkF l n (1000, i, 0) = some (blkR i (l.getD i default).blocks (l.getD i default).blocks.length (fun _ => .any)) := by
  show (bif (Nat.beq 0 0 && Nat.blt i n) then _ else none) = _
  rw [beq0_and.2 ⟨rfl, h⟩]; rfl
theorem insC {n k i q nb : Nat} : ((Nat.blt i n && Nat.blt q nb) || (Nat.beq i n && Nat.blt q k)) = true ↔ (i < n ∧ q < nb) ∨ (i = n ∧ q < k) := by
  rw [Bool.or_eq_true, Bool.and_eq_true, Bool.and_eq_true, Nat.blt_eq, Nat.blt_eq, Nat.blt_eq]; simp
theorem insF_some {l : List Func} {n k : Nat} {j : Dv.Id} {b : ABlock} (h : insF l n k j = some b) : ∃ i q, j = (1001, i, q) ∧ ((i < n ∧ q < (l.getD i default).blocks.length) ∨ (i = n ∧ q < k)) ∧ b = insR ((l.getD i default).blocks.getD q default).ins := by
  obtain ⟨p, q, rfl, h3⟩ := famC_some h
  cases e : ((Nat.blt p n && Nat.blt q (l.getD p default).blocks.length) || (Nat.beq p n && Nat.blt q k)) with
  | false => rw [e] at h3; cases h3
  | true => rw [e] at h3; exact ⟨p, q, rfl, insC.1 e, (Option.some.inj h3).symm⟩
theorem insF_at {l : List Func} {n k i q : Nat} (h : (i < n ∧ q < (l.getD i default).blocks.length) ∨ (i = n ∧ q < k)) : insF l n k (1001, i, q) = some (insR ((l.getD i default).blocks.getD q default).ins) := by
  show (bif ((Nat.blt i n && Nat.blt q (l.getD i default).blocks.length) || (Nat.beq i n && Nat.blt q k)) then _ else none) = _
  rw [insC.2 h]; rfl
/-- Blocks and instructions. -/
def treeF (l : List Func) (n k : Nat) : AHeap := orH (blkF l n) (insF l n k)
theorem treeF_blk {l : List Func} {n k i : Nat} (h : i < n) : treeF l n k (1000, i, 0) = some (blkR i (l.getD i default).blocks (l.getD i default).blocks.length (fun _ => .any)) := by
  unfold treeF orH; rw [blkF_at h]
theorem treeF_ins {l : List Func} {n k i q : Nat} (h : (i < n ∧ q < (l.getD i default).blocks.length) ∨ (i = n ∧ q < k)) : treeF l n k (1001, i, q) = some (insR ((l.getD i default).blocks.getD q default).ins) := by
  show insF l n k (1001, i, q) = _
  exact insF_at h
theorem treeF_some {l : List Func} {n k : Nat} {j : Dv.Id} {b : ABlock} (h : treeF l n k j = some b) : (∃ i, j = (1000, i, 0) ∧ i < n ∧ b = blkR i (l.getD i default).blocks (l.getD i default).blocks.length (fun _ => .any)) ∨
    ∃ i q, j = (1001, i, q) ∧ ((i < n ∧ q < (l.getD i default).blocks.length) ∨ (i = n ∧ q < k)) ∧ b = insR ((l.getD i default).blocks.getD q default).ins := by
  rcases orH_some h with e | ⟨_, e⟩
  · exact .inl (blkF_some e)
  · exact .inr (insF_some e)
def copyH (l : List Func) : AHeap := orH (lookH [((900, 0, 0), funR l l.length (fun _ => .any))]) (treeF l l.length 0)
section
variable {src : Dv.Id → Option Dv.Id} {h h' : AHeap}
theorem GB_ins (l : List Ins) : GB src h h' (insR l) (insR l) := GB.rowI (Nat.le_refl _) (fun _ _ => ⟨rfl, rfl⟩)
theorem GVs_blk {b : Block} {x y : AV} (hx : GV src h h' x y) : GVs src h h' (blkO b x) (blkO b y) :=
  .cons (.imm rfl) (.cons (.imm rfl) (.cons (.imm rfl) (.cons (.imm rfl) (.cons (.imm rfl) (.cons hx (GVs.imm rfl))))))
theorem GB_blk {i i' : Nat} {l : List Block} {k k' : Nat} {c c' : Nat → AV} (hc : ∀ q, q < l.length → GV src h h' (sel (Nat.blt q k) (.rs (1001, i, q) 7 0 (l.getD q default).ins.length) (c q)) (sel (Nat.blt q k') (.rs (1001, i', q) 7 0 (l.getD q default).ins.length) (c' q))) :
    GB src h h' (blkR i l k c) (blkR i' l k' c') := GB.row (Nat.le_refl _) (fun q hq => GVs_blk (hc q hq)) (fun e => by cases e)
theorem GB_fun {l : List Func} {k k' : Nat} {c c' : Nat → AV} (hc : ∀ q, q < l.length → GV src h h' (sel (Nat.blt q k) (.rs (1000, q, 0) 14 0 (l.getD q default).blocks.length) (c q)) (sel (Nat.blt q k') (.rs (1000, q, 0) 14 0 (l.getD q default).blocks.length) (c' q))) :
    GB src h h' (funR l k c) (funR l k' c') := GB.row (Nat.le_refl _) (fun q hq => .cons (.imm rfl) (.cons (.imm rfl) (.cons (hc q hq) .nil))) (fun e => by cases e)
end
theorem keep_fun {src : Dv.Id → Option Dv.Id} {h h' : AHeap} {i j n m : Nat} {x : AV} {b b2 : ABlock} (h1 : j < i → h' (1000, j, 0) = some b) (hs : src (1000, j, 0) = some (1000, j, 0)) (h27 : h' (27, 8, 0) = some b2) (hs27 : src (27, 8, 0) = some (27, 8, 0)) (hx : immD x = true) :
    GV src h h' (sel (Nat.blt j i) (.rs (1000, j, 0) 14 0 n) (sel (Nat.beq j i) (.rs (27, 8, 0) 14 0 m) x)) (sel (Nat.blt j i) (.rs (1000, j, 0) 14 0 n) (sel (Nat.beq j i) (.rs (27, 8, 0) 14 0 m) x)) := by
  by_cases hji : j < i
  · exact .cc (sel_lt hji) (sel_lt hji) (.rs (h1 hji) hs rfl rfl)
  · by_cases e : j = i
    · subst e
      exact .cc (by rw [sel_ge (Nat.le_refl _), sel_eq]) (by rw [sel_ge (Nat.le_refl _), sel_eq]) (.rs h27 hs27 rfl rfl)
    · exact .cc (by rw [sel_ge (by omega), sel_ne e]) (by rw [sel_ge (by omega), sel_ne e]) (.imm hx)
theorem tree_hd0 {fs : List Func} {n k : Nat} {c : Dv.Id} (hc : treeF fs n k c = none) : ∀ j, (treeF fs n k j).isSome = true → srcL [] j ≠ some c := fun j hj e => by
  cases e; rw [hc] at hj; cases hj
theorem srcL_hit {c : Dv.Id} {o : Option Dv.Id} : srcL [(c, o)] c = o := by simp [srcL, idEq_iff.2 rfl]
theorem srcL_miss {c j : Dv.Id} {o : Option Dv.Id} (h : c ≠ j) : srcL [(c, o)] j = some j := by simp [srcL, idEq_false.2 h]
theorem updR_self {f : Nat → List AV} {k : Nat} {c : List AV} : updR f k c k = c := by
  unfold updR
  have : Nat.beq k k = true := by simp
  rw [this]; rfl
theorem keep_blk {src : Dv.Id → Option Dv.Id} {h h' : AHeap} {i k q n m : Nat} {x : AV} {b b2 : ABlock} (h1 : q < k → h' (1001, i, q) = some b) (hs : src (1001, i, q) = some (1001, i, q)) (h57 : h' (57, 0, 0) = some b2) (hs57 : src (57, 0, 0) = some (57, 0, 0)) (hx : immD x = true := by rfl) :
    GV src h h' (sel (Nat.blt q k) (.rs (1001, i, q) 7 0 n) (sel (Nat.beq q k) (.rs (57, 0, 0) 7 0 m) x)) (sel (Nat.blt q k) (.rs (1001, i, q) 7 0 n) (sel (Nat.beq q k) (.rs (57, 0, 0) 7 0 m) x)) := by
  by_cases hji : q < k
  · exact .cc (sel_lt hji) (sel_lt hji) (.rs (h1 hji) hs rfl rfl)
  · by_cases e : q = k
    · subst e
      exact .cc (by rw [sel_ge (Nat.le_refl _), sel_eq]) (by rw [sel_ge (Nat.le_refl _), sel_eq]) (.rs h57 hs57 rfl rfl)
    · exact .cc (by rw [sel_ge (by omega), sel_ne e]) (by rw [sel_ge (by omega), sel_ne e]) (.imm hx)
theorem c_Copy (fs : List Func) : HF Try.prog 26 [.agg (encMod ⟨fs⟩)] (.agg [.rs (900, 0, 0) 3 0 fs.length]) (copyH fs) := by
  refine HF_intro tok Try.func26 rfl (by decide +kernel) (Nat.le_of_ble_eq_true rfl) ?_
  refine AWp_facts 0 (fun hl => ?_)
  have hl0 : fs.length ≤ maxL := hl.1.1
  have hmx : maxL = 4294967296 := rfl
  have hl1 : ∀ i, i < fs.length → (fs.getD i default).blocks.length ≤ maxL ∧ ∀ k, k < (fs.getD i default).blocks.length → ((fs.getD i default).blocks.getD k default).ins.length ≤ maxL := fun i hi => by
    have h1 := hl.1.2 i hi
    exact ⟨h1.2.2.1.1, fun k hk => (h1.2.2.1.2 k hk).2.2.2.2.2.1.1⟩
  clear hl
  (repeat' first | refine AWp_seq ?_ | (refine AWp_reg tok (by rfl) ?_; conv => whnf))
  refine .inl ⟨_, _, _, uG (QC.fo (rd := []) (c_CloneFuncs fs) (Ress.imms rfl) (.inl rfl) rfl), ?_⟩
  conv => whnf
  (repeat' first | refine AWp_seq ?_ | (refine AWp_reg tok (by rfl) ?_; conv => whnf) | refine AWp_block ?_)
  refine AWp_loop (fun i : Nat => mkF [(1, .bp (1, 0, 0) 0), (2, .bp (2, 0, 0) 0), (14, iv fs.length), (15, iv i)]
      [((1, 0, 0), .row false 1 1 (fun _ => [.rs (10, 0, 0) 3 0 fs.length])), ((2, 0, 0), boxed [.nsl]), ((10, 0, 0), funR fs i (fun j => blockss (fs.getD j default).blocks))] (treeF fs i 0))
    (fun i => i ≤ fs.length) (fun i => fs.length - i) 0 (Nat.zero_le _) ?_ ?_
  · refine Weak.fam [] rfl (fun i hi => by cases hi) ?_ ?_ ?_ (fun i hi => by cases hi)
    · (repeat' first | exact TLg.nil | refine TLg.cons (GV.imm rfl) ?_ | refine TLg.cons (GV.bp rfl rfl) ?_)
      all_goals rfl
    · refine .old rfl rfl (GB.one (.cons (.rs rfl rfl rfl rfl) .nil) (fun e => by cases e)) (.old rfl rfl (GB.one (GVs.imm rfl) (fun _ => rfl)) (.old rfl rfl (GB.row (Nat.le_refl _) (fun j hj => .cons (.imm rfl) (.cons (.imm rfl) (.cons ?_ .nil))) (fun e => by cases e)) .nil))
      rw [sel_ge (Nat.zero_le _)]; exact GV.imm rfl
    · intro j b e
      rcases treeF_some e with ⟨i, _, h, _⟩ | ⟨i, q, _, h, _⟩ <;> omega
  intro i hi
  ((repeat' ((fail_if_success (show AWp _ _ _ (Code.region 6 _ _) _ _)); first | refine AWp_seq ?_ | (refine AWp_reg tok (by rfl) ?_; conv => whnf) | refine AWp_block ?_ | (refine AWp_skip ?_; conv => whnf) | (refine AWp_exit ?_; conv => whnf) | (refine AWp_ret ?_; conv => whnf) | refine AWp_cond rfl (fun hb => ?_) (fun hb => ?_) | (refine @And.intro (underG _ _ _ _) _ ?_ ?_; rotate_left; (conv => whnf); rotate_right))); all_goals (try ((guard_target = underG _ _ _ _); refine underG_none ?_; (all_goals (try simp only [underG, true_and, and_true, Bool.cond_true_left, Bool.cond_false_left, Bool.cond_true_right, Bool.cond_false_right, Bool.or_eq_true, Bool.and_eq_true, Bool.or_eq_false_iff, Bool.and_eq_false_iff, cond_true, cond_false, Bool.not_eq_eq_eq_not, Bool.not_true, Bool.not_false, decide_eq_true_eq, decide_eq_false_iff_not, Int.toNat_natCast, Nat.zero_add, Decidable.not_not, maxL, inn_iff] at *)); all_goals omega)))
  · have hlt : i < fs.length := by simp only [decide_eq_true_eq] at hb; omega
    clear hb
    have hz : 0 + (i : Int).toNat = i := by simp
    ((repeat' ((fail_if_success (show AWp _ _ _ (Code.region 7 _ _) _ _)); first | (refine AWp_reg tok (by rfl) ?_; conv => whnf) | (refine @And.intro (underG _ _ _ _) _ ?_ ?_; rotate_left; (conv => whnf); rotate_right))); all_goals (try ((guard_target = underG _ _ _ _); refine underG_none ?_; (all_goals (try simp only [underG, true_and, and_true, Bool.cond_true_left, Bool.cond_false_left, Bool.cond_true_right, Bool.cond_false_right, Bool.or_eq_true, Bool.and_eq_true, Bool.or_eq_false_iff, Bool.and_eq_false_iff, cond_true, cond_false, Bool.not_eq_eq_eq_not, Bool.not_true, Bool.not_false, decide_eq_true_eq, decide_eq_false_iff_not, Int.toNat_natCast, Nat.zero_add, Decidable.not_not, maxL, inn_iff] at *)); all_goals omega)))
    refine fAV (y := blockss (fs.getD i default).blocks) ?_ ?_
    · show sel _ _ (blockss (fs.getD (0 + (i : Int).toNat) default).blocks) = _
      rw [hz, sel_ge (Nat.le_refl _)]
    conv => whnf
    skip
    refine .inl ⟨_, _, _, uG (QC.fo (rd := []) (c_CloneBlocks (fs.getD i default).blocks) (Ress.imms rfl) (.inl rfl) rfl), ?_⟩
    conv => whnf
    ((repeat' ((fail_if_success (show AWp _ _ _ (Code.region 7 _ _) _ _)); first | refine AWp_seq ?_ | (refine @And.intro (underG _ _ _ _) _ ?_ ?_; rotate_left; (conv => whnf); rotate_right))); all_goals (try ((guard_target = underG _ _ _ _); refine underG_none ?_; (all_goals (try simp only [underG, true_and, and_true, Bool.cond_true_left, Bool.cond_false_left, Bool.cond_true_right, Bool.cond_false_right, Bool.or_eq_true, Bool.and_eq_true, Bool.or_eq_false_iff, Bool.and_eq_false_iff, cond_true, cond_false, Bool.not_eq_eq_eq_not, Bool.not_true, Bool.not_false, decide_eq_true_eq, decide_eq_false_iff_not, Int.toNat_natCast, Nat.zero_add, Decidable.not_not, maxL, inn_iff] at *)); all_goals omega)))
    have hbs : ∃ bs, (fs.getD i default).blocks = bs := ⟨_, rfl⟩
    obtain ⟨bs, hbs⟩ := hbs
    refine AWp_weak (Weak.fam (tl := [(1, .bp (1, 0, 0) 0), (2, .bp (2, 0, 0) 0), (14, iv fs.length), (15, iv i), (4, .rp (10, 0, 0) 3 i 0)]) (hl := [((1, 0, 0), .row false 1 1 (fun _ => [.rs (10, 0, 0) 3 0 fs.length])), ((2, 0, 0), boxed [.nsl]), ((10, 0, 0), funR fs i (fun j => sel (Nat.beq j i) (.rs (27, 8, 0) 14 0 bs.length) (blockss (fs.getD j default).blocks))), ((27, 8, 0), blkR i bs 0 (fun q => inss (bs.getD q default).ins))]) (F := treeF fs i 0) [((27, 8, 0), some (27, 0, 0))] rfl (fun i hi => by simp only [tgts, List.mem_singleton] at hi; subst hi; exact .inl rfl) ?_ ?_ ?_ (fun i hi => by cases hi)) ?_
    · (repeat' first | exact TLg.nil | refine TLg.cons (GV.imm rfl) ?_ | refine TLg.cons (GV.bp rfl rfl) ?_ | refine TLg.cons (GV.rp rfl rfl ?_) ?_)
      all_goals first | rfl | exact hz
    · refine .old rfl rfl (GB.one (.cons (.rs rfl rfl rfl rfl) .nil) (fun e => by cases e)) (.old rfl rfl (GB.one (GVs.imm rfl) (fun _ => rfl)) (.old rfl rfl (GB.row (Nat.le_refl _) (fun j hj => ?_) (fun e => by cases e)) (.old rfl rfl (GB.row ?_ (fun j hj => ?_) (fun e => by cases e)) .nil)))
      · refine GVs.upd (fun e => ?_) (fun e => ?_)
        · rw [hz] at e; subst e
          refine .cons (.int (by rw [hz])) (.cons (.int (by rw [hz])) (.cons ?_ .nil))
          exact .cc (x' := .rs (27, 0, 0) 14 0 (fs.getD j default).blocks.length) rfl (show sel _ _ (sel _ _ _) = _ by rw [sel_ge (Nat.le_refl _), sel_eq]) (.rs rfl rfl rfl (by rw [hbs]))
        · rw [hz] at e
          refine .cons (.imm rfl) (.cons (.imm rfl) (.cons ?_ .nil))
          by_cases hji : j < i
          · exact .cc (show sel _ _ _ = _ from sel_lt hji) (show sel _ _ (sel _ _ _) = _ from sel_lt hji) (.rs (b := blkR j (fs.getD j default).blocks (fs.getD j default).blocks.length (fun _ => .any)) (treeF_blk hji) rfl rfl rfl)
          · exact .cc (show sel _ _ _ = _ from sel_ge (by omega)) (show sel _ _ (sel _ _ _) = _ by rw [sel_ge (by omega), sel_ne e]) (.imm rfl)
      · rw [hbs]; exact Nat.le_refl _
      · subst hbs
        exact GVs_blk (.cc rfl (show sel _ _ _ = _ from sel_ge (Nat.zero_le _)) (.imm rfl))
    · intro j b e
      rcases treeF_some e with ⟨p, rfl, hp, rfl⟩ | ⟨p, q, rfl, hp, rfl⟩
      · exact HOk.mk rfl (b0 := blkR p (fs.getD p default).blocks (fs.getD p default).blocks.length (fun _ => .any)) (treeF_blk hp) (GB_blk (fun q hq => .cc (sel_lt hq) (sel_lt hq) (.rs (b := insR ((fs.getD p default).blocks.getD q default).ins) (treeF_ins (.inl ⟨hp, hq⟩)) rfl rfl rfl)))
      · exact HOk.mk rfl (b0 := insR ((fs.getD p default).blocks.getD q default).ins) (treeF_ins hp) (GB_ins _)
    ((repeat' ((fail_if_success (show AWp _ _ _ (Code.region 8 _ _) _ _)); first | (refine AWp_reg tok (by rfl) ?_; conv => whnf) | (refine @And.intro (underG _ _ _ _) _ ?_ ?_; rotate_left; (conv => whnf); rotate_right))); all_goals (try ((guard_target = underG _ _ _ _); refine underG_none ?_; (all_goals (try simp only [underG, true_and, and_true, Bool.cond_true_left, Bool.cond_false_left, Bool.cond_true_right, Bool.cond_false_right, Bool.or_eq_true, Bool.and_eq_true, Bool.or_eq_false_iff, Bool.and_eq_false_iff, cond_true, cond_false, Bool.not_eq_eq_eq_not, Bool.not_true, Bool.not_false, decide_eq_true_eq, decide_eq_false_iff_not, Int.toNat_natCast, Nat.zero_add, Decidable.not_not, maxL, inn_iff] at *)); all_goals omega)))
    refine fAV (y := .rs (27, 8, 0) 14 0 bs.length) (show sel (Nat.blt i i) _ (sel (Nat.beq i i) _ _) = _ by rw [sel_ge (Nat.le_refl _), sel_eq]) ?_
    conv => whnf
    (repeat' ((fail_if_success (show AWp _ _ _ (Code.region 8 _ _) _ _)); refine AWp_block ?_))
    have hbl := (hl1 i hlt).1
    have hbl2 := (hl1 i hlt).2
    rw [hbs] at hbl hbl2
    clear hl1
    refine AWp_loop (fun k : Nat => mkF [(1, .bp (1, 0, 0) 0), (2, .bp (2, 0, 0) 0), (14, iv fs.length), (15, iv i), (4, .rp (10, 0, 0) 3 i 0), (34, iv bs.length), (35, iv k)] [((1, 0, 0), .row false 1 1 (fun _ => [.rs (10, 0, 0) 3 0 fs.length])), ((2, 0, 0), boxed [.nsl]), ((10, 0, 0), funR fs i (fun j => sel (Nat.beq j i) (.rs (27, 8, 0) 14 0 bs.length) (blockss (fs.getD j default).blocks))), ((27, 8, 0), blkR i bs k (fun q => inss (bs.getD q default).ins))] (treeF fs i k))
      (fun k => k ≤ bs.length) (fun k => bs.length - k) 0 (Nat.zero_le _) ?_ ?_
    · refine Weak.fam [] rfl (fun i hi => by cases hi) ?_ ?_ ?_ (fun i hi => by cases hi)
      · (repeat' first | exact TLg.nil | refine TLg.cons (GV.imm rfl) ?_ | refine TLg.cons (GV.bp rfl rfl) ?_)
        all_goals rfl
      · refine .old rfl rfl (GB.one (.cons (.rs rfl rfl rfl rfl) .nil) (fun e => by cases e)) (.old rfl rfl (GB.one (GVs.imm rfl) (fun _ => rfl)) (.old rfl rfl (GB_fun (fun j hj => keep_fun (fun h => treeF_blk h) rfl rfl rfl rfl)) (.old rfl rfl (GB_blk (fun q hq => .cc (sel_ge (Nat.zero_le _)) (sel_ge (Nat.zero_le _)) (.imm rfl))) .nil)))
      · intro j b e
        rcases treeF_some e with ⟨p, rfl, hp, rfl⟩ | ⟨p, q, rfl, hp, rfl⟩
        · exact HOk.mk rfl (b0 := blkR p (fs.getD p default).blocks (fs.getD p default).blocks.length (fun _ => .any)) (treeF_blk hp) (GB_blk (fun q hq => .cc (sel_lt hq) (sel_lt hq) (.rs (b := insR ((fs.getD p default).blocks.getD q default).ins) (treeF_ins (.inl ⟨hp, hq⟩)) rfl rfl rfl)))
        · exact HOk.mk rfl (b0 := insR ((fs.getD p default).blocks.getD q default).ins) (treeF_ins hp) (GB_ins _)
    intro k hk
    ((repeat' ((fail_if_success (show AWp _ _ _ (Code.region 11 _ _) _ _)); first | refine AWp_seq ?_ | (refine AWp_reg tok (by rfl) ?_; conv => whnf) | refine AWp_block ?_ | (refine AWp_skip ?_; conv => whnf) | (refine AWp_exit ?_; conv => whnf) | refine AWp_cond rfl (fun hb => ?_) (fun hb => ?_) | (refine @And.intro (underG _ _ _ _) _ ?_ ?_; rotate_left; (conv => whnf); rotate_right))); all_goals (try ((guard_target = underG _ _ _ _); refine underG_none ?_; (all_goals (try simp only [underG, true_and, and_true, Bool.cond_true_left, Bool.cond_false_left, Bool.cond_true_right, Bool.cond_false_right, Bool.or_eq_true, Bool.and_eq_true, Bool.or_eq_false_iff, Bool.and_eq_false_iff, cond_true, cond_false, Bool.not_eq_eq_eq_not, Bool.not_true, Bool.not_false, decide_eq_true_eq, decide_eq_false_iff_not, Int.toNat_natCast, Nat.zero_add, Decidable.not_not, maxL, inn_iff] at *)); all_goals omega)))
    · have hkl : k < bs.length := by simp only [decide_eq_true_eq] at hb; omega
      clear hb
      have hzk : 0 + (k : Int).toNat = k := by simp
      have hbk := hbl2 k hkl
      refine fAV (y := .rs (27, 8, 0) 14 0 bs.length) (show sel (Nat.blt i i) _ (sel (Nat.beq i i) _ _) = _ by rw [sel_ge (Nat.le_refl _), sel_eq]) ?_
      conv => whnf
      ((repeat' ((fail_if_success (show AWp _ _ _ (Code.region 11 _ _) _ _)); first | refine AWp_seq ?_ | (refine @And.intro (underG _ _ _ _) _ ?_ ?_; rotate_left; (conv => whnf); rotate_right))); all_goals (try ((guard_target = underG _ _ _ _); refine underG_none ?_; (all_goals (try simp only [underG, true_and, and_true, Bool.cond_true_left, Bool.cond_false_left, Bool.cond_true_right, Bool.cond_false_right, Bool.or_eq_true, Bool.and_eq_true, Bool.or_eq_false_iff, Bool.and_eq_false_iff, cond_true, cond_false, Bool.not_eq_eq_eq_not, Bool.not_true, Bool.not_false, decide_eq_true_eq, decide_eq_false_iff_not, Int.toNat_natCast, Nat.zero_add, Decidable.not_not, maxL, inn_iff] at *)); all_goals omega)))
      refine AWp_weak (Weak.fam (tl := [(1, .bp (1, 0, 0) 0), (2, .bp (2, 0, 0) 0), (14, iv fs.length), (15, iv i), (4, .rp (10, 0, 0) 3 i 0), (34, iv bs.length), (35, iv k), (6, .rp (27, 8, 0) 14 k 0)]) (hl := [((1, 0, 0), .row false 1 1 (fun _ => [.rs (10, 0, 0) 3 0 fs.length])), ((2, 0, 0), boxed [.nsl]), ((10, 0, 0), funR fs i (fun j => sel (Nat.beq j i) (.rs (27, 8, 0) 14 0 bs.length) (blockss (fs.getD j default).blocks))), ((27, 8, 0), blkR i bs k (fun q => inss (bs.getD q default).ins))]) (F := treeF fs i k) [] rfl (fun i hi => by cases hi) ?_ ?_ ?_ (fun i hi => by cases hi)) ?_
      · (repeat' first | exact TLg.nil | refine TLg.cons (GV.imm rfl) ?_ | refine TLg.cons (GV.bp rfl rfl) ?_ | refine TLg.cons (GV.rp rfl rfl ?_) ?_)
        all_goals first | rfl | exact hzk
      · refine .old rfl rfl (GB.one (.cons (.rs rfl rfl rfl rfl) .nil) (fun e => by cases e)) (.old rfl rfl (GB.one (GVs.imm rfl) (fun _ => rfl)) (.old rfl rfl (GB_fun (fun j hj => keep_fun (fun h => treeF_blk h) rfl rfl rfl rfl)) (.old rfl rfl (GB_blk (fun q hq => ?_)) .nil)))
        by_cases hqk : q < k
        · exact .cc (sel_lt hqk) (sel_lt hqk) (.rs (b := insR ((fs.getD i default).blocks.getD q default).ins) (treeF_ins (.inr ⟨rfl, hqk⟩)) rfl rfl rfl)
        · exact .cc (sel_ge (by omega)) (sel_ge (by omega)) (.imm rfl)
      · intro j b e
        rcases treeF_some e with ⟨p, rfl, hp, rfl⟩ | ⟨p, q, rfl, hp, rfl⟩
        · exact HOk.mk rfl (b0 := blkR p (fs.getD p default).blocks (fs.getD p default).blocks.length (fun _ => .any)) (treeF_blk hp) (GB_blk (fun q hq => .cc (sel_lt hq) (sel_lt hq) (.rs (b := insR ((fs.getD p default).blocks.getD q default).ins) (treeF_ins (.inl ⟨hp, hq⟩)) rfl rfl rfl)))
        · exact HOk.mk rfl (b0 := insR ((fs.getD p default).blocks.getD q default).ins) (treeF_ins hp) (GB_ins _)
      conv => whnf
      refine (AWp_any tok mix (by rfl) ?_)
      conv => whnf
      refine @And.intro (underG _ _ _ _) _ ?_ ?_
      · ((guard_target = underG _ _ _ _); refine underG_none ?_; (all_goals (try simp only [underG, true_and, and_true, Bool.cond_true_left, Bool.cond_false_left, Bool.cond_true_right, Bool.cond_false_right, Bool.or_eq_true, Bool.and_eq_true, Bool.or_eq_false_iff, Bool.and_eq_false_iff, cond_true, cond_false, Bool.not_eq_eq_eq_not, Bool.not_true, Bool.not_false, decide_eq_true_eq, decide_eq_false_iff_not, Int.toNat_natCast, Nat.zero_add, Decidable.not_not, maxL, inn_iff] at *)); all_goals omega)
      conv => whnf
      refine .inl ⟨_, _, _, uG (QC.fo (rd := []) (c_CloneU16s (bs.getD k default).pad.catch_) (Ress.imms rfl) (.inl rfl) rfl), ?_⟩
      conv => whnf
      refine @And.intro (underG _ _ _ _) _ ?_ ?_
      · ((guard_target = underG _ _ _ _); refine underG_none ?_; (all_goals (try simp only [underG, true_and, and_true, Bool.cond_true_left, Bool.cond_false_left, Bool.cond_true_right, Bool.cond_false_right, Bool.or_eq_true, Bool.and_eq_true, Bool.or_eq_false_iff, Bool.and_eq_false_iff, cond_true, cond_false, Bool.not_eq_eq_eq_not, Bool.not_true, Bool.not_false, decide_eq_true_eq, decide_eq_false_iff_not, Int.toNat_natCast, Nat.zero_add, Decidable.not_not, maxL, inn_iff] at *)); all_goals omega)
      conv => whnf
      refine fAV (y := inss (bs.getD k default).ins) (show sel (Nat.blt k k) _ _ = _ from sel_ge (Nat.le_refl _)) ?_
      conv => whnf
      refine .inl ⟨_, _, _, uG (QC.fo (rd := []) (c_CloneIns (bs.getD k default).ins) (Ress.imms rfl) (.inl rfl) rfl), ?_⟩
      conv => whnf
      refine @And.intro (underG _ _ _ _) _ ?_ ?_
      · ((guard_target = underG _ _ _ _); refine underG_none ?_; (all_goals (try simp only [underG, true_and, and_true, Bool.cond_true_left, Bool.cond_false_left, Bool.cond_true_right, Bool.cond_false_right, Bool.or_eq_true, Bool.and_eq_true, Bool.or_eq_false_iff, Bool.and_eq_false_iff, cond_true, cond_false, Bool.not_eq_eq_eq_not, Bool.not_true, Bool.not_false, decide_eq_true_eq, decide_eq_false_iff_not, Int.toNat_natCast, Nat.zero_add, Decidable.not_not, maxL, inn_iff] at *)); all_goals omega)
      conv => whnf
      refine .inl ⟨_, _, _, uG (QC.fo (rd := []) (c_CloneInts (bs.getD k default).fin.args) (Ress.imms rfl) (.inl rfl) rfl), ?_⟩
      conv => whnf
      refine @And.intro (underG _ _ _ _) _ ?_ ?_
      · ((guard_target = underG _ _ _ _); refine underG_none ?_; (all_goals (try simp only [underG, true_and, and_true, Bool.cond_true_left, Bool.cond_false_left, Bool.cond_true_right, Bool.cond_false_right, Bool.or_eq_true, Bool.and_eq_true, Bool.or_eq_false_iff, Bool.and_eq_false_iff, cond_true, cond_false, Bool.not_eq_eq_eq_not, Bool.not_true, Bool.not_false, decide_eq_true_eq, decide_eq_false_iff_not, Int.toNat_natCast, Nat.zero_add, Decidable.not_not, maxL, inn_iff] at *)); all_goals omega)
      conv => whnf
      refine @And.intro (underG _ _ _ _) _ ?_ ?_
      · ((guard_target = underG _ _ _ _); refine underG_none ?_; (all_goals (try simp only [underG, true_and, and_true, Bool.cond_true_left, Bool.cond_false_left, Bool.cond_true_right, Bool.cond_false_right, Bool.or_eq_true, Bool.and_eq_true, Bool.or_eq_false_iff, Bool.and_eq_false_iff, cond_true, cond_false, Bool.not_eq_eq_eq_not, Bool.not_true, Bool.not_false, decide_eq_true_eq, decide_eq_false_iff_not, Int.toNat_natCast, Nat.zero_add, Decidable.not_not, maxL, inn_iff] at *)); all_goals omega)
      conv => whnf
      refine @And.intro (underG _ _ _ _) _ ?_ ?_
      · ((guard_target = underG _ _ _ _); refine underG_none ?_; (all_goals (try simp only [underG, true_and, and_true, Bool.cond_true_left, Bool.cond_false_left, Bool.cond_true_right, Bool.cond_false_right, Bool.or_eq_true, Bool.and_eq_true, Bool.or_eq_false_iff, Bool.and_eq_false_iff, cond_true, cond_false, Bool.not_eq_eq_eq_not, Bool.not_true, Bool.not_false, decide_eq_true_eq, decide_eq_false_iff_not, Int.toNat_natCast, Nat.zero_add, Decidable.not_not, maxL, inn_iff] at *)); all_goals omega)
      conv => whnf
      refine AWp_weak (Weak.fam (tl := [(1, .bp (1, 0, 0) 0), (2, .bp (2, 0, 0) 0), (14, iv fs.length), (15, iv i), (4, .rp (10, 0, 0) 3 i 0), (34, iv bs.length), (35, iv k), (6, .rp (27, 8, 0) 14 k 0)]) (hl := [((1, 0, 0), .row false 1 1 (fun _ => [.rs (10, 0, 0) 3 0 fs.length])), ((2, 0, 0), boxed [.nsl]), ((10, 0, 0), funR fs i (fun j => sel (Nat.beq j i) (.rs (27, 8, 0) 14 0 bs.length) (blockss (fs.getD j default).blocks))), ((27, 8, 0), blkR i bs k (fun q => sel (Nat.beq q k) (.rs (57, 0, 0) 7 0 (bs.getD k default).ins.length) (inss (bs.getD q default).ins))), ((57, 0, 0), insR (bs.getD k default).ins)]) (F := treeF fs i k) [] rfl (fun i hi => by cases hi) ?_ ?_ ?_ (fun i hi => by cases hi)) ?_
      · (repeat' first | exact TLg.nil | refine TLg.cons (GV.imm rfl) ?_ | refine TLg.cons (GV.bp rfl rfl) ?_)
      · refine .old rfl rfl (GB.one (.cons (.rs rfl rfl rfl rfl) .nil) (fun e => by cases e)) (.old rfl rfl (GB.one (GVs.imm rfl) (fun _ => rfl)) (.old rfl rfl (GB_fun (fun j hj => keep_fun (fun h => treeF_blk h) rfl rfl rfl rfl)) (.old rfl rfl (GB.row (Nat.le_refl _) (fun q hq => ?_) (fun e => by cases e)) (.old rfl rfl (GB_ins _) .nil))))
        by_cases hqk : q = k
        · subst hqk
          repeat rw [updR_self]
          refine .cons (.imm rfl) (.cons (.imm rfl) (.cons (.frz (hd_of rfl (tree_hd0 rfl)) rfl (Nat.le_of_eq (Nat.zero_add _)) rfl (fun x hx => GVs.eqI rfl (by rw [Nat.zero_add])) (fun _ _ => rfl)) (.cons (.imm rfl) (.cons (.imm rfl) (.cons (.cc (x' := .rs (57, 0, 0) 7 0 (bs.getD q default).ins.length) rfl (show sel (Nat.blt q q) _ (sel (Nat.beq q q) _ _) = _ by rw [sel_ge (Nat.le_refl _), sel_eq]) (.rs rfl rfl rfl rfl)) (.cons (.imm rfl) (.cons (.imm rfl) (.cons (.imm rfl) (.cons (.imm rfl) (.cons (.frz (hd_of rfl (tree_hd0 rfl)) rfl (Nat.le_of_eq (Nat.zero_add _)) rfl (fun x hx => GVs.eqI rfl (by rw [Nat.zero_add])) (fun _ _ => rfl)) (.cons (.imm rfl) (.cons (.imm rfl) (.cons (.imm rfl) .nil)))))))))))))
        · refine GVs.upd (fun e => absurd e hqk) (fun _ => GVs.upd (fun e => absurd e hqk) (fun _ => GVs.upd (fun e => absurd e hqk) (fun _ => GVs_blk ?_)))
          by_cases hlt2 : q < k
          · exact .cc (sel_lt hlt2) (sel_lt hlt2) (.rs (b := insR ((fs.getD i default).blocks.getD q default).ins) (treeF_ins (.inr ⟨rfl, hlt2⟩)) rfl rfl rfl)
          · exact .cc (sel_ge (by omega)) (show sel _ _ (sel (Nat.beq q k) _ _) = _ by rw [sel_ge (by omega), sel_ne hqk]) (.imm rfl)
      · intro j b e
        rcases treeF_some e with ⟨p, rfl, hp, rfl⟩ | ⟨p, q, rfl, hp, rfl⟩
        · exact HOk.mk rfl (b0 := blkR p (fs.getD p default).blocks (fs.getD p default).blocks.length (fun _ => .any)) (treeF_blk hp) (GB_blk (fun q hq => .cc (sel_lt hq) (sel_lt hq) (.rs (b := insR ((fs.getD p default).blocks.getD q default).ins) (treeF_ins (.inl ⟨hp, hq⟩)) rfl rfl rfl)))
        · exact HOk.mk rfl (b0 := insR ((fs.getD p default).blocks.getD q default).ins) (treeF_ins hp) (GB_ins _)
      refine AWp_seq ?_
      refine (AWp_reg tok (by rfl) ?_)
      conv => whnf
      refine @And.intro (underG _ _ _ _) _ ?_ ?_
      · ((guard_target = underG _ _ _ _); refine underG_none ?_; (all_goals (try simp only [underG, true_and, and_true, Bool.cond_true_left, Bool.cond_false_left, Bool.cond_true_right, Bool.cond_false_right, Bool.or_eq_true, Bool.and_eq_true, Bool.or_eq_false_iff, Bool.and_eq_false_iff, cond_true, cond_false, Bool.not_eq_eq_eq_not, Bool.not_true, Bool.not_false, decide_eq_true_eq, decide_eq_false_iff_not, Int.toNat_natCast, Nat.zero_add, Decidable.not_not, maxL, inn_iff] at *)); all_goals omega)
      conv => whnf
      refine fAV (y := .rs (57, 0, 0) 7 0 (bs.getD k default).ins.length) (show sel (Nat.blt k k) _ (sel (Nat.beq k k) _ _) = _ by rw [sel_ge (Nat.le_refl _), sel_eq]) ?_
      conv => whnf
      (repeat' refine AWp_block ?_)
      refine AWp_loop (fun j : Nat => mkF [(1, .bp (1, 0, 0) 0), (2, .bp (2, 0, 0) 0), (14, iv fs.length), (15, iv i), (4, .rp (10, 0, 0) 3 i 0), (34, iv bs.length), (35, iv k), (6, .rp (27, 8, 0) 14 k 0), (76, iv (bs.getD k default).ins.length), (77, iv j)] [((1, 0, 0), .row false 1 1 (fun _ => [.rs (10, 0, 0) 3 0 fs.length])), ((2, 0, 0), boxed [.nsl]), ((10, 0, 0), funR fs i (fun j => sel (Nat.beq j i) (.rs (27, 8, 0) 14 0 bs.length) (blockss (fs.getD j default).blocks))), ((27, 8, 0), blkR i bs k (fun q => sel (Nat.beq q k) (.rs (57, 0, 0) 7 0 (bs.getD k default).ins.length) (inss (bs.getD q default).ins))), ((57, 0, 0), insR (bs.getD k default).ins)] (treeF fs i k)) (fun j => j ≤ (bs.getD k default).ins.length) (fun j => (bs.getD k default).ins.length - j) 0 (Nat.zero_le _) ?_ ?_
      · refine Weak.fam [] rfl (fun i hi => by cases hi) ?_ ?_ ?_ (fun i hi => by cases hi)
        · (repeat' first | exact TLg.nil | refine TLg.cons (GV.imm rfl) ?_ | refine TLg.cons (GV.bp rfl rfl) ?_)
        · exact .old rfl rfl (GB.one (.cons (.rs rfl rfl rfl rfl) .nil) (fun e => by cases e)) (.old rfl rfl (GB.one (GVs.imm rfl) (fun _ => rfl)) (.old rfl rfl (GB_fun (fun j hj => keep_fun (fun h => treeF_blk h) rfl rfl rfl rfl)) (.old rfl rfl (GB_blk (fun q hq => keep_blk (fun h => treeF_ins (.inr ⟨rfl, h⟩)) rfl rfl rfl)) (.old rfl rfl (GB_ins _) .nil))))
        · intro j b e
          rcases treeF_some e with ⟨p, rfl, hp, rfl⟩ | ⟨p, q, rfl, hp, rfl⟩
          · exact HOk.mk rfl (b0 := blkR p (fs.getD p default).blocks (fs.getD p default).blocks.length (fun _ => .any)) (treeF_blk hp) (GB_blk (fun q hq => .cc (sel_lt hq) (sel_lt hq) (.rs (b := insR ((fs.getD p default).blocks.getD q default).ins) (treeF_ins (.inl ⟨hp, hq⟩)) rfl rfl rfl)))
          · exact HOk.mk rfl (b0 := insR ((fs.getD p default).blocks.getD q default).ins) (treeF_ins hp) (GB_ins _)
      intro j hj
      (repeat' ((fail_if_success (show AWp _ _ _ (Code.region 15 _ _) _ _)); first | refine AWp_seq ?_ | (refine AWp_reg tok (by rfl) ?_; conv => whnf) | refine AWp_block ?_ | (refine AWp_skip ?_; conv => whnf) | (refine AWp_exit ?_; conv => whnf) | refine AWp_cond rfl (fun hb => ?_) (fun hb => ?_)))
      · have hjl : j < (bs.getD k default).ins.length := by simp only [decide_eq_true_eq] at hb; omega
        clear hb
        have hzj : 0 + (j : Int).toNat = j := by simp
        refine (AWp_any tok mix (by rfl) ?_)
        conv => whnf
        refine @And.intro (underG _ _ _ _) _ ?_ ?_
        · ((guard_target = underG _ _ _ _); refine underG_none ?_; (all_goals (try simp only [underG, true_and, and_true, Bool.cond_true_left, Bool.cond_false_left, Bool.cond_true_right, Bool.cond_false_right, Bool.or_eq_true, Bool.and_eq_true, Bool.or_eq_false_iff, Bool.and_eq_false_iff, cond_true, cond_false, Bool.not_eq_eq_eq_not, Bool.not_true, Bool.not_false, decide_eq_true_eq, decide_eq_false_iff_not, Int.toNat_natCast, Nat.zero_add, Decidable.not_not, maxL, inn_iff] at *)); all_goals omega)
        conv => whnf
        refine fAV (y := .rs (57, 0, 0) 7 0 (bs.getD k default).ins.length) (show sel (Nat.blt k k) _ (sel (Nat.beq k k) _ _) = _ by rw [sel_ge (Nat.le_refl _), sel_eq]) ?_
        conv => whnf
        refine @And.intro (underG _ _ _ _) _ ?_ ?_
        · ((guard_target = underG _ _ _ _); refine underG_none ?_; (all_goals (try simp only [underG, true_and, and_true, Bool.cond_true_left, Bool.cond_false_left, Bool.cond_true_right, Bool.cond_false_right, Bool.or_eq_true, Bool.and_eq_true, Bool.or_eq_false_iff, Bool.and_eq_false_iff, cond_true, cond_false, Bool.not_eq_eq_eq_not, Bool.not_true, Bool.not_false, decide_eq_true_eq, decide_eq_false_iff_not, Int.toNat_natCast, Nat.zero_add, Decidable.not_not, maxL, inn_iff] at *)); all_goals omega)
        conv => whnf
        refine fAV (y := .rs (57, 0, 0) 7 0 (bs.getD k default).ins.length) (show sel (Nat.blt k k) _ (sel (Nat.beq k k) _ _) = _ by rw [sel_ge (Nat.le_refl _), sel_eq]) ?_
        conv => whnf
        refine @And.intro (underG _ _ _ _) _ ?_ ?_
        · ((guard_target = underG _ _ _ _); refine underG_none ?_; (all_goals (try simp only [underG, true_and, and_true, Bool.cond_true_left, Bool.cond_false_left, Bool.cond_true_right, Bool.cond_false_right, Bool.or_eq_true, Bool.and_eq_true, Bool.or_eq_false_iff, Bool.and_eq_false_iff, cond_true, cond_false, Bool.not_eq_eq_eq_not, Bool.not_true, Bool.not_false, decide_eq_true_eq, decide_eq_false_iff_not, Int.toNat_natCast, Nat.zero_add, Decidable.not_not, maxL, inn_iff] at *)); all_goals omega)
        conv => whnf
        refine @And.intro (underG _ _ _ _) _ ?_ ?_
        · ((guard_target = underG _ _ _ _); refine underG_none ?_; (all_goals (try simp only [underG, true_and, and_true, Bool.cond_true_left, Bool.cond_false_left, Bool.cond_true_right, Bool.cond_false_right, Bool.or_eq_true, Bool.and_eq_true, Bool.or_eq_false_iff, Bool.and_eq_false_iff, cond_true, cond_false, Bool.not_eq_eq_eq_not, Bool.not_true, Bool.not_false, decide_eq_true_eq, decide_eq_false_iff_not, Int.toNat_natCast, Nat.zero_add, Decidable.not_not, maxL, inn_iff] at *)); all_goals omega)
        conv => whnf
        refine .inl ⟨_, _, _, uG (QC.fo (rd := []) (c_CloneInts ((bs.getD k default).ins.getD (0 + (j : Int).toNat) default).args) (Ress.imms rfl) (.inl rfl) rfl), ?_⟩
        conv => whnf
        ((repeat' first | (refine AWp_reg tok (by rfl) ?_; conv => whnf) | (refine @And.intro (underG _ _ _ _) _ ?_ ?_; rotate_left; (conv => whnf); rotate_right)); all_goals (try ((guard_target = underG _ _ _ _); refine underG_none ?_; (all_goals (try simp only [underG, true_and, and_true, Bool.cond_true_left, Bool.cond_false_left, Bool.cond_true_right, Bool.cond_false_right, Bool.or_eq_true, Bool.and_eq_true, Bool.or_eq_false_iff, Bool.and_eq_false_iff, cond_true, cond_false, Bool.not_eq_eq_eq_not, Bool.not_true, Bool.not_false, decide_eq_true_eq, decide_eq_false_iff_not, Int.toNat_natCast, Nat.zero_add, Decidable.not_not, maxL, inn_iff] at *)); all_goals omega)))
        refine ⟨j + 1, by omega, by omega, ?_⟩
        refine Weak.fam [] rfl (fun i hi => by cases hi) ?_ ?_ ?_ (fun i hi => by cases hi)
        · (repeat' first | exact TLg.nil | refine TLg.cons (GV.imm rfl) ?_ | refine TLg.cons (GV.bp rfl rfl) ?_ | refine TLg.cons (GV.int ?_) ?_)
          all_goals first | rfl | (simp (disch := omega) only [wrap64]; omega) | omega
        · refine .old rfl rfl (GB.one (.cons (.rs rfl rfl rfl rfl) .nil) (fun e => by cases e)) (.old rfl rfl (GB.one (GVs.imm rfl) (fun _ => rfl)) (.old rfl rfl (GB_fun (fun j hj => keep_fun (fun h => treeF_blk h) rfl rfl rfl rfl)) (.old rfl rfl (GB_blk (fun q hq => keep_blk (fun h => treeF_ins (.inr ⟨rfl, h⟩)) rfl rfl rfl)) (.old rfl rfl (GB.row (Nat.le_refl _) (fun q hq => GVs.upd (fun e => ?_) (fun _ => GVs.imm rfl)) (fun _ _ _ => rfl)) .nil))))
          rw [hzj] at e; subst e
          rw [hzj]
          exact .cons (.imm rfl) (.cons (.imm rfl) (.cons (.imm rfl) (.cons (.imm rfl) (.cons (.imm rfl) (.cons (.imm rfl) (.cons (.frz (hd_of rfl (tree_hd0 rfl)) rfl (Nat.le_of_eq (Nat.zero_add _)) rfl (fun x hx => GVs.eqI rfl (by rw [Nat.zero_add])) (fun _ _ => rfl)) .nil))))))
        · intro j b e
          rcases treeF_some e with ⟨p, rfl, hp, rfl⟩ | ⟨p, q, rfl, hp, rfl⟩
          · exact HOk.mk rfl (b0 := blkR p (fs.getD p default).blocks (fs.getD p default).blocks.length (fun _ => .any)) (treeF_blk hp) (GB_blk (fun q hq => .cc (sel_lt hq) (sel_lt hq) (.rs (b := insR ((fs.getD p default).blocks.getD q default).ins) (treeF_ins (.inl ⟨hp, hq⟩)) rfl rfl rfl)))
          · exact HOk.mk rfl (b0 := insR ((fs.getD p default).blocks.getD q default).ins) (treeF_ins hp) (GB_ins _)
      · have hjl : j = (bs.getD k default).ins.length := by simp only [decide_eq_false_iff_not] at hb; omega
        clear hb
        skip
        refine ⟨k + 1, hkl, by omega, ?_⟩
        refine Weak.fam [((1001, i, k), some (57, 0, 0))] rfl (fun i hi => by simp only [tgts, List.mem_singleton] at hi; subst hi; exact .inl rfl) ?_ ?_ ?_ (fun i hi => by cases hi)
        · (repeat' first | exact TLg.nil | refine TLg.cons (GV.imm rfl) ?_ | refine TLg.cons (GV.bp rfl rfl) ?_ | refine TLg.cons (GV.int ?_) ?_)
          all_goals first | rfl | (simp (disch := omega) only [wrap64]; omega) | omega
        · refine .old rfl rfl (GB.one (.cons (.rs rfl rfl rfl rfl) .nil) (fun e => by cases e)) (.old rfl rfl (GB.one (GVs.imm rfl) (fun _ => rfl)) (.old rfl rfl (GB_fun (fun j hj => keep_fun (fun h => treeF_blk h) rfl rfl rfl rfl)) (.old rfl rfl (GB_blk (fun q hq => ?_)) .nil)))
          by_cases h1 : q < k
          · exact .cc (sel_lt h1) (sel_lt (by omega)) (.rs (b := insR ((fs.getD i default).blocks.getD q default).ins) (treeF_ins (.inr ⟨rfl, by omega⟩)) (srcL_miss (fun e => by cases e; omega)) rfl rfl)
          · by_cases h2 : q = k
            · subst h2
              exact .cc (show sel _ _ (sel (Nat.beq q q) _ _) = _ by rw [sel_ge (Nat.le_refl _), sel_eq]) (sel_lt (by omega)) (.rs (b := insR ((fs.getD i default).blocks.getD q default).ins) (treeF_ins (.inr ⟨rfl, by omega⟩)) srcL_hit rfl rfl)
            · exact .cc (show sel _ _ (sel (Nat.beq q k) _ _) = _ by rw [sel_ge (by omega), sel_ne h2]) (sel_ge (by omega)) (.imm rfl)
        · intro j b e
          rcases treeF_some e with ⟨p, rfl, hp, rfl⟩ | ⟨p, q, rfl, hp, rfl⟩
          · exact HOk.mk rfl (b0 := blkR p (fs.getD p default).blocks (fs.getD p default).blocks.length (fun _ => .any)) (treeF_blk hp) (GB_blk (fun q hq => .cc (sel_lt hq) (sel_lt hq) (.rs (b := insR ((fs.getD p default).blocks.getD q default).ins) (treeF_ins (.inl ⟨hp, hq⟩)) (srcL_miss (fun e => by cases e; omega)) rfl rfl)))
          · by_cases h2 : p = i ∧ q = k
            · obtain ⟨rfl, rfl⟩ := h2
              exact HOk.mk srcL_hit (b0 := insR (bs.getD q default).ins) rfl (by rw [← hbs]; exact GB_ins _)
            · exact HOk.mk (srcL_miss (fun e => h2 (by cases e; exact ⟨rfl, rfl⟩))) (b0 := insR ((fs.getD p default).blocks.getD q default).ins) (treeF_ins (by omega)) (GB_ins _)
    · have hkl : k = bs.length := by simp only [decide_eq_false_iff_not] at hb; omega
      clear hb
      skip
      refine ⟨i + 1, hlt, by omega, ?_⟩
      subst hkl
      refine Weak.fam [((1000, i, 0), some (27, 8, 0))] rfl (fun i hi => by simp only [tgts, List.mem_singleton] at hi; subst hi; exact .inl rfl) ?_ ?_ ?_ (fun i hi => by cases hi)
      · (repeat' first | exact TLg.nil | refine TLg.cons (GV.imm rfl) ?_ | refine TLg.cons (GV.bp rfl rfl) ?_ | refine TLg.cons (GV.int ?_) ?_)
        all_goals first | rfl | (simp (disch := omega) only [wrap64]; omega) | omega
      · refine .old rfl rfl (GB.one (.cons (.rs rfl rfl rfl rfl) .nil) (fun e => by cases e)) (.old rfl rfl (GB.one (GVs.imm rfl) (fun _ => rfl)) (.old rfl rfl (GB_fun (fun j hj => ?_)) .nil))
        by_cases h1 : j < i
        · exact .cc (sel_lt h1) (sel_lt (by omega)) (.rs (b := blkR j (fs.getD j default).blocks (fs.getD j default).blocks.length (fun _ => .any)) (treeF_blk (by omega)) (srcL_miss (fun e => by cases e; omega)) rfl rfl)
        · by_cases h2 : j = i
          · subst h2
            exact .cc (show sel _ _ (sel (Nat.beq j j) _ _) = _ by rw [sel_ge (Nat.le_refl _), sel_eq]) (sel_lt (by omega)) (.rs (b := blkR j (fs.getD j default).blocks (fs.getD j default).blocks.length (fun _ => .any)) (treeF_blk (by omega)) srcL_hit rfl (by rw [hbs]))
          · exact .cc (show sel _ _ (sel (Nat.beq j i) _ _) = _ by rw [sel_ge (by omega), sel_ne h2]) (sel_ge (by omega)) (.imm rfl)
      · intro j b e
        rcases treeF_some e with ⟨p, rfl, hp, rfl⟩ | ⟨p, q, rfl, hp, rfl⟩
        · by_cases h2 : p = i
          · subst h2
            refine HOk.mk srcL_hit (b0 := blkR p bs bs.length (fun q => inss (bs.getD q default).ins)) rfl ?_
            rw [hbs]
            exact GB_blk (fun q hq => .cc (sel_lt hq) (sel_lt hq) (.rs (b := insR ((fs.getD p default).blocks.getD q default).ins) (treeF_ins (.inl ⟨hp, by rw [hbs]; exact hq⟩)) rfl rfl rfl))
          · exact HOk.mk (srcL_miss (fun e => h2 (by cases e; rfl))) (b0 := blkR p (fs.getD p default).blocks (fs.getD p default).blocks.length (fun _ => .any)) (treeF_blk (by omega)) (GB_blk (fun q hq => .cc (sel_lt hq) (sel_lt hq) (.rs (b := insR ((fs.getD p default).blocks.getD q default).ins) (treeF_ins (.inl ⟨hp, hq⟩)) rfl rfl rfl)))
        · refine HOk.mk rfl (b0 := insR ((fs.getD p default).blocks.getD q default).ins) (treeF_ins ?_) (GB_ins _)
          by_cases h2 : p = i
          · subst h2; rw [hbs] at hp; omega
          · omega
  · have hil : i = fs.length := by simp only [decide_eq_false_iff_not] at hb; omega
    clear hb
    subst hil
    refine ⟨_, srcL [((900, 0, 0), some (10, 0, 0))], rfl, srcL_inj rfl (fun i hi => by simp only [tgts, List.mem_singleton] at hi; subst hi; exact .inl rfl), ?_, ?_⟩
    · intro j b e
      rcases orH_some e with e | ⟨_, e⟩
      · simp only [lookH] at e
        cases e2 : idEq (900, 0, 0) j with
        | false => rw [e2] at e; cases e
        | true =>
          have := idEq_iff.1 e2; subst this
          rw [e2] at e; cases e
          exact HOk.mk rfl (b0 := funR fs fs.length (fun j => blockss (fs.getD j default).blocks)) rfl (GB_fun (fun j hj => .cc (sel_lt hj) (sel_lt hj) (.rs (b := blkR j (fs.getD j default).blocks (fs.getD j default).blocks.length (fun _ => .any)) (treeF_blk hj) rfl rfl rfl)))
      · rcases treeF_some e with ⟨p, rfl, hp, rfl⟩ | ⟨p, q, rfl, hp, rfl⟩
        · exact HOk.mk rfl (b0 := blkR p (fs.getD p default).blocks (fs.getD p default).blocks.length (fun _ => .any)) (treeF_blk hp) (GB_blk (fun q hq => .cc (sel_lt hq) (sel_lt hq) (.rs (b := insR ((fs.getD p default).blocks.getD q default).ins) (treeF_ins (.inl ⟨hp, hq⟩)) rfl rfl rfl)))
        · exact HOk.mk rfl (b0 := insR ((fs.getD p default).blocks.getD q default).ins) (treeF_ins hp) (GB_ins _)
    · exact .agg (.cons (.rs rfl rfl rfl rfl) .nil)
end Go.Proofs.Ytmanpbgaihdalaa
namespace Go.Proofs.Ytmanpbgaihdalaa
open Go Dv
set_option maxRecDepth 10000
set_option linter.unusedSimpArgs false
/-! Modules whose rows of functions and of blocks are of one's own. -/
def blkR1 (l : List Block) : ABlock := .row true 14 l.length (fun q => encBlock (l.getD q default))
def funR1 (l : List Func) (c : Nat → AV) : ABlock := .row false 3 l.length (fun j => [iv (l.getD j default).params, iv (l.getD j default).regs, c j])
def blkF1 (l : List Func) (p : Nat → Bool) : AHeap := famC 1000 (fun j z => bif Nat.beq z 0 && (Nat.blt j l.length && p j) then some (blkR1 (l.getD j default).blocks) else none)
def mem1 (l : List Func) (j : Nat) : AV := .rs (1000, j, 0) 14 0 (l.getD j default).blocks.length
def modH1 (l : List Func) : AHeap := orH (lookH [((900, 0, 0), funR1 l (mem1 l))]) (blkF1 l (fun _ => true))
theorem blkF1_some {l : List Func} {p : Nat → Bool} {j : Dv.Id} {b : ABlock} (h : blkF1 l p j = some b) : ∃ i, j = (1000, i, 0) ∧ i < l.length ∧ p i = true ∧ b = blkR1 (l.getD i default).blocks := by
  obtain ⟨a, z, rfl, h3⟩ := famC_some h
  cases e : (Nat.beq z 0 && (Nat.blt a l.length && p a)) with
  | false => rw [e] at h3; cases h3
  | true =>
    rw [e] at h3
    rw [Bool.and_eq_true, Bool.and_eq_true, Nat.blt_eq] at e
    have := Nat.eq_of_beq_eq_true e.1
    subst this
    exact ⟨a, rfl, e.2.1, e.2.2, (Option.some.inj h3).symm⟩
theorem blkF1_at {l : List Func} {p : Nat → Bool} {i : Nat} (h : i < l.length) (hp : p i = true) : blkF1 l p (1000, i, 0) = some (blkR1 (l.getD i default).blocks) := by
  show (bif (Nat.beq 0 0 && (Nat.blt i l.length && p i)) then _ else none) = _
  have : (Nat.beq 0 0 && (Nat.blt i l.length && p i)) = true := by
    rw [Bool.and_eq_true, Bool.and_eq_true, Nat.blt_eq]; exact ⟨rfl, h, hp⟩
  rw [this]; rfl
theorem GB_blk1 {src : Dv.Id → Option Dv.Id} {h h' : AHeap} (l : List Block) : GB src h h' (blkR1 l) (blkR1 l) := GB.rowI (Nat.le_refl _) (fun _ _ => ⟨rfl, rfl⟩)
theorem copyH_sub (fs : List Func) (j : Dv.Id) (b : ABlock) (e : modH1 fs j = some b) : (j = (900, 0, 0) ∧ b = funR1 fs (mem1 fs)) ∨ ∃ i, j = (1000, i, 0) ∧ i < fs.length ∧ b = blkR1 (fs.getD i default).blocks := by
  rcases orH_some e with e | ⟨_, e⟩
  · simp only [lookH] at e
    cases e2 : idEq (900, 0, 0) j with
    | false => rw [e2] at e; cases e
    | true => have := idEq_iff.1 e2; subst this; rw [e2] at e; cases e; exact .inl ⟨rfl, rfl⟩
  · obtain ⟨i, rfl, h1, _, h2⟩ := blkF1_some e
    exact .inr ⟨i, rfl, h1, h2⟩
theorem modH1_at {l : List Func} {i : Nat} (h : i < l.length) : modH1 l (1000, i, 0) = some (blkR1 (l.getD i default).blocks) := (show blkF1 l (fun _ => true) (1000, i, 0) = _ from blkF1_at h rfl)
/-- Copy, its instructions given away. -/
theorem c_Copy1 (fs : List Func) : HF Try.prog 26 [.agg (encMod ⟨fs⟩)] (.agg [.rs (900, 0, 0) 3 0 fs.length]) (modH1 fs) := by
  refine (c_Copy fs).weak (fun j => some j) (fun j j' i _ _ h1 h2 => some_inj j j' i h1 h2) (fun j b e => ?_) (.agg (.cons (.rs (b := funR1 fs (mem1 fs)) rfl rfl rfl rfl) .nil))
  rcases copyH_sub fs j b e with ⟨rfl, rfl⟩ | ⟨i, rfl, hi, rfl⟩
  · refine HOk.mk rfl (b0 := funR fs fs.length (fun _ => .any)) rfl (GB.row (Nat.le_refl _) (fun j hj => .cons (.imm rfl) (.cons (.imm rfl) (.cons ?_ .nil))) (fun e => by cases e))
    exact .cc (sel_lt hj) rfl (.rs (modH1_at hj) rfl rfl rfl)
  · refine HOk.mk rfl (b0 := blkR i (fs.getD i default).blocks (fs.getD i default).blocks.length (fun _ => .any)) (show treeF fs fs.length 0 (1000, i, 0) = _ from treeF_blk hi) (GB.row (Nat.le_refl _) (fun q hq => ?_) (fun _ _ _ => rfl))
    refine .cons (.imm rfl) (.cons (.imm rfl) (.cons (.imm rfl) (.cons (.imm rfl) (.cons (.imm rfl) (.cons ?_ (GVs.imm rfl))))))
    refine .cc (sel_lt hq) rfl (.frz (k := ((fs.getD i default).blocks.getD q default).ins.length) (f := fun j => encIns (((fs.getD i default).blocks.getD q default).ins.getD j default)) (imm := true) (fun j hj e => ?_) (show treeF fs fs.length 0 (1001, i, q) = _ from treeF_ins (.inl ⟨hi, hq⟩)) (Nat.le_of_eq (Nat.zero_add _)) rfl (fun x hx => GVs.eqI rfl (by rw [Nat.zero_add])) (fun _ _ => rfl))
    cases e
    cases hj
theorem rel_mod1 (l : List Func) : Rel (modH1 l) (.agg [.rs (900, 0, 0) 3 0 l.length]) (.agg (encMod ⟨l⟩)) := by
  refine Rel.agg (Rels.cons (Rel.rs (imm := false) (k := l.length) (f := fun j => [iv (l.getD j default).params, iv (l.getD j default).regs, mem1 l j]) rfl (Nat.le_of_eq (Nat.zero_add _)) (fun i hi => ?_)) Rels.nil)
  rw [Nat.zero_add]
  refine Rels.cons (Rel.imm rfl) (Rels.cons (Rel.imm rfl) (Rels.cons (Rel.rs (imm := true) (k := (l.getD i default).blocks.length) (f := fun q => encBlock ((l.getD i default).blocks.getD q default)) (modH1_at hi) (Nat.le_of_eq (Nat.zero_add _)) (fun q hq => ?_)) Rels.nil))
  rw [Nat.zero_add]
  exact Rels.imm rfl
theorem c_CopyF (m : Module) : FC Try.prog 26 [.agg (encMod m)] (.agg (encMod m)) := (c_Copy1 m.funcs).fc (rel_mod1 m.funcs)
end Go.Proofs.Ytmanpbgaihdalaa
namespace Go.Proofs.Ytmanpbgaihdalaa
open Go Dv
set_option maxRecDepth 10000
set_option linter.unusedSimpArgs false
def w16 (x : Int) : Int := IntKind.u16.wrap x
def doW (op a b : Int) : Int × Bool :=
  if op = 2 then (a, true) else if op = 3 then (w16 (a + b), true) else if op = 4 then (w16 (a - b), true) else if op = 5 then (w16 (a * b), true)
  else if op = 6 then (if b = 0 then (0, false) else (w16 (a.tdiv b), true)) else if op = 7 then (if a = b then 1 else 0, true) else if op = 8 then (if a < b then 1 else 0, true) else (0, false)
def pureO (op : Int) : Bool := bif decide (2 ≤ op) then decide (op ≤ 8) else false
def twoO (op : Int) : Bool := bif decide (2 < op) then decide (op ≤ 8) else false
def turnsO (op : Int) : Bool := decide (op = 3 ∨ op = 5 ∨ op = 7)
theorem c_truth (b : Bool) : FC Try.prog 144 [.bool b] (.int .u16 (if b = true then 1 else 0)) := by
  refine FC_intro tok Try.func144 rfl (by decide +kernel) (Nat.le_of_ble_eq_true rfl) ?_
  (repeat' first | refine AWp_seq ?_ | (refine AWp_reg tok (by rfl) ?_; conv => whnf) | (refine AWp_skip ?_; conv => whnf) | (refine AWp_ret ?_; conv => whnf) | refine AWp_cond rfl (fun hb => ?_) (fun hb => ?_))
  · exact ⟨_, rfl, Rel.int (by rw [if_pos hb])⟩
  · exact ⟨_, rfl, Rel.int (by rw [if_neg (by rw [hb]; simp)])⟩
theorem c_Pure (op : Int) : FC Try.prog 123 [iv op] (.bool (pureO op)) := by
  refine FC_intro tok Try.func123 rfl (by decide +kernel) (Nat.le_of_ble_eq_true rfl) ?_
  (repeat' first | refine AWp_seq ?_ | (refine AWp_reg tok (by rfl) ?_; conv => whnf) | (refine AWp_ret ?_; conv => whnf))
  exact ⟨_, rfl, Rel.imm rfl⟩
theorem c_Two (op : Int) : FC Try.prog 118 [iv op] (.bool (twoO op)) := by
  refine FC_intro tok Try.func118 rfl (by decide +kernel) (Nat.le_of_ble_eq_true rfl) ?_
  (repeat' first | refine AWp_seq ?_ | (refine AWp_reg tok (by rfl) ?_; conv => whnf) | (refine AWp_ret ?_; conv => whnf))
  exact ⟨_, rfl, Rel.imm rfl⟩
theorem c_Turns (op : Int) : FC Try.prog 117 [iv op] (.bool (turnsO op)) := by
  refine FC_intro tok Try.func117 rfl (by decide +kernel) (Nat.le_of_ble_eq_true rfl) ?_
  (repeat' first | refine AWp_seq ?_ | (refine AWp_reg tok (by rfl) ?_; conv => whnf) | refine AWp_block ?_ | (refine AWp_skip ?_; conv => whnf) | (refine AWp_ret ?_; conv => whnf) | refine AWp_cond rfl (fun hb => ?_) (fun hb => ?_))
  all_goals simp only [underG, true_and, and_true, Bool.cond_true_left, Bool.cond_false_left, Bool.cond_true_right, Bool.cond_false_right, Bool.or_eq_true, Bool.and_eq_true, Bool.or_eq_false_iff, Bool.and_eq_false_iff, cond_true, cond_false, Bool.not_eq_eq_eq_not, Bool.not_true, Bool.not_false, decide_eq_true_eq, decide_eq_false_iff_not, Int.toNat_natCast, Nat.zero_add, Decidable.not_not, maxL, inn_iff] at *
  all_goals refine ⟨_, rfl, Rel.bool ?_⟩
  all_goals simp only [turnsO]
  all_goals symm
  all_goals first | (rw [decide_eq_true_eq]; omega) | (rw [decide_eq_false_iff_not]; omega)
theorem c_Do (op a b : Int) : FC Try.prog 124 [iv op, .int .u16 a, .int .u16 b] (.tup [.int .u16 (doW op a b).1, .bool (doW op a b).2]) := by
  refine FC_intro tok Try.func124 rfl (by decide +kernel) (Nat.le_of_ble_eq_true rfl) ?_
  ((repeat' first | refine AWp_seq ?_ | (refine AWp_reg tok (by rfl) ?_; conv => whnf) | refine AWp_block ?_ | (refine AWp_skip ?_; conv => whnf) | (refine AWp_ret ?_; conv => whnf) | refine AWp_cond rfl (fun hb => ?_) (fun hb => ?_) | (refine @And.intro (underG _ _ _ _) _ ?_ ?_; rotate_left; (conv => whnf); rotate_right)); all_goals (try ((guard_target = underG _ _ _ _); refine underG_none ?_; (all_goals (try simp only [underG, true_and, and_true, Bool.cond_true_left, Bool.cond_false_left, Bool.cond_true_right, Bool.cond_false_right, Bool.or_eq_true, Bool.and_eq_true, Bool.or_eq_false_iff, Bool.and_eq_false_iff, cond_true, cond_false, Bool.not_eq_eq_eq_not, Bool.not_true, Bool.not_false, decide_eq_true_eq, decide_eq_false_iff_not, Int.toNat_natCast, Nat.zero_add, Decidable.not_not, maxL, inn_iff] at *)); all_goals omega)))
  all_goals (try (refine .inl ⟨_, _, _, uG (QC.fc (c_truth _) rfl), ?_⟩; conv => whnf))
  (repeat' (refine AWp_ret ?_; conv => whnf))
  all_goals refine ⟨_, rfl, Rel.tup (.cons (Rel.int ?_) (.cons (Rel.bool ?_) .nil))⟩
  all_goals simp only [underG, true_and, and_true, Bool.cond_true_left, Bool.cond_false_left, Bool.cond_true_right, Bool.cond_false_right, Bool.or_eq_true, Bool.and_eq_true, Bool.or_eq_false_iff, Bool.and_eq_false_iff, cond_true, cond_false, Bool.not_eq_eq_eq_not, Bool.not_true, Bool.not_false, decide_eq_true_eq, decide_eq_false_iff_not, Int.toNat_natCast, Nat.zero_add, Decidable.not_not, maxL, inn_iff] at *
  all_goals simp [doW, w16, *]
/-! ### fold -/
abbrev κF : MK := ⟨false, 1, .i64, .u16⟩
abbrev mpF (m : List (List Int × Int)) : ABlock := .map (.assoc κF m)
def ansW (m : List (List Int × Int)) (x : Ins) : Int × Bool :=
  match mlook m [x.a] with
  | none => (0, false)
  | some a => if pureO x.op = true then (if twoO x.op = true then (match mlook m [x.b] with | none => (0, false) | some b => doW x.op a b) else doW x.op a 0) else (0, false)
theorem _root_.Dv.TLe.ib {R : Dv.Rows} {k : IntKind} {n m : Int} {b c : Bool} (h1 : n = m) (h2 : b = c) : TLe R (.tup [.int k n, .bool b]) (.tup [.int k m, .bool c]) := by
  subst h1; subst h2; exact .eq rfl
theorem c_answer (m : List (List Int × Int)) (x : Ins) : HC Try.prog [i0] 88 [(i0, mpF m)] [.mp i0, .agg (encIns x)] (.tup [.int .u16 (ansW m x).1, .bool (ansW m x).2]) [(i0, mpF m)] := by
  refine HC_intro tok Try.func88 rfl (by decide +kernel) (Nat.le_of_ble_eq_true rfl) ?_
  (repeat' first | refine AWp_seq ?_ | (refine AWp_reg tok (by rfl) ?_; conv => whnf))
  refine .inl ⟨_, _, _, uG (QC.fc (c_Pure x.op) rfl), ?_⟩
  conv => whnf
  (repeat' first | refine AWp_seq ?_ | (refine AWp_reg tok (by rfl) ?_; conv => whnf) | (refine AWp_skip ?_; conv => whnf) | (refine AWp_ret ?_; conv => whnf) | refine AWp_cond rfl (fun hb => ?_) (fun hb => ?_))
  · refine ⟨_, [(i0, .old i0, mpF m)], rfl, rfl, rfl, rfl, .old rfl (BLe.refl _) .nil, TLe.ib ?_ ?_⟩
    all_goals
      unfold ansW
      cases h : mlook m [x.a] with
      | none => rfl
      | some a => simp [h] at hb; simp [hb]
  refine .inl ⟨_, _, _, uG (QC.fc (c_Two x.op) rfl), ?_⟩
  conv => whnf
  (repeat' first | refine AWp_seq ?_ | (refine AWp_reg tok (by rfl) ?_; conv => whnf) | (refine AWp_skip ?_; conv => whnf) | (refine AWp_ret ?_; conv => whnf) | refine AWp_cond rfl (fun hb => ?_) (fun hb => ?_))
  · refine ⟨_, [(i0, .old i0, mpF m)], rfl, rfl, rfl, rfl, .old rfl (BLe.refl _) .nil, TLe.ib ?_ ?_⟩
    all_goals
      rename_i hp ht
      unfold ansW
      cases h : mlook m [x.a] with
      | none => rfl
      | some a =>
        simp [h] at hp
        cases h2 : mlook m [x.b] with
        | none => simp [hp, ht]
        | some b => simp [h2] at hb
  · refine .inl ⟨_, _, _, uG (QC.fc (c_Do x.op _ _) rfl), ?_⟩
    conv => whnf
    (repeat' (refine AWp_ret ?_; conv => whnf))
    refine ⟨_, [(i0, .old i0, mpF m)], rfl, rfl, rfl, rfl, .old rfl (BLe.refl _) .nil, TLe.ib ?_ ?_⟩
    all_goals
      rename_i hp ht
      unfold ansW
      cases h : mlook m [x.a] with
      | none => simp [h] at hp
      | some a =>
        simp [h] at hp
        cases h2 : mlook m [x.b] with
        | none => simp [h2] at hb
        | some b => simp [hp, ht]
  · refine .inl ⟨_, _, _, uG (QC.fc (c_Do x.op _ _) rfl), ?_⟩
    conv => whnf
    (repeat' (refine AWp_ret ?_; conv => whnf))
    refine ⟨_, [(i0, .old i0, mpF m)], rfl, rfl, rfl, rfl, .old rfl (BLe.refl _) .nil, TLe.ib ?_ ?_⟩
    all_goals
      rename_i hp
      unfold ansW
      cases h : mlook m [x.a] with
      | none => simp [h] at hp
      | some a => simp [h] at hp; simp [hp, hb]
def noteW (m : List (List Int × Int)) (x : Ins) : List (List Int × Int) :=
  if x.op = 10 ∨ x.op = 12 then m else if x.op = 1 then mput m [x.dst] x.k else mdel m [x.dst]
theorem c_note (m : List (List Int × Int)) (x : Ins) : HC Try.prog [i0] 89 [(i0, mpF m)] [.mp i0, .agg (encIns x)] (.tup []) [(i0, mpF (noteW m x))] := by
  refine HC_intro tok Try.func89 rfl (by decide +kernel) (Nat.le_of_ble_eq_true rfl) ?_
  (repeat' first | refine AWp_seq ?_ | (refine AWp_reg tok (by rfl) ?_; conv => whnf) | refine AWp_block ?_ | (refine AWp_skip ?_; conv => whnf) | refine AWp_cond rfl (fun hb => ?_) (fun hb => ?_))
  all_goals simp only [underG, true_and, and_true, Bool.cond_true_left, Bool.cond_false_left, Bool.cond_true_right, Bool.cond_false_right, Bool.or_eq_true, Bool.and_eq_true, Bool.or_eq_false_iff, Bool.and_eq_false_iff, cond_true, cond_false, Bool.not_eq_eq_eq_not, Bool.not_true, Bool.not_false, decide_eq_true_eq, decide_eq_false_iff_not, Int.toNat_natCast, Nat.zero_add, Decidable.not_not, maxL, inn_iff] at *
  all_goals first | (exfalso; omega; done) | skip
  · rw [show noteW m x = m by simp [noteW, *]]
    exact ⟨_, [(i0, .old i0, mpF m)], rfl, rfl, rfl, rfl, .old rfl (BLe.refl _) .nil, .eq rfl⟩
  · rw [show noteW m x = m by simp [noteW, *]]
    exact ⟨_, [(i0, .old i0, mpF m)], rfl, rfl, rfl, rfl, .old rfl (BLe.refl _) .nil, .eq rfl⟩
  · rw [show noteW m x = mput m [x.dst] x.k by simp [noteW, *]]
    exact ⟨_, [(i0, .old i0, mpF (mput m [x.dst] x.k))], rfl, rfl, rfl, rfl, .old rfl (BLe.refl _) .nil, .eq rfl⟩
  · rw [show noteW m x = mdel m [x.dst] by simp [noteW, *]]
    exact ⟨_, [(i0, .old i0, mpF (mdel m [x.dst]))], rfl, rfl, rfl, rfl, .old rfl (BLe.refl _) .nil, .eq rfl⟩
def foldY (m : List (List Int × Int)) (x : Ins) : Ins := if (ansW m x).2 = true then ⟨1, x.dst, 0, 0, (ansW m x).1, 0, []⟩ else x
def foldIns : List (List Int × Int) → List Ins → List Ins × List (List Int × Int)
  | m, [] => ([], m)
  | m, x :: r => (foldY m x :: (foldIns (noteW m (foldY m x)) r).1, (foldIns (noteW m (foldY m x)) r).2)
theorem foldIns_snoc : ∀ (l : List Ins) (m : List (List Int × Int)) (x : Ins), foldIns m (l ++ [x]) = ((foldIns m l).1 ++ [foldY (foldIns m l).2 x], noteW (foldIns m l).2 (foldY (foldIns m l).2 x))
  | [], m, x => rfl
  | y :: r, m, x => by
      simp only [List.cons_append, foldIns]
      rw [foldIns_snoc r _ x]
theorem foldIns_len : ∀ (l : List Ins) (m : List (List Int × Int)), (foldIns m l).1.length = l.length
  | [], _ => rfl
  | _ :: r, m => by simp [foldIns, foldIns_len r]
def foldEnd (m : List (List Int × Int)) (e : End) : End := match mlook m [e.a] with
  | none => e
  | some v => if e.kind = 3 then ⟨2, 0, 0, 0, [], if v = 0 then e.els else e.to, 0, 0⟩ else e
def foldBlock (b : Block) : Block := { b with ins := (foldIns [] b.ins).1, fin := foldEnd (foldIns [] b.ins).2 b.fin }
def mapAt (l : List Ins) (i : Nat) : List (List Int × Int) := (foldIns [] (l.take i)).2
def foldAt (l : List Ins) (i : Nat) : List Ins := (foldIns [] (l.take i)).1 ++ l.drop i
theorem foldAt_len (l : List Ins) (i : Nat) : (foldAt l i).length = l.length := by
  simp only [foldAt, List.length_append, foldIns_len, List.length_take, List.length_drop]; omega
theorem foldAt_get {l : List Ins} {i : Nat} (h : i < l.length) : (foldAt l i).getD i default = l.getD i default := by
  unfold foldAt
  rw [getD_append, foldIns_len, List.length_take, if_neg (by omega)]
  have : i - min i l.length = 0 := by omega
  rw [this, drop_getD default h]; rfl
theorem mapAt_succ {l : List Ins} {i : Nat} (h : i < l.length) : mapAt l (i + 1) = noteW (mapAt l i) (foldY (mapAt l i) (l.getD i default)) := by
  unfold mapAt; rw [take_succ_getD default h, foldIns_snoc]
theorem foldAt_succ {l : List Ins} {i : Nat} (h : i < l.length) : foldAt l (i + 1) = (foldAt l i).set i (foldY (mapAt l i) (l.getD i default)) := by
  unfold foldAt mapAt
  rw [take_succ_getD default h, foldIns_snoc]
  have hl : (foldIns [] (l.take i)).1.length = i := by rw [foldIns_len, List.length_take]; omega
  rw [List.set_append_right _ _ (by omega), hl, Nat.sub_self, drop_getD default h]
  simp
theorem upd_rowW {α : Type} (e : α → List AV) (d : α) (r : List α) {k k' : Nat} {v : α} {c : List AV} (hk : k' < r.length) (ek : k = k') (hc : Wks c (e v)) (x : Nat) : Wks (updR (fun x => e (r.getD x d)) k c x) (e ((r.set k' v).getD x d)) := by
  subst ek
  unfold updR
  rw [getD_set]
  cases h : Nat.beq k x with
  | true => have := Nat.eq_of_beq_eq_true h; rw [if_pos ⟨this, hk⟩]; exact hc
  | false =>
    have : k ≠ x := fun e' => by subst e'; simp at h
    rw [if_neg (fun h => this h.1)]; exact Wks.refl _
abbrev insRow (l : List Ins) (n : Nat) : ABlock := .row true 7 n (fun x => encIns (l.getD x default))
abbrev blkCells (b : Block) (ins : AV) (e : End) : List AV := [.bool b.landing, iv b.pad.dst, u16s b.pad.catch_, .bool b.pad.all, .bool b.pad.cleanup, ins] ++ encEnd e
theorem c_Block (b : Block) : FC Try.prog 50 [.agg (encBlock b)] (.agg (encBlock (foldBlock b))) := by
  refine FC_intro tok Try.func50 rfl (by decide +kernel) (Nat.le_of_ble_eq_true rfl) ?_
  refine AWp_facts 0 (fun hl => ?_)
  have hl0 : b.ins.length ≤ maxL := hl.2.2.2.2.2.1.1
  (repeat' first | refine AWp_seq ?_ | (refine AWp_reg tok (by rfl) ?_; conv => whnf))
  refine .inl ⟨_, _, _, uG (QC.fo (rd := []) (c_CloneIns b.ins) (.cons (.imm rfl) .nil) (.inl rfl) rfl), ?_⟩
  conv => whnf
  (repeat' first | refine AWp_seq ?_ | (refine AWp_reg tok (by rfl) ?_; conv => whnf) | refine AWp_block ?_)
  generalize hl : b.ins = l at hl0
  refine AWp_loop (fun i : Nat => mkS [(1, .bp (1, 0, 0) 0), (2, .bp (2, 0, 0) 0), (3, .mp (11, 0, 0)), (18, iv l.length), (19, iv i)]
      [((1, 0, 0), .row false 14 1 (fun _ => blkCells b (.rs (14, 0, 0) 7 0 l.length) b.fin)), ((2, 0, 0), .row true 14 1 (fun _ => encBlock default)), ((11, 0, 0), mpF (mapAt l i)), ((14, 0, 0), insRow (foldAt l i) l.length)])
    (fun i => i ≤ l.length) (fun i => l.length - i) 0 (Nat.zero_le _) ?_ ?_
  · refine Weak.list [((1, 0, 0), .old (1, 0, 0), .row false 14 1 (fun _ => blkCells b (.rs (14, 0, 0) 7 0 l.length) b.fin)), ((2, 0, 0), .old (2, 0, 0), .row true 14 1 (fun _ => encBlock default)), ((11, 0, 0), .old (11, 0, 0), mpF (mapAt l 0)), ((14, 0, 0), .old (14, 0, 0), insRow (foldAt l 0) l.length)] rfl (by rfl) ?_ ?_
    · ((repeat' first | exact TLes.nil | refine TLes.cons (TLe.eq rfl) ?_); skip)
    · refine .old rfl (BLe.rowW (Nat.le_refl _) (fun x hx => ?_)) (.old rfl (BLe.rowW (Nat.le_refl _) (fun x hx => ?_)) (.old rfl (BLe.refl _) (.old rfl (BLe.row rfl (fun x hx => ?_)) .nil)))
      · match x, hx with
        | 0, _ => (repeat' ((conv => arg 1; whnf); (conv => arg 2; whnf); first | refine Wks.cons .refl ?_ | exact Wks.nil))
      · match x, hx with
        | 0, _ => (repeat' ((conv => arg 1; whnf); (conv => arg 2; whnf); first | refine Wks.cons .refl ?_ | refine Wks.cons (.nsl rfl) ?_ | exact Wks.nil))
      · rw [show foldAt l 0 = l by simp [foldAt, foldIns]]; rfl
  intro i hi
  have hfl := foldAt_len l i
  ((repeat' first | refine AWp_seq ?_ | (refine AWp_reg tok (by rfl) ?_; conv => whnf) | refine AWp_block ?_ | (refine AWp_skip ?_; conv => whnf) | (refine AWp_exit ?_; conv => whnf) | (refine AWp_ret ?_; conv => whnf) | refine AWp_cond rfl (fun hb => ?_) (fun hb => ?_) | (refine @And.intro (underG _ _ _ _) _ ?_ ?_; rotate_left; (conv => whnf); rotate_right)); all_goals (try ((guard_target = underG _ _ _ _); refine underG_none ?_; (all_goals (try simp only [underG, true_and, and_true, Bool.cond_true_left, Bool.cond_false_left, Bool.cond_true_right, Bool.cond_false_right, Bool.or_eq_true, Bool.and_eq_true, Bool.or_eq_false_iff, Bool.and_eq_false_iff, cond_true, cond_false, Bool.not_eq_eq_eq_not, Bool.not_true, Bool.not_false, decide_eq_true_eq, decide_eq_false_iff_not, Int.toNat_natCast, Nat.zero_add, Decidable.not_not, maxL, inn_iff] at *)); all_goals omega)))
  · have hlt : i < l.length := by simp only [underG, true_and, and_true, Bool.cond_true_left, Bool.cond_false_left, Bool.cond_true_right, Bool.cond_false_right, Bool.or_eq_true, Bool.and_eq_true, Bool.or_eq_false_iff, Bool.and_eq_false_iff, cond_true, cond_false, Bool.not_eq_eq_eq_not, Bool.not_true, Bool.not_false, decide_eq_true_eq, decide_eq_false_iff_not, Int.toNat_natCast, Nat.zero_add, Decidable.not_not, maxL, inn_iff] at *; omega
    have hget := foldAt_get hlt
    have hget' : (foldAt l i).getD (0 + (i : Int).toNat) default = l.getD i default := by simpa using hget
    have hcall : ∀ y, y = l.getD i default → HC Try.prog [i0] 88 [(i0, mpF (mapAt l i))] [.mp i0, .agg (encIns y)] (.tup [.int .u16 (ansW (mapAt l i) (l.getD i default)).1, .bool (ansW (mapAt l i) (l.getD i default)).2]) [(i0, mpF (mapAt l i))] := fun y e => e ▸ c_answer _ _
    refine .inr ⟨_, _, _, uG (QH.of (dead := []) [(i0, .old (11, 0, 0), mpF (mapAt l i))] (hcall ((foldAt l i).getD (0 + (i : Int).toNat) default) (by simpa using hget)) rfl (.old rfl (BLe.refl _) .nil) (.cons (.eq rfl) (.cons (.eq rfl) .nil)) [(i0, (11, 0, 0))] rfl (.cons rfl (BLe.refl _) .nil) rfl), ?_⟩
    conv => whnf
    (repeat' first | refine AWp_seq ?_ | (refine AWp_reg tok (by rfl) ?_; conv => whnf))
    refine AWp_meet (fun _ : Unit => mkS [(1, .bp (1, 0, 0) 0), (2, .bp (2, 0, 0) 0), (3, .mp (11, 0, 0)), (5, .rp (14, 0, 0) 7 (0 + (i : Int).toNat) 0), (18, iv l.length), (19, iv i)]
      [((1, 0, 0), .row false 14 1 (fun _ => blkCells b (.rs (14, 0, 0) 7 0 l.length) b.fin)), ((2, 0, 0), .row true 14 1 (fun _ => encBlock default)), ((11, 0, 0), mpF (mapAt l i)), ((14, 0, 0), insRow (foldAt l (i + 1)) l.length)]) (fun _ => True) ?_ ?_
    · ((repeat' first | (refine AWp_reg tok (by rfl) ?_; conv => whnf) | (refine AWp_skip ?_; conv => whnf) | refine AWp_cond rfl (fun hb => ?_) (fun hb => ?_) | (refine @And.intro (underG _ _ _ _) _ ?_ ?_; rotate_left; (conv => whnf); rotate_right)); all_goals (try ((guard_target = underG _ _ _ _); refine underG_none ?_; (all_goals (try simp only [underG, true_and, and_true, Bool.cond_true_left, Bool.cond_false_left, Bool.cond_true_right, Bool.cond_false_right, Bool.or_eq_true, Bool.and_eq_true, Bool.or_eq_false_iff, Bool.and_eq_false_iff, cond_true, cond_false, Bool.not_eq_eq_eq_not, Bool.not_true, Bool.not_false, decide_eq_true_eq, decide_eq_false_iff_not, Int.toNat_natCast, Nat.zero_add, Decidable.not_not, maxL, inn_iff] at *)); all_goals omega)))
      all_goals
        refine ⟨(), trivial, Weak.list [((1, 0, 0), .old (1, 0, 0), .row false 14 1 (fun _ => blkCells b (.rs (14, 0, 0) 7 0 l.length) b.fin)), ((2, 0, 0), .old (2, 0, 0), .row true 14 1 (fun _ => encBlock default)), ((11, 0, 0), .old (11, 0, 0), mpF (mapAt l i)), ((14, 0, 0), .old (14, 0, 0), insRow (foldAt l (i + 1)) l.length)] rfl (by rfl) ?_ ?_⟩
      · ((repeat' first | exact TLes.nil | refine TLes.cons (TLe.eq rfl) ?_); skip)
      · refine .old rfl (BLe.refl _) (.old rfl (BLe.refl _) (.old rfl (BLe.refl _) (.old rfl (BLe.rowW (Nat.le_refl _) (fun x hx => ?_)) .nil)))
        rw [foldAt_succ hlt]
        refine upd_rowW encIns default (foldAt l i) (by omega) (by simp) ?_ x
        rw [show foldY (mapAt l i) (l.getD i default) = _ from if_pos hb, hget']
        (repeat' ((conv => arg 1; whnf); (conv => arg 2; whnf); first | refine Wks.cons .refl ?_ | refine Wks.cons (.nsl rfl) ?_ | exact Wks.nil))
      · ((repeat' first | exact TLes.nil | refine TLes.cons (TLe.eq rfl) ?_); skip)
      · refine .old rfl (BLe.refl _) (.old rfl (BLe.refl _) (.old rfl (BLe.refl _) (.old rfl (BLe.rowW (Nat.le_refl _) (fun x hx => ?_)) .nil)))
        rw [foldAt_succ hlt, show foldY (mapAt l i) (l.getD i default) = _ from if_neg (by rw [hb]; simp)]
        refine Wks.of ?_
        show encIns ((foldAt l i).getD x default) = _
        rw [← hget, getD_set]
        split
        · rename_i h; rw [h.1]
        · rfl
    rintro _ _ τ hτ
    refine AWp_weak hτ ?_
    have hnote : ∀ y, y = (foldAt l (i + 1)).getD (0 + (i : Int).toNat) default → HC Try.prog [i0] 89 [(i0, mpF (mapAt l i))] [.mp i0, .agg (encIns y)] (.tup []) [(i0, mpF (mapAt l (i + 1)))] := fun y e => by
      have h := c_note (mapAt l i) y
      rw [show noteW (mapAt l i) y = mapAt l (i + 1) by rw [mapAt_succ hlt, e, show 0 + (i : Int).toNat = i by simp, foldAt_succ hlt, getD_set]; simp [hfl, hlt]] at h
      exact h
    conv => whnf
    refine AWp_reg tok (by rfl) ?_; conv => whnf
    refine @And.intro (underG _ _ _ _) _ ?_ ?_; rotate_left; (conv => whnf); rotate_right
    · ((guard_target = underG _ _ _ _); refine underG_none ?_; (all_goals (try simp only [underG, true_and, and_true, Bool.cond_true_left, Bool.cond_false_left, Bool.cond_true_right, Bool.cond_false_right, Bool.or_eq_true, Bool.and_eq_true, Bool.or_eq_false_iff, Bool.and_eq_false_iff, cond_true, cond_false, Bool.not_eq_eq_eq_not, Bool.not_true, Bool.not_false, decide_eq_true_eq, decide_eq_false_iff_not, Int.toNat_natCast, Nat.zero_add, Decidable.not_not, maxL, inn_iff] at *)); all_goals omega)
    refine .inr ⟨_, _, _, uG (QH.of (dead := []) [(i0, .old (11, 0, 0), mpF (mapAt l i))] (hnote _ rfl) rfl (.old rfl (BLe.refl _) .nil) (.cons (.eq rfl) (.cons (.eq rfl) .nil)) [(i0, (11, 0, 0))] rfl (.cons rfl (BLe.refl _) .nil) rfl), ?_⟩
    conv => whnf
    (repeat' (refine AWp_reg tok (by rfl) ?_; conv => whnf))
    refine ⟨i + 1, hlt, by omega, Weak.list [((1, 0, 0), .old (1, 0, 0), .row false 14 1 (fun _ => blkCells b (.rs (14, 0, 0) 7 0 l.length) b.fin)), ((2, 0, 0), .old (2, 0, 0), .row true 14 1 (fun _ => encBlock default)), ((11, 0, 0), .old (11, 0, 0), mpF (mapAt l (i + 1))), ((14, 0, 0), .old (14, 0, 0), insRow (foldAt l (i + 1)) l.length)] rfl (by rfl) ?_ ?_⟩
    · ((repeat' first | exact TLes.nil | refine TLes.cons (TLe.eq rfl) ?_ | refine TLes.cons (TLe.int ?_) ?_); (all_goals first | ((try (simp only [underG, true_and, and_true, Bool.cond_true_left, Bool.cond_false_left, Bool.cond_true_right, Bool.cond_false_right, Bool.or_eq_true, Bool.and_eq_true, Bool.or_eq_false_iff, Bool.and_eq_false_iff, cond_true, cond_false, Bool.not_eq_eq_eq_not, Bool.not_true, Bool.not_false, decide_eq_true_eq, decide_eq_false_iff_not, Int.toNat_natCast, Nat.zero_add, Decidable.not_not, maxL, inn_iff] at *)); exact wrap64 (by omega) (by omega)) | skip))
    · exact .old rfl (BLe.refl _) (.old rfl (BLe.refl _) (.old rfl (BLe.refl _) (.old rfl (BLe.refl _) .nil)))
  all_goals
    have hil : i = l.length := by simp only [underG, true_and, and_true, Bool.cond_true_left, Bool.cond_false_left, Bool.cond_true_right, Bool.cond_false_right, Bool.or_eq_true, Bool.and_eq_true, Bool.or_eq_false_iff, Bool.and_eq_false_iff, cond_true, cond_false, Bool.not_eq_eq_eq_not, Bool.not_true, Bool.not_false, decide_eq_true_eq, decide_eq_false_iff_not, Int.toNat_natCast, Nat.zero_add, Decidable.not_not, maxL, inn_iff] at *; omega
    subst hil
    have hm : mapAt b.ins b.ins.length = (foldIns [] b.ins).2 := by simp [mapAt]
    have hf : foldAt b.ins b.ins.length = (foldIns [] b.ins).1 := by simp [foldAt]
    subst hl
  · rename_i hb0
    have hfin : (foldBlock b).fin = ⟨2, 0, 0, 0, [], b.fin.to, 0, 0⟩ := by
      show foldEnd (foldIns [] b.ins).2 b.fin = _
      rw [← hm]; unfold foldEnd
      cases h : mlook (mapAt b.ins b.ins.length) [b.fin.a] with
      | none => simp [h] at hb0
      | some v => simp [h] at hb0 hb ⊢; simp [*]
    refine ⟨_, rfl, Rel.agg (.cons (Rel.imm rfl) (.cons (Rel.imm rfl) (.cons (Rel.imm rfl) (.cons (Rel.imm rfl) (.cons (Rel.imm rfl) (.cons (Rel.row rfl rfl (by simp [foldBlock, foldIns_len]) (fun x _ => ?_)) ?_))))))⟩
    · show encIns ((foldAt b.ins b.ins.length).getD x default) = encIns ((foldIns [] b.ins).1.getD x default)
      rw [hf]
    · rw [hfin]
      exact .cons (Rel.imm rfl) (.cons (Rel.imm rfl) (.cons (Rel.imm rfl) (.cons (Rel.imm rfl) (.cons (Rel.nsl' rfl) (.cons (Rel.imm rfl) (.cons (Rel.imm rfl) (.cons (Rel.imm rfl) .nil)))))))
  · rename_i hb0
    have hfin : (foldBlock b).fin = ⟨2, 0, 0, 0, [], b.fin.els, 0, 0⟩ := by
      show foldEnd (foldIns [] b.ins).2 b.fin = _
      rw [← hm]; unfold foldEnd
      cases h : mlook (mapAt b.ins b.ins.length) [b.fin.a] with
      | none => simp [h] at hb0
      | some v => simp [h] at hb0 hb ⊢; simp [*]
    refine ⟨_, rfl, Rel.agg (.cons (Rel.imm rfl) (.cons (Rel.imm rfl) (.cons (Rel.imm rfl) (.cons (Rel.imm rfl) (.cons (Rel.imm rfl) (.cons (Rel.row rfl rfl (by simp [foldBlock, foldIns_len]) (fun x _ => ?_)) ?_))))))⟩
    · show encIns ((foldAt b.ins b.ins.length).getD x default) = encIns ((foldIns [] b.ins).1.getD x default)
      rw [hf]
    · rw [hfin]
      exact .cons (Rel.imm rfl) (.cons (Rel.imm rfl) (.cons (Rel.imm rfl) (.cons (Rel.imm rfl) (.cons (Rel.nsl' rfl) (.cons (Rel.imm rfl) (.cons (Rel.imm rfl) (.cons (Rel.imm rfl) .nil)))))))
  · have hfin : (foldBlock b).fin = b.fin := by
      show foldEnd (foldIns [] b.ins).2 b.fin = _
      rw [← hm]; unfold foldEnd
      cases h : mlook (mapAt b.ins b.ins.length) [b.fin.a] with
      | none => rfl
      | some v => simp [h] at hb ⊢; simp [*]
    refine ⟨_, rfl, Rel.agg (.cons (Rel.imm rfl) (.cons (Rel.imm rfl) (.cons (Rel.imm rfl) (.cons (Rel.imm rfl) (.cons (Rel.imm rfl) (.cons (Rel.row rfl rfl (by simp [foldBlock, foldIns_len]) (fun x _ => ?_)) ?_))))))⟩
    · show encIns ((foldAt b.ins b.ins.length).getD x default) = encIns ((foldIns [] b.ins).1.getD x default)
      rw [hf]
    · rw [hfin]
      exact .cons (Rel.imm rfl) (.cons (Rel.imm rfl) (.cons (Rel.imm rfl) (.cons (Rel.imm rfl) (.cons (Rel.imm rfl) (.cons (Rel.imm rfl) (.cons (Rel.imm rfl) (.cons (Rel.imm rfl) .nil)))))))
end Go.Proofs.Ytmanpbgaihdalaa
