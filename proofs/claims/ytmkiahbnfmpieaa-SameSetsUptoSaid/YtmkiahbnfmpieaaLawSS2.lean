/- For every block, davitlaw17.SameSets returns true and leaves its argument as it was. Conditions: the arguments hold together at most 1048576 values (the form UptoSaid). -/
import Derived.Test.YtmkiahbnfmpieaaDvc3
import Derived.Test.YtmkiahbnfmpieaaLawSS1
set_option linter.unusedVariables false
set_option linter.unusedSimpArgs false
set_option linter.unnecessarySimpa false
namespace Go.Proofs.Ytmkiahbnfmpieaa
open Go Dv
set_option maxRecDepth 10000
set_option linter.unusedSimpArgs false
def w16 (x : Int) : Int := IntKind.u16.wrap x
def doW (op a b : Int) : Int × Bool :=
  if op = 2 then (a, true) else if op = 3 then (w16 (a + b), true) else if op = 4 then (w16 (a - b), true) else if op = 5 then (w16 (a * b), true)
  else if op = 6 then (if b = 0 then (0, false) else (w16 (a.tdiv b), true)) else if op = 7 then (if a = b then 1 else 0, true) else if op = 8 then (if a < b then 1 else 0, true) else (0, false)
def pureO (op : Int) : Bool := bif decide (2 ≤ op) then decide (op ≤ 8) else false
def twoO (op : Int) : Bool := bif decide (2 < op) then decide (op ≤ 8) else false
def turnsO (op : Int) : Bool := decide (op = 3 ∨ op = 5 ∨ op = 7)
theorem c_truth (b : Bool) : FC Try.prog 48 [.bool b] (.int .u16 (if b = true then 1 else 0)) := by
  refine FC_intro tok Try.func48 rfl (by decide +kernel) (Nat.le_of_ble_eq_true rfl) ?_
  ((repeat' first | refine AWp_seq ?_ | (refine AWp_reg tok (by rfl) ?_; conv => whnf) | (refine AWp_any tok mix (by rfl) ?_; conv => whnf) | refine AWp_block ?_ | (refine AWp_skip ?_; conv => whnf) | (refine AWp_exit ?_; conv => whnf) | (refine AWp_ret ?_; conv => whnf) | refine AWp_cond rfl (fun hb => ?_) (fun hb => ?_) | (refine @And.intro (underG _ _ _ _) _ ?_ ?_; rotate_left; (conv => whnf); rotate_right) | (refine fun (bn : Bool) (hbn : (0 < _ → bn = _)) => ?_; conv => whnf)); all_goals (try ((first | refine underG_none ?_ | (refine underG_some ?_; intro hgd; conv at hgd => whnf)); (first | refine And.intro (srcObl_rs rfl ?_) ?_ | refine And.intro srcObl_sl ?_ | refine And.intro srcObl_nsl ?_ | skip); (all_goals (try simp only [underG, true_and, and_true, Bool.cond_true_left, Bool.cond_false_left, Bool.cond_true_right, Bool.cond_false_right, Bool.or_eq_true, Bool.and_eq_true, Bool.or_eq_false_iff, Bool.and_eq_false_iff, cond_true, cond_false, Bool.not_eq_eq_eq_not, Bool.not_true, Bool.not_false, decide_eq_true_eq, decide_eq_false_iff_not, Int.toNat_natCast, Nat.zero_add, Decidable.not_not, maxL] at *)); all_goals omega)))
  · exact ⟨_, rfl, Rel.int (by rw [if_pos hb])⟩
  · exact ⟨_, rfl, Rel.int (by rw [if_neg (by rw [hb]; simp)])⟩
theorem c_Pure (op : Int) : FC Try.prog 43 [iv op] (.bool (pureO op)) := by
  refine FC_intro tok Try.func43 rfl (by decide +kernel) (Nat.le_of_ble_eq_true rfl) ?_
  ((repeat' first | refine AWp_seq ?_ | (refine AWp_reg tok (by rfl) ?_; conv => whnf) | (refine AWp_any tok mix (by rfl) ?_; conv => whnf) | refine AWp_block ?_ | (refine AWp_skip ?_; conv => whnf) | (refine AWp_exit ?_; conv => whnf) | (refine AWp_ret ?_; conv => whnf) | refine AWp_cond rfl (fun hb => ?_) (fun hb => ?_) | (refine @And.intro (underG _ _ _ _) _ ?_ ?_; rotate_left; (conv => whnf); rotate_right) | (refine fun (bn : Bool) (hbn : (0 < _ → bn = _)) => ?_; conv => whnf)); all_goals (try ((first | refine underG_none ?_ | (refine underG_some ?_; intro hgd; conv at hgd => whnf)); (first | refine And.intro (srcObl_rs rfl ?_) ?_ | refine And.intro srcObl_sl ?_ | refine And.intro srcObl_nsl ?_ | skip); (all_goals (try simp only [underG, true_and, and_true, Bool.cond_true_left, Bool.cond_false_left, Bool.cond_true_right, Bool.cond_false_right, Bool.or_eq_true, Bool.and_eq_true, Bool.or_eq_false_iff, Bool.and_eq_false_iff, cond_true, cond_false, Bool.not_eq_eq_eq_not, Bool.not_true, Bool.not_false, decide_eq_true_eq, decide_eq_false_iff_not, Int.toNat_natCast, Nat.zero_add, Decidable.not_not, maxL] at *)); all_goals omega)))
  exact ⟨_, rfl, Rel.imm rfl⟩
theorem c_Two (op : Int) : FC Try.prog 42 [iv op] (.bool (twoO op)) := by
  refine FC_intro tok Try.func42 rfl (by decide +kernel) (Nat.le_of_ble_eq_true rfl) ?_
  ((repeat' first | refine AWp_seq ?_ | (refine AWp_reg tok (by rfl) ?_; conv => whnf) | (refine AWp_any tok mix (by rfl) ?_; conv => whnf) | refine AWp_block ?_ | (refine AWp_skip ?_; conv => whnf) | (refine AWp_exit ?_; conv => whnf) | (refine AWp_ret ?_; conv => whnf) | refine AWp_cond rfl (fun hb => ?_) (fun hb => ?_) | (refine @And.intro (underG _ _ _ _) _ ?_ ?_; rotate_left; (conv => whnf); rotate_right) | (refine fun (bn : Bool) (hbn : (0 < _ → bn = _)) => ?_; conv => whnf)); all_goals (try ((first | refine underG_none ?_ | (refine underG_some ?_; intro hgd; conv at hgd => whnf)); (first | refine And.intro (srcObl_rs rfl ?_) ?_ | refine And.intro srcObl_sl ?_ | refine And.intro srcObl_nsl ?_ | skip); (all_goals (try simp only [underG, true_and, and_true, Bool.cond_true_left, Bool.cond_false_left, Bool.cond_true_right, Bool.cond_false_right, Bool.or_eq_true, Bool.and_eq_true, Bool.or_eq_false_iff, Bool.and_eq_false_iff, cond_true, cond_false, Bool.not_eq_eq_eq_not, Bool.not_true, Bool.not_false, decide_eq_true_eq, decide_eq_false_iff_not, Int.toNat_natCast, Nat.zero_add, Decidable.not_not, maxL] at *)); all_goals omega)))
  exact ⟨_, rfl, Rel.imm rfl⟩
theorem c_Turns (op : Int) : FC Try.prog 41 [iv op] (.bool (turnsO op)) := by
  refine FC_intro tok Try.func41 rfl (by decide +kernel) (Nat.le_of_ble_eq_true rfl) ?_
  ((repeat' first | refine AWp_seq ?_ | (refine AWp_reg tok (by rfl) ?_; conv => whnf) | (refine AWp_any tok mix (by rfl) ?_; conv => whnf) | refine AWp_block ?_ | (refine AWp_skip ?_; conv => whnf) | (refine AWp_exit ?_; conv => whnf) | (refine AWp_ret ?_; conv => whnf) | refine AWp_cond rfl (fun hb => ?_) (fun hb => ?_) | (refine @And.intro (underG _ _ _ _) _ ?_ ?_; rotate_left; (conv => whnf); rotate_right) | (refine fun (bn : Bool) (hbn : (0 < _ → bn = _)) => ?_; conv => whnf)); all_goals (try ((first | refine underG_none ?_ | (refine underG_some ?_; intro hgd; conv at hgd => whnf)); (first | refine And.intro (srcObl_rs rfl ?_) ?_ | refine And.intro srcObl_sl ?_ | refine And.intro srcObl_nsl ?_ | skip); (all_goals (try simp only [underG, true_and, and_true, Bool.cond_true_left, Bool.cond_false_left, Bool.cond_true_right, Bool.cond_false_right, Bool.or_eq_true, Bool.and_eq_true, Bool.or_eq_false_iff, Bool.and_eq_false_iff, cond_true, cond_false, Bool.not_eq_eq_eq_not, Bool.not_true, Bool.not_false, decide_eq_true_eq, decide_eq_false_iff_not, Int.toNat_natCast, Nat.zero_add, Decidable.not_not, maxL] at *)); all_goals omega)))
  all_goals simp only [underG, true_and, and_true, Bool.cond_true_left, Bool.cond_false_left, Bool.cond_true_right, Bool.cond_false_right, Bool.or_eq_true, Bool.and_eq_true, Bool.or_eq_false_iff, Bool.and_eq_false_iff, cond_true, cond_false, Bool.not_eq_eq_eq_not, Bool.not_true, Bool.not_false, decide_eq_true_eq, decide_eq_false_iff_not, Int.toNat_natCast, Nat.zero_add, Decidable.not_not, maxL] at *
  all_goals refine ⟨_, rfl, Rel.bool ?_⟩
  all_goals simp only [turnsO]
  all_goals symm
  all_goals first | (rw [decide_eq_true_eq]; omega) | (rw [decide_eq_false_iff_not]; omega)
theorem c_Do (op a b : Int) : FC Try.prog 44 [iv op, .int .u16 a, .int .u16 b] (.tup [.int .u16 (doW op a b).1, .bool (doW op a b).2]) := by
  refine FC_intro tok Try.func44 rfl (by decide +kernel) (Nat.le_of_ble_eq_true rfl) ?_
  ((repeat' first | refine AWp_seq ?_ | (refine AWp_reg tok (by rfl) ?_; conv => whnf) | (refine AWp_any tok mix (by rfl) ?_; conv => whnf) | refine AWp_block ?_ | (refine AWp_skip ?_; conv => whnf) | (refine AWp_exit ?_; conv => whnf) | (refine AWp_ret ?_; conv => whnf) | refine AWp_cond rfl (fun hb => ?_) (fun hb => ?_) | (refine @And.intro (underG _ _ _ _) _ ?_ ?_; rotate_left; (conv => whnf); rotate_right) | (refine fun (bn : Bool) (hbn : (0 < _ → bn = _)) => ?_; conv => whnf)); all_goals (try ((first | refine underG_none ?_ | (refine underG_some ?_; intro hgd; conv at hgd => whnf)); (first | refine And.intro (srcObl_rs rfl ?_) ?_ | refine And.intro srcObl_sl ?_ | refine And.intro srcObl_nsl ?_ | skip); (all_goals (try simp only [underG, true_and, and_true, Bool.cond_true_left, Bool.cond_false_left, Bool.cond_true_right, Bool.cond_false_right, Bool.or_eq_true, Bool.and_eq_true, Bool.or_eq_false_iff, Bool.and_eq_false_iff, cond_true, cond_false, Bool.not_eq_eq_eq_not, Bool.not_true, Bool.not_false, decide_eq_true_eq, decide_eq_false_iff_not, Int.toNat_natCast, Nat.zero_add, Decidable.not_not, maxL] at *)); all_goals omega)))
  all_goals (try (refine .inl ⟨_, _, _, uG (QC.fc (c_truth _) rfl), ?_⟩; conv => whnf))
  ((repeat' first | refine AWp_seq ?_ | (refine AWp_reg tok (by rfl) ?_; conv => whnf) | (refine AWp_any tok mix (by rfl) ?_; conv => whnf) | refine AWp_block ?_ | (refine AWp_skip ?_; conv => whnf) | (refine AWp_exit ?_; conv => whnf) | (refine AWp_ret ?_; conv => whnf) | refine AWp_cond rfl (fun hb => ?_) (fun hb => ?_) | (refine @And.intro (underG _ _ _ _) _ ?_ ?_; rotate_left; (conv => whnf); rotate_right) | (refine fun (bn : Bool) (hbn : (0 < _ → bn = _)) => ?_; conv => whnf)); all_goals (try ((first | refine underG_none ?_ | (refine underG_some ?_; intro hgd; conv at hgd => whnf)); (first | refine And.intro (srcObl_rs rfl ?_) ?_ | refine And.intro srcObl_sl ?_ | refine And.intro srcObl_nsl ?_ | skip); (all_goals (try simp only [underG, true_and, and_true, Bool.cond_true_left, Bool.cond_false_left, Bool.cond_true_right, Bool.cond_false_right, Bool.or_eq_true, Bool.and_eq_true, Bool.or_eq_false_iff, Bool.and_eq_false_iff, cond_true, cond_false, Bool.not_eq_eq_eq_not, Bool.not_true, Bool.not_false, decide_eq_true_eq, decide_eq_false_iff_not, Int.toNat_natCast, Nat.zero_add, Decidable.not_not, maxL] at *)); all_goals omega)))
  all_goals refine ⟨_, rfl, Rel.tup (.cons (Rel.int ?_) (.cons (Rel.bool ?_) .nil))⟩
  all_goals simp only [underG, true_and, and_true, Bool.cond_true_left, Bool.cond_false_left, Bool.cond_true_right, Bool.cond_false_right, Bool.or_eq_true, Bool.and_eq_true, Bool.or_eq_false_iff, Bool.and_eq_false_iff, cond_true, cond_false, Bool.not_eq_eq_eq_not, Bool.not_true, Bool.not_false, decide_eq_true_eq, decide_eq_false_iff_not, Int.toNat_natCast, Nat.zero_add, Decidable.not_not, maxL] at *
  all_goals simp [doW, w16, *]
/-! ### fold -/
abbrev κF : MK := ⟨false, 1, .i64, .u16⟩
abbrev mpF (m : List (List Int × Int)) : ABlock := .map (.assoc κF m)
def ansW (m : List (List Int × Int)) (x : Ins) : Int × Bool :=
  match mlook m [x.a] with
  | none => (0, false)
  | some a => if pureO x.op = true then (if twoO x.op = true then (match mlook m [x.b] with | none => (0, false) | some b => doW x.op a b) else doW x.op a 0) else (0, false)
theorem _root_.Dv.TLe.ib {R : Dv.Rows} {k : IntKind} {n m : Int} {b c : Bool} (h1 : n = m) (h2 : b = c) : TLe R (.tup [.int k n, .bool b]) (.tup [.int k m, .bool c]) := by
  subst h1; subst h2; exact .eq rfl
theorem c_answer (m : List (List Int × Int)) (x : Ins) : HC Try.prog [i0] 30 [(i0, mpF m)] [.mp i0, .agg (encIns x)] (.tup [.int .u16 (ansW m x).1, .bool (ansW m x).2]) [(i0, mpF m)] := by
  refine HC_intro tok Try.func30 rfl (by decide +kernel) (Nat.le_of_ble_eq_true rfl) ?_
  ((repeat' first | refine AWp_seq ?_ | (refine AWp_reg tok (by rfl) ?_; conv => whnf) | (refine AWp_any tok mix (by rfl) ?_; conv => whnf) | refine AWp_block ?_ | (refine AWp_skip ?_; conv => whnf) | (refine AWp_exit ?_; conv => whnf) | (refine AWp_ret ?_; conv => whnf) | refine AWp_cond rfl (fun hb => ?_) (fun hb => ?_) | (refine @And.intro (underG _ _ _ _) _ ?_ ?_; rotate_left; (conv => whnf); rotate_right) | (refine fun (bn : Bool) (hbn : (0 < _ → bn = _)) => ?_; conv => whnf)); all_goals (try ((first | refine underG_none ?_ | (refine underG_some ?_; intro hgd; conv at hgd => whnf)); (first | refine And.intro (srcObl_rs rfl ?_) ?_ | refine And.intro srcObl_sl ?_ | refine And.intro srcObl_nsl ?_ | skip); (all_goals (try simp only [underG, true_and, and_true, Bool.cond_true_left, Bool.cond_false_left, Bool.cond_true_right, Bool.cond_false_right, Bool.or_eq_true, Bool.and_eq_true, Bool.or_eq_false_iff, Bool.and_eq_false_iff, cond_true, cond_false, Bool.not_eq_eq_eq_not, Bool.not_true, Bool.not_false, decide_eq_true_eq, decide_eq_false_iff_not, Int.toNat_natCast, Nat.zero_add, Decidable.not_not, maxL] at *)); all_goals omega)))
  refine .inl ⟨_, _, _, uG (QC.fc (c_Pure x.op) rfl), ?_⟩
  conv => whnf
  ((repeat' first | refine AWp_seq ?_ | (refine AWp_reg tok (by rfl) ?_; conv => whnf) | (refine AWp_any tok mix (by rfl) ?_; conv => whnf) | refine AWp_block ?_ | (refine AWp_skip ?_; conv => whnf) | (refine AWp_exit ?_; conv => whnf) | (refine AWp_ret ?_; conv => whnf) | refine AWp_cond rfl (fun hb => ?_) (fun hb => ?_) | (refine @And.intro (underG _ _ _ _) _ ?_ ?_; rotate_left; (conv => whnf); rotate_right) | (refine fun (bn : Bool) (hbn : (0 < _ → bn = _)) => ?_; conv => whnf)); all_goals (try ((first | refine underG_none ?_ | (refine underG_some ?_; intro hgd; conv at hgd => whnf)); (first | refine And.intro (srcObl_rs rfl ?_) ?_ | refine And.intro srcObl_sl ?_ | refine And.intro srcObl_nsl ?_ | skip); (all_goals (try simp only [underG, true_and, and_true, Bool.cond_true_left, Bool.cond_false_left, Bool.cond_true_right, Bool.cond_false_right, Bool.or_eq_true, Bool.and_eq_true, Bool.or_eq_false_iff, Bool.and_eq_false_iff, cond_true, cond_false, Bool.not_eq_eq_eq_not, Bool.not_true, Bool.not_false, decide_eq_true_eq, decide_eq_false_iff_not, Int.toNat_natCast, Nat.zero_add, Decidable.not_not, maxL] at *)); all_goals omega)))
  · refine ⟨_, [(i0, .old i0, mpF m)], rfl, rfl, rfl, rfl, .old rfl (BLe.refl _) .nil, TLe.ib ?_ ?_⟩
    all_goals
      unfold ansW
      cases h : mlook m [x.a] with
      | none => rfl
      | some a => simp [h] at hb; simp [hb]
  refine .inl ⟨_, _, _, uG (QC.fc (c_Two x.op) rfl), ?_⟩
  conv => whnf
  ((repeat' first | refine AWp_seq ?_ | (refine AWp_reg tok (by rfl) ?_; conv => whnf) | (refine AWp_any tok mix (by rfl) ?_; conv => whnf) | refine AWp_block ?_ | (refine AWp_skip ?_; conv => whnf) | (refine AWp_exit ?_; conv => whnf) | (refine AWp_ret ?_; conv => whnf) | refine AWp_cond rfl (fun hb => ?_) (fun hb => ?_) | (refine @And.intro (underG _ _ _ _) _ ?_ ?_; rotate_left; (conv => whnf); rotate_right) | (refine fun (bn : Bool) (hbn : (0 < _ → bn = _)) => ?_; conv => whnf)); all_goals (try ((first | refine underG_none ?_ | (refine underG_some ?_; intro hgd; conv at hgd => whnf)); (first | refine And.intro (srcObl_rs rfl ?_) ?_ | refine And.intro srcObl_sl ?_ | refine And.intro srcObl_nsl ?_ | skip); (all_goals (try simp only [underG, true_and, and_true, Bool.cond_true_left, Bool.cond_false_left, Bool.cond_true_right, Bool.cond_false_right, Bool.or_eq_true, Bool.and_eq_true, Bool.or_eq_false_iff, Bool.and_eq_false_iff, cond_true, cond_false, Bool.not_eq_eq_eq_not, Bool.not_true, Bool.not_false, decide_eq_true_eq, decide_eq_false_iff_not, Int.toNat_natCast, Nat.zero_add, Decidable.not_not, maxL] at *)); all_goals omega)))
  · refine ⟨_, [(i0, .old i0, mpF m)], rfl, rfl, rfl, rfl, .old rfl (BLe.refl _) .nil, TLe.ib ?_ ?_⟩
    all_goals
      rename_i hp ht
      unfold ansW
      cases h : mlook m [x.a] with
      | none => rfl
      | some a =>
        simp [h] at hp
        cases h2 : mlook m [x.b] with
        | none => simp [hp, ht]
        | some b => simp [h2] at hb
  · refine .inl ⟨_, _, _, uG (QC.fc (c_Do x.op _ _) rfl), ?_⟩
    conv => whnf
    ((repeat' first | refine AWp_seq ?_ | (refine AWp_reg tok (by rfl) ?_; conv => whnf) | (refine AWp_any tok mix (by rfl) ?_; conv => whnf) | refine AWp_block ?_ | (refine AWp_skip ?_; conv => whnf) | (refine AWp_exit ?_; conv => whnf) | (refine AWp_ret ?_; conv => whnf) | refine AWp_cond rfl (fun hb => ?_) (fun hb => ?_) | (refine @And.intro (underG _ _ _ _) _ ?_ ?_; rotate_left; (conv => whnf); rotate_right) | (refine fun (bn : Bool) (hbn : (0 < _ → bn = _)) => ?_; conv => whnf)); all_goals (try ((first | refine underG_none ?_ | (refine underG_some ?_; intro hgd; conv at hgd => whnf)); (first | refine And.intro (srcObl_rs rfl ?_) ?_ | refine And.intro srcObl_sl ?_ | refine And.intro srcObl_nsl ?_ | skip); (all_goals (try simp only [underG, true_and, and_true, Bool.cond_true_left, Bool.cond_false_left, Bool.cond_true_right, Bool.cond_false_right, Bool.or_eq_true, Bool.and_eq_true, Bool.or_eq_false_iff, Bool.and_eq_false_iff, cond_true, cond_false, Bool.not_eq_eq_eq_not, Bool.not_true, Bool.not_false, decide_eq_true_eq, decide_eq_false_iff_not, Int.toNat_natCast, Nat.zero_add, Decidable.not_not, maxL] at *)); all_goals omega)))
    refine ⟨_, [(i0, .old i0, mpF m)], rfl, rfl, rfl, rfl, .old rfl (BLe.refl _) .nil, TLe.ib ?_ ?_⟩
    all_goals
      rename_i hp ht
      unfold ansW
      cases h : mlook m [x.a] with
      | none => simp [h] at hp
      | some a =>
        simp [h] at hp
        cases h2 : mlook m [x.b] with
        | none => simp [h2] at hb
        | some b => simp [hp, ht]
  · refine .inl ⟨_, _, _, uG (QC.fc (c_Do x.op _ _) rfl), ?_⟩
    conv => whnf
    ((repeat' first | refine AWp_seq ?_ | (refine AWp_reg tok (by rfl) ?_; conv => whnf) | (refine AWp_any tok mix (by rfl) ?_; conv => whnf) | refine AWp_block ?_ | (refine AWp_skip ?_; conv => whnf) | (refine AWp_exit ?_; conv => whnf) | (refine AWp_ret ?_; conv => whnf) | refine AWp_cond rfl (fun hb => ?_) (fun hb => ?_) | (refine @And.intro (underG _ _ _ _) _ ?_ ?_; rotate_left; (conv => whnf); rotate_right) | (refine fun (bn : Bool) (hbn : (0 < _ → bn = _)) => ?_; conv => whnf)); all_goals (try ((first | refine underG_none ?_ | (refine underG_some ?_; intro hgd; conv at hgd => whnf)); (first | refine And.intro (srcObl_rs rfl ?_) ?_ | refine And.intro srcObl_sl ?_ | refine And.intro srcObl_nsl ?_ | skip); (all_goals (try simp only [underG, true_and, and_true, Bool.cond_true_left, Bool.cond_false_left, Bool.cond_true_right, Bool.cond_false_right, Bool.or_eq_true, Bool.and_eq_true, Bool.or_eq_false_iff, Bool.and_eq_false_iff, cond_true, cond_false, Bool.not_eq_eq_eq_not, Bool.not_true, Bool.not_false, decide_eq_true_eq, decide_eq_false_iff_not, Int.toNat_natCast, Nat.zero_add, Decidable.not_not, maxL] at *)); all_goals omega)))
    refine ⟨_, [(i0, .old i0, mpF m)], rfl, rfl, rfl, rfl, .old rfl (BLe.refl _) .nil, TLe.ib ?_ ?_⟩
    all_goals
      rename_i hp
      unfold ansW
      cases h : mlook m [x.a] with
      | none => simp [h] at hp
      | some a => simp [h] at hp; simp [hp, hb]
def noteW (m : List (List Int × Int)) (x : Ins) : List (List Int × Int) :=
  if x.op = 10 ∨ x.op = 12 then m else if x.op = 1 then mput m [x.dst] x.k else mdel m [x.dst]
theorem c_note (m : List (List Int × Int)) (x : Ins) : HC Try.prog [i0] 31 [(i0, mpF m)] [.mp i0, .agg (encIns x)] (.tup []) [(i0, mpF (noteW m x))] := by
  refine HC_intro tok Try.func31 rfl (by decide +kernel) (Nat.le_of_ble_eq_true rfl) ?_
  ((repeat' first | refine AWp_seq ?_ | (refine AWp_reg tok (by rfl) ?_; conv => whnf) | (refine AWp_any tok mix (by rfl) ?_; conv => whnf) | refine AWp_block ?_ | (refine AWp_skip ?_; conv => whnf) | (refine AWp_exit ?_; conv => whnf) | (refine AWp_ret ?_; conv => whnf) | refine AWp_cond rfl (fun hb => ?_) (fun hb => ?_) | (refine @And.intro (underG _ _ _ _) _ ?_ ?_; rotate_left; (conv => whnf); rotate_right) | (refine fun (bn : Bool) (hbn : (0 < _ → bn = _)) => ?_; conv => whnf)); all_goals (try ((first | refine underG_none ?_ | (refine underG_some ?_; intro hgd; conv at hgd => whnf)); (first | refine And.intro (srcObl_rs rfl ?_) ?_ | refine And.intro srcObl_sl ?_ | refine And.intro srcObl_nsl ?_ | skip); (all_goals (try simp only [underG, true_and, and_true, Bool.cond_true_left, Bool.cond_false_left, Bool.cond_true_right, Bool.cond_false_right, Bool.or_eq_true, Bool.and_eq_true, Bool.or_eq_false_iff, Bool.and_eq_false_iff, cond_true, cond_false, Bool.not_eq_eq_eq_not, Bool.not_true, Bool.not_false, decide_eq_true_eq, decide_eq_false_iff_not, Int.toNat_natCast, Nat.zero_add, Decidable.not_not, maxL] at *)); all_goals omega)))
  all_goals simp only [underG, true_and, and_true, Bool.cond_true_left, Bool.cond_false_left, Bool.cond_true_right, Bool.cond_false_right, Bool.or_eq_true, Bool.and_eq_true, Bool.or_eq_false_iff, Bool.and_eq_false_iff, cond_true, cond_false, Bool.not_eq_eq_eq_not, Bool.not_true, Bool.not_false, decide_eq_true_eq, decide_eq_false_iff_not, Int.toNat_natCast, Nat.zero_add, Decidable.not_not, maxL] at *
  all_goals first | (exfalso; omega; done) | skip
  · rw [show noteW m x = m by simp [noteW, *]]
    exact ⟨_, [(i0, .old i0, mpF m)], rfl, rfl, rfl, rfl, .old rfl (BLe.refl _) .nil, .eq rfl⟩
  · rw [show noteW m x = m by simp [noteW, *]]
    exact ⟨_, [(i0, .old i0, mpF m)], rfl, rfl, rfl, rfl, .old rfl (BLe.refl _) .nil, .eq rfl⟩
  · rw [show noteW m x = mput m [x.dst] x.k by simp [noteW, *]]
    exact ⟨_, [(i0, .old i0, mpF (mput m [x.dst] x.k))], rfl, rfl, rfl, rfl, .old rfl (BLe.refl _) .nil, .eq rfl⟩
  · rw [show noteW m x = mdel m [x.dst] by simp [noteW, *]]
    exact ⟨_, [(i0, .old i0, mpF (mdel m [x.dst]))], rfl, rfl, rfl, rfl, .old rfl (BLe.refl _) .nil, .eq rfl⟩
theorem c_CloneIns (l : List Ins) : FO Try.prog 27 [inss l] 7 l.length (fun i => encIns (l.getD i default)) := by
  refine FO_intro tok Try.func27 rfl (by decide +kernel) (Nat.le_of_ble_eq_true rfl) ?_
  refine AWp_facts 0 (fun hl => ?_)
  have hl0 : l.length ≤ maxL := hl.1
  ((repeat' first | refine AWp_seq ?_ | (refine AWp_reg tok (by rfl) ?_; conv => whnf) | (refine AWp_any tok mix (by rfl) ?_; conv => whnf) | refine AWp_block ?_ | (refine AWp_skip ?_; conv => whnf) | (refine AWp_exit ?_; conv => whnf) | (refine AWp_ret ?_; conv => whnf) | refine AWp_cond rfl (fun hb => ?_) (fun hb => ?_) | (refine @And.intro (underG _ _ _ _) _ ?_ ?_; rotate_left; (conv => whnf); rotate_right) | (refine fun (bn : Bool) (hbn : (0 < _ → bn = _)) => ?_; conv => whnf)); all_goals (try ((first | refine underG_none ?_ | (refine underG_some ?_; intro hgd; conv at hgd => whnf)); (first | refine And.intro (srcObl_rs rfl ?_) ?_ | refine And.intro srcObl_sl ?_ | refine And.intro srcObl_nsl ?_ | skip); (all_goals (try simp only [underG, true_and, and_true, Bool.cond_true_left, Bool.cond_false_left, Bool.cond_true_right, Bool.cond_false_right, Bool.or_eq_true, Bool.and_eq_true, Bool.or_eq_false_iff, Bool.and_eq_false_iff, cond_true, cond_false, Bool.not_eq_eq_eq_not, Bool.not_true, Bool.not_false, decide_eq_true_eq, decide_eq_false_iff_not, Int.toNat_natCast, Nat.zero_add, Decidable.not_not, maxL] at *)); all_goals omega)))
  · refine ⟨_, rfl, RelO.nsl' ?_⟩
    rcases Nat.eq_zero_or_pos l.length with h | h
    · exact h
    · rw [hbn h] at hb; cases hb
  · refine ⟨_, rfl, RelO.rs rfl (Nat.le_refl _) (by simp) (fun i hi => ?_)⟩
    show appR 0 (rowOf 7 []) (fun i => encIns (l.getD i default)) i = _
    exact appR_zero _ _ _
def foldY (m : List (List Int × Int)) (x : Ins) : Ins := if (ansW m x).2 = true then ⟨1, x.dst, 0, 0, (ansW m x).1, 0, []⟩ else x
def foldIns : List (List Int × Int) → List Ins → List Ins × List (List Int × Int)
  | m, [] => ([], m)
  | m, x :: r => (foldY m x :: (foldIns (noteW m (foldY m x)) r).1, (foldIns (noteW m (foldY m x)) r).2)
theorem foldIns_snoc : ∀ (l : List Ins) (m : List (List Int × Int)) (x : Ins), foldIns m (l ++ [x]) = ((foldIns m l).1 ++ [foldY (foldIns m l).2 x], noteW (foldIns m l).2 (foldY (foldIns m l).2 x))
  | [], m, x => rfl
  | y :: r, m, x => by
      simp only [List.cons_append, foldIns]
      rw [foldIns_snoc r _ x]
theorem foldIns_len : ∀ (l : List Ins) (m : List (List Int × Int)), (foldIns m l).1.length = l.length
  | [], _ => rfl
  | _ :: r, m => by simp [foldIns, foldIns_len r]
def foldEnd (m : List (List Int × Int)) (e : End) : End := match mlook m [e.a] with
  | none => e
  | some v => if e.kind = 3 then ⟨2, 0, 0, 0, [], if v = 0 then e.els else e.to, 0, 0⟩ else e
def foldBlock (b : Block) : Block := { b with ins := (foldIns [] b.ins).1, fin := foldEnd (foldIns [] b.ins).2 b.fin }
def mapAt (l : List Ins) (i : Nat) : List (List Int × Int) := (foldIns [] (l.take i)).2
def foldAt (l : List Ins) (i : Nat) : List Ins := (foldIns [] (l.take i)).1 ++ l.drop i
theorem foldAt_len (l : List Ins) (i : Nat) : (foldAt l i).length = l.length := by
  simp only [foldAt, List.length_append, foldIns_len, List.length_take, List.length_drop]; omega
theorem foldAt_get {l : List Ins} {i : Nat} (h : i < l.length) : (foldAt l i).getD i default = l.getD i default := by
  unfold foldAt
  rw [getD_append, foldIns_len, List.length_take, if_neg (by omega)]
  have : i - min i l.length = 0 := by omega
  rw [this, drop_getD default h]; rfl
theorem mapAt_succ {l : List Ins} {i : Nat} (h : i < l.length) : mapAt l (i + 1) = noteW (mapAt l i) (foldY (mapAt l i) (l.getD i default)) := by
  unfold mapAt; rw [take_succ_getD default h, foldIns_snoc]
theorem foldAt_succ {l : List Ins} {i : Nat} (h : i < l.length) : foldAt l (i + 1) = (foldAt l i).set i (foldY (mapAt l i) (l.getD i default)) := by
  unfold foldAt mapAt
  rw [take_succ_getD default h, foldIns_snoc]
  have hl : (foldIns [] (l.take i)).1.length = i := by rw [foldIns_len, List.length_take]; omega
  rw [List.set_append_right _ _ (by omega), hl, Nat.sub_self, drop_getD default h]
  simp
theorem upd_rowW {α : Type} (e : α → List AV) (d : α) (r : List α) {k k' : Nat} {v : α} {c : List AV} (hk : k' < r.length) (ek : k = k') (hc : Wks c (e v)) (x : Nat) : Wks (updR (fun x => e (r.getD x d)) k c x) (e ((r.set k' v).getD x d)) := by
  subst ek
  unfold updR
  rw [getD_set]
  cases h : Nat.beq k x with
  | true => have := Nat.eq_of_beq_eq_true h; rw [if_pos ⟨this, hk⟩]; exact hc
  | false =>
    have : k ≠ x := fun e' => by subst e'; simp at h
    rw [if_neg (fun h => this h.1)]; exact Wks.refl _
abbrev insRow (l : List Ins) (n : Nat) : ABlock := .row true 7 n (fun x => encIns (l.getD x default))
abbrev blkCells (b : Block) (ins : AV) (e : End) : List AV := [.bool b.landing, iv b.pad.dst, u16s b.pad.catch_, .bool b.pad.all, .bool b.pad.cleanup, ins] ++ encEnd e
theorem c_Block (b : Block) : FC Try.prog 14 [.agg (encBlock b)] (.agg (encBlock (foldBlock b))) := by
  refine FC_intro tok Try.func14 rfl (by decide +kernel) (Nat.le_of_ble_eq_true rfl) ?_
  refine AWp_facts 0 (fun hl => ?_)
  have hl0 : b.ins.length ≤ maxL := hl.2.2.2.2.2.1.1
  ((repeat' first | refine AWp_seq ?_ | (refine AWp_reg tok (by rfl) ?_; conv => whnf) | (refine AWp_any tok mix (by rfl) ?_; conv => whnf) | refine AWp_block ?_ | (refine AWp_skip ?_; conv => whnf) | (refine AWp_exit ?_; conv => whnf) | (refine AWp_ret ?_; conv => whnf) | refine AWp_cond rfl (fun hb => ?_) (fun hb => ?_) | (refine @And.intro (underG _ _ _ _) _ ?_ ?_; rotate_left; (conv => whnf); rotate_right) | (refine fun (bn : Bool) (hbn : (0 < _ → bn = _)) => ?_; conv => whnf)); all_goals (try ((first | refine underG_none ?_ | (refine underG_some ?_; intro hgd; conv at hgd => whnf)); (first | refine And.intro (srcObl_rs rfl ?_) ?_ | refine And.intro srcObl_sl ?_ | refine And.intro srcObl_nsl ?_ | skip); (all_goals (try simp only [underG, true_and, and_true, Bool.cond_true_left, Bool.cond_false_left, Bool.cond_true_right, Bool.cond_false_right, Bool.or_eq_true, Bool.and_eq_true, Bool.or_eq_false_iff, Bool.and_eq_false_iff, cond_true, cond_false, Bool.not_eq_eq_eq_not, Bool.not_true, Bool.not_false, decide_eq_true_eq, decide_eq_false_iff_not, Int.toNat_natCast, Nat.zero_add, Decidable.not_not, maxL] at *)); all_goals omega)))
  refine .inl ⟨_, _, _, uG (QC.fo (rd := []) (c_CloneIns b.ins) (.cons (.imm rfl) .nil) (.inl rfl) rfl), ?_⟩
  conv => whnf
  ((repeat' first | refine AWp_seq ?_ | (refine AWp_reg tok (by rfl) ?_; conv => whnf) | (refine AWp_any tok mix (by rfl) ?_; conv => whnf) | refine AWp_block ?_ | (refine AWp_skip ?_; conv => whnf) | (refine AWp_exit ?_; conv => whnf) | (refine AWp_ret ?_; conv => whnf) | refine AWp_cond rfl (fun hb => ?_) (fun hb => ?_) | (refine @And.intro (underG _ _ _ _) _ ?_ ?_; rotate_left; (conv => whnf); rotate_right) | (refine fun (bn : Bool) (hbn : (0 < _ → bn = _)) => ?_; conv => whnf)); all_goals (try ((first | refine underG_none ?_ | (refine underG_some ?_; intro hgd; conv at hgd => whnf)); (first | refine And.intro (srcObl_rs rfl ?_) ?_ | refine And.intro srcObl_sl ?_ | refine And.intro srcObl_nsl ?_ | skip); (all_goals (try simp only [underG, true_and, and_true, Bool.cond_true_left, Bool.cond_false_left, Bool.cond_true_right, Bool.cond_false_right, Bool.or_eq_true, Bool.and_eq_true, Bool.or_eq_false_iff, Bool.and_eq_false_iff, cond_true, cond_false, Bool.not_eq_eq_eq_not, Bool.not_true, Bool.not_false, decide_eq_true_eq, decide_eq_false_iff_not, Int.toNat_natCast, Nat.zero_add, Decidable.not_not, maxL] at *)); all_goals omega)))
  generalize hl : b.ins = l at hl0
  refine AWp_loop (fun i : Nat => mkS [(1, .bp (1, 0, 0) 0), (2, .bp (2, 0, 0) 0), (3, .mp (11, 0, 0)), (18, iv l.length), (19, iv i)]
      [((1, 0, 0), .row false 14 1 (fun _ => blkCells b (.rs (14, 0, 0) 7 0 l.length) b.fin)), ((2, 0, 0), .row true 14 1 (fun _ => encBlock default)), ((11, 0, 0), mpF (mapAt l i)), ((14, 0, 0), insRow (foldAt l i) l.length)])
    (fun i => i ≤ l.length) (fun i => l.length - i) 0 (Nat.zero_le _) ?_ ?_
  · refine Weak.list [((1, 0, 0), .old (1, 0, 0), .row false 14 1 (fun _ => blkCells b (.rs (14, 0, 0) 7 0 l.length) b.fin)), ((2, 0, 0), .old (2, 0, 0), .row true 14 1 (fun _ => encBlock default)), ((11, 0, 0), .old (11, 0, 0), mpF (mapAt l 0)), ((14, 0, 0), .old (14, 0, 0), insRow (foldAt l 0) l.length)] rfl (by rfl) ?_ ?_
    · ((repeat' first | exact TLes.nil | refine TLes.cons (TLe.eq rfl) ?_ | refine TLes.cons (TLe.nilL rfl ?_) ?_ | refine TLes.cons (TLe.rsL rfl ?_) ?_ | refine TLes.cons (TLe.int ?_) ?_ | refine TLes.cons (TLe.bool ?_) ?_); (all_goals first | rfl | ((try (simp only [underG, true_and, and_true, Bool.cond_true_left, Bool.cond_false_left, Bool.cond_true_right, Bool.cond_false_right, Bool.or_eq_true, Bool.and_eq_true, Bool.or_eq_false_iff, Bool.and_eq_false_iff, cond_true, cond_false, Bool.not_eq_eq_eq_not, Bool.not_true, Bool.not_false, decide_eq_true_eq, decide_eq_false_iff_not, Int.toNat_natCast, Nat.zero_add, Decidable.not_not, maxL] at *)); first | omega | (rw [wrap64 (by omega) (by omega)]; first | rfl | omega | (simp; done) | (simp; omega))) | skip))
    · refine .old rfl (BLe.rowW (Nat.le_refl _) (fun x hx => ?_)) (.old rfl (BLe.rowW (Nat.le_refl _) (fun x hx => ?_)) (.old rfl (BLe.refl _) (.old rfl (BLe.row rfl (fun x hx => ?_)) .nil)))
      · match x, hx with
        | 0, _ => (repeat' ((conv => arg 1; whnf); (conv => arg 2; whnf); first | refine Wks.cons .refl ?_ | refine Wks.cons (.nsl rfl) ?_ | exact Wks.nil))
      · match x, hx with
        | 0, _ => (repeat' ((conv => arg 1; whnf); (conv => arg 2; whnf); first | refine Wks.cons .refl ?_ | refine Wks.cons (.nsl rfl) ?_ | exact Wks.nil))
      · rw [show foldAt l 0 = l by simp [foldAt, foldIns]]; rfl
  intro i hi
  have hfl := foldAt_len l i
  ((repeat' first | refine AWp_seq ?_ | (refine AWp_reg tok (by rfl) ?_; conv => whnf) | (refine AWp_any tok mix (by rfl) ?_; conv => whnf) | refine AWp_block ?_ | (refine AWp_skip ?_; conv => whnf) | (refine AWp_exit ?_; conv => whnf) | (refine AWp_ret ?_; conv => whnf) | refine AWp_cond rfl (fun hb => ?_) (fun hb => ?_) | (refine @And.intro (underG _ _ _ _) _ ?_ ?_; rotate_left; (conv => whnf); rotate_right) | (refine fun (bn : Bool) (hbn : (0 < _ → bn = _)) => ?_; conv => whnf)); all_goals (try ((first | refine underG_none ?_ | (refine underG_some ?_; intro hgd; conv at hgd => whnf)); (first | refine And.intro (srcObl_rs rfl ?_) ?_ | refine And.intro srcObl_sl ?_ | refine And.intro srcObl_nsl ?_ | skip); (all_goals (try simp only [underG, true_and, and_true, Bool.cond_true_left, Bool.cond_false_left, Bool.cond_true_right, Bool.cond_false_right, Bool.or_eq_true, Bool.and_eq_true, Bool.or_eq_false_iff, Bool.and_eq_false_iff, cond_true, cond_false, Bool.not_eq_eq_eq_not, Bool.not_true, Bool.not_false, decide_eq_true_eq, decide_eq_false_iff_not, Int.toNat_natCast, Nat.zero_add, Decidable.not_not, maxL] at *)); all_goals omega)))
  · have hlt : i < l.length := by simp only [underG, true_and, and_true, Bool.cond_true_left, Bool.cond_false_left, Bool.cond_true_right, Bool.cond_false_right, Bool.or_eq_true, Bool.and_eq_true, Bool.or_eq_false_iff, Bool.and_eq_false_iff, cond_true, cond_false, Bool.not_eq_eq_eq_not, Bool.not_true, Bool.not_false, decide_eq_true_eq, decide_eq_false_iff_not, Int.toNat_natCast, Nat.zero_add, Decidable.not_not, maxL] at *; omega
    have hget := foldAt_get hlt
    have hget' : (foldAt l i).getD (0 + (i : Int).toNat) default = l.getD i default := by simpa using hget
    have hcall : ∀ y, y = l.getD i default → HC Try.prog [i0] 30 [(i0, mpF (mapAt l i))] [.mp i0, .agg (encIns y)] (.tup [.int .u16 (ansW (mapAt l i) (l.getD i default)).1, .bool (ansW (mapAt l i) (l.getD i default)).2]) [(i0, mpF (mapAt l i))] := fun y e => e ▸ c_answer _ _
    refine .inr ⟨_, _, _, uG (QH.of (dead := []) [(i0, .old (11, 0, 0), mpF (mapAt l i))] (hcall ((foldAt l i).getD (0 + (i : Int).toNat) default) (by simpa using hget)) rfl (.old rfl (BLe.refl _) .nil) (.cons (.eq rfl) (.cons (.eq rfl) .nil)) [(i0, (11, 0, 0))] rfl (.cons rfl (BLe.refl _) .nil) rfl), ?_⟩
    conv => whnf
    ((repeat' first | refine AWp_seq ?_ | (refine AWp_reg tok (by rfl) ?_; conv => whnf) | (refine AWp_any tok mix (by rfl) ?_; conv => whnf) | refine AWp_block ?_ | (refine AWp_skip ?_; conv => whnf) | (refine AWp_exit ?_; conv => whnf) | (refine AWp_ret ?_; conv => whnf) | (refine @And.intro (underG _ _ _ _) _ ?_ ?_; rotate_left; (conv => whnf); rotate_right) | (refine fun (bn : Bool) (hbn : (0 < _ → bn = _)) => ?_; conv => whnf)); all_goals (try ((first | refine underG_none ?_ | (refine underG_some ?_; intro hgd; conv at hgd => whnf)); (first | refine And.intro (srcObl_rs rfl ?_) ?_ | refine And.intro srcObl_sl ?_ | refine And.intro srcObl_nsl ?_ | skip); (all_goals (try simp only [underG, true_and, and_true, Bool.cond_true_left, Bool.cond_false_left, Bool.cond_true_right, Bool.cond_false_right, Bool.or_eq_true, Bool.and_eq_true, Bool.or_eq_false_iff, Bool.and_eq_false_iff, cond_true, cond_false, Bool.not_eq_eq_eq_not, Bool.not_true, Bool.not_false, decide_eq_true_eq, decide_eq_false_iff_not, Int.toNat_natCast, Nat.zero_add, Decidable.not_not, maxL] at *)); all_goals omega)))
    refine AWp_meet (fun _ : Unit => mkS [(1, .bp (1, 0, 0) 0), (2, .bp (2, 0, 0) 0), (3, .mp (11, 0, 0)), (5, .rp (14, 0, 0) 7 (0 + (i : Int).toNat) 0), (18, iv l.length), (19, iv i)]
      [((1, 0, 0), .row false 14 1 (fun _ => blkCells b (.rs (14, 0, 0) 7 0 l.length) b.fin)), ((2, 0, 0), .row true 14 1 (fun _ => encBlock default)), ((11, 0, 0), mpF (mapAt l i)), ((14, 0, 0), insRow (foldAt l (i + 1)) l.length)]) (fun _ => True) ?_ ?_
    · ((repeat' first | refine AWp_seq ?_ | (refine AWp_reg tok (by rfl) ?_; conv => whnf) | (refine AWp_any tok mix (by rfl) ?_; conv => whnf) | refine AWp_block ?_ | (refine AWp_skip ?_; conv => whnf) | (refine AWp_exit ?_; conv => whnf) | (refine AWp_ret ?_; conv => whnf) | refine AWp_cond rfl (fun hb => ?_) (fun hb => ?_) | (refine @And.intro (underG _ _ _ _) _ ?_ ?_; rotate_left; (conv => whnf); rotate_right) | (refine fun (bn : Bool) (hbn : (0 < _ → bn = _)) => ?_; conv => whnf)); all_goals (try ((first | refine underG_none ?_ | (refine underG_some ?_; intro hgd; conv at hgd => whnf)); (first | refine And.intro (srcObl_rs rfl ?_) ?_ | refine And.intro srcObl_sl ?_ | refine And.intro srcObl_nsl ?_ | skip); (all_goals (try simp only [underG, true_and, and_true, Bool.cond_true_left, Bool.cond_false_left, Bool.cond_true_right, Bool.cond_false_right, Bool.or_eq_true, Bool.and_eq_true, Bool.or_eq_false_iff, Bool.and_eq_false_iff, cond_true, cond_false, Bool.not_eq_eq_eq_not, Bool.not_true, Bool.not_false, decide_eq_true_eq, decide_eq_false_iff_not, Int.toNat_natCast, Nat.zero_add, Decidable.not_not, maxL] at *)); all_goals omega)))
      all_goals
        refine ⟨(), trivial, Weak.list [((1, 0, 0), .old (1, 0, 0), .row false 14 1 (fun _ => blkCells b (.rs (14, 0, 0) 7 0 l.length) b.fin)), ((2, 0, 0), .old (2, 0, 0), .row true 14 1 (fun _ => encBlock default)), ((11, 0, 0), .old (11, 0, 0), mpF (mapAt l i)), ((14, 0, 0), .old (14, 0, 0), insRow (foldAt l (i + 1)) l.length)] rfl (by rfl) ?_ ?_⟩
      · ((repeat' first | exact TLes.nil | refine TLes.cons (TLe.eq rfl) ?_ | refine TLes.cons (TLe.nilL rfl ?_) ?_ | refine TLes.cons (TLe.rsL rfl ?_) ?_ | refine TLes.cons (TLe.int ?_) ?_ | refine TLes.cons (TLe.bool ?_) ?_); (all_goals first | rfl | ((try (simp only [underG, true_and, and_true, Bool.cond_true_left, Bool.cond_false_left, Bool.cond_true_right, Bool.cond_false_right, Bool.or_eq_true, Bool.and_eq_true, Bool.or_eq_false_iff, Bool.and_eq_false_iff, cond_true, cond_false, Bool.not_eq_eq_eq_not, Bool.not_true, Bool.not_false, decide_eq_true_eq, decide_eq_false_iff_not, Int.toNat_natCast, Nat.zero_add, Decidable.not_not, maxL] at *)); first | omega | (rw [wrap64 (by omega) (by omega)]; first | rfl | omega | (simp; done) | (simp; omega))) | skip))
      · refine .old rfl (BLe.refl _) (.old rfl (BLe.refl _) (.old rfl (BLe.refl _) (.old rfl (BLe.rowW (Nat.le_refl _) (fun x hx => ?_)) .nil)))
        rw [foldAt_succ hlt]
        refine upd_rowW encIns default (foldAt l i) (by omega) (by simp) ?_ x
        rw [show foldY (mapAt l i) (l.getD i default) = _ from if_pos hb, hget']
        (repeat' ((conv => arg 1; whnf); (conv => arg 2; whnf); first | refine Wks.cons .refl ?_ | refine Wks.cons (.nsl rfl) ?_ | exact Wks.nil))
      · ((repeat' first | exact TLes.nil | refine TLes.cons (TLe.eq rfl) ?_ | refine TLes.cons (TLe.nilL rfl ?_) ?_ | refine TLes.cons (TLe.rsL rfl ?_) ?_ | refine TLes.cons (TLe.int ?_) ?_ | refine TLes.cons (TLe.bool ?_) ?_); (all_goals first | rfl | ((try (simp only [underG, true_and, and_true, Bool.cond_true_left, Bool.cond_false_left, Bool.cond_true_right, Bool.cond_false_right, Bool.or_eq_true, Bool.and_eq_true, Bool.or_eq_false_iff, Bool.and_eq_false_iff, cond_true, cond_false, Bool.not_eq_eq_eq_not, Bool.not_true, Bool.not_false, decide_eq_true_eq, decide_eq_false_iff_not, Int.toNat_natCast, Nat.zero_add, Decidable.not_not, maxL] at *)); first | omega | (rw [wrap64 (by omega) (by omega)]; first | rfl | omega | (simp; done) | (simp; omega))) | skip))
      · refine .old rfl (BLe.refl _) (.old rfl (BLe.refl _) (.old rfl (BLe.refl _) (.old rfl (BLe.rowW (Nat.le_refl _) (fun x hx => ?_)) .nil)))
        rw [foldAt_succ hlt, show foldY (mapAt l i) (l.getD i default) = _ from if_neg (by rw [hb]; simp)]
        refine Wks.of ?_
        show encIns ((foldAt l i).getD x default) = _
        rw [← hget, getD_set]
        split
        · rename_i h; rw [h.1]
        · rfl
    rintro _ _ τ hτ
    refine AWp_weak hτ ?_
    have hnote : ∀ y, y = (foldAt l (i + 1)).getD (0 + (i : Int).toNat) default → HC Try.prog [i0] 31 [(i0, mpF (mapAt l i))] [.mp i0, .agg (encIns y)] (.tup []) [(i0, mpF (mapAt l (i + 1)))] := fun y e => by
      have h := c_note (mapAt l i) y
      rw [show noteW (mapAt l i) y = mapAt l (i + 1) by rw [mapAt_succ hlt, e, show 0 + (i : Int).toNat = i by simp, foldAt_succ hlt, getD_set]; simp [hfl, hlt]] at h
      exact h
    conv => whnf
    refine AWp_reg tok (by rfl) ?_; conv => whnf
    refine @And.intro (underG _ _ _ _) _ ?_ ?_; rotate_left; (conv => whnf); rotate_right
    · ((first | refine underG_none ?_ | (refine underG_some ?_; intro hgd; conv at hgd => whnf)); (first | refine And.intro (srcObl_rs rfl ?_) ?_ | refine And.intro srcObl_sl ?_ | refine And.intro srcObl_nsl ?_ | skip); (all_goals (try simp only [underG, true_and, and_true, Bool.cond_true_left, Bool.cond_false_left, Bool.cond_true_right, Bool.cond_false_right, Bool.or_eq_true, Bool.and_eq_true, Bool.or_eq_false_iff, Bool.and_eq_false_iff, cond_true, cond_false, Bool.not_eq_eq_eq_not, Bool.not_true, Bool.not_false, decide_eq_true_eq, decide_eq_false_iff_not, Int.toNat_natCast, Nat.zero_add, Decidable.not_not, maxL] at *)); all_goals omega)
    refine .inr ⟨_, _, _, uG (QH.of (dead := []) [(i0, .old (11, 0, 0), mpF (mapAt l i))] (hnote _ rfl) rfl (.old rfl (BLe.refl _) .nil) (.cons (.eq rfl) (.cons (.eq rfl) .nil)) [(i0, (11, 0, 0))] rfl (.cons rfl (BLe.refl _) .nil) rfl), ?_⟩
    conv => whnf
    ((repeat' first | refine AWp_seq ?_ | (refine AWp_reg tok (by rfl) ?_; conv => whnf) | (refine AWp_any tok mix (by rfl) ?_; conv => whnf) | refine AWp_block ?_ | (refine AWp_skip ?_; conv => whnf) | (refine AWp_exit ?_; conv => whnf) | (refine AWp_ret ?_; conv => whnf) | refine AWp_cond rfl (fun hb => ?_) (fun hb => ?_) | (refine @And.intro (underG _ _ _ _) _ ?_ ?_; rotate_left; (conv => whnf); rotate_right) | (refine fun (bn : Bool) (hbn : (0 < _ → bn = _)) => ?_; conv => whnf)); all_goals (try ((first | refine underG_none ?_ | (refine underG_some ?_; intro hgd; conv at hgd => whnf)); (first | refine And.intro (srcObl_rs rfl ?_) ?_ | refine And.intro srcObl_sl ?_ | refine And.intro srcObl_nsl ?_ | skip); (all_goals (try simp only [underG, true_and, and_true, Bool.cond_true_left, Bool.cond_false_left, Bool.cond_true_right, Bool.cond_false_right, Bool.or_eq_true, Bool.and_eq_true, Bool.or_eq_false_iff, Bool.and_eq_false_iff, cond_true, cond_false, Bool.not_eq_eq_eq_not, Bool.not_true, Bool.not_false, decide_eq_true_eq, decide_eq_false_iff_not, Int.toNat_natCast, Nat.zero_add, Decidable.not_not, maxL] at *)); all_goals omega)))
    refine ⟨i + 1, hlt, by omega, Weak.list [((1, 0, 0), .old (1, 0, 0), .row false 14 1 (fun _ => blkCells b (.rs (14, 0, 0) 7 0 l.length) b.fin)), ((2, 0, 0), .old (2, 0, 0), .row true 14 1 (fun _ => encBlock default)), ((11, 0, 0), .old (11, 0, 0), mpF (mapAt l (i + 1))), ((14, 0, 0), .old (14, 0, 0), insRow (foldAt l (i + 1)) l.length)] rfl (by rfl) ?_ ?_⟩
    · ((repeat' first | exact TLes.nil | refine TLes.cons (TLe.eq rfl) ?_ | refine TLes.cons (TLe.nilL rfl ?_) ?_ | refine TLes.cons (TLe.rsL rfl ?_) ?_ | refine TLes.cons (TLe.int ?_) ?_ | refine TLes.cons (TLe.bool ?_) ?_); (all_goals first | rfl | ((try (simp only [underG, true_and, and_true, Bool.cond_true_left, Bool.cond_false_left, Bool.cond_true_right, Bool.cond_false_right, Bool.or_eq_true, Bool.and_eq_true, Bool.or_eq_false_iff, Bool.and_eq_false_iff, cond_true, cond_false, Bool.not_eq_eq_eq_not, Bool.not_true, Bool.not_false, decide_eq_true_eq, decide_eq_false_iff_not, Int.toNat_natCast, Nat.zero_add, Decidable.not_not, maxL] at *)); first | omega | (rw [wrap64 (by omega) (by omega)]; first | rfl | omega | (simp; done) | (simp; omega))) | skip))
    · exact .old rfl (BLe.refl _) (.old rfl (BLe.refl _) (.old rfl (BLe.refl _) (.old rfl (BLe.refl _) .nil)))
  all_goals
    have hil : i = l.length := by simp only [underG, true_and, and_true, Bool.cond_true_left, Bool.cond_false_left, Bool.cond_true_right, Bool.cond_false_right, Bool.or_eq_true, Bool.and_eq_true, Bool.or_eq_false_iff, Bool.and_eq_false_iff, cond_true, cond_false, Bool.not_eq_eq_eq_not, Bool.not_true, Bool.not_false, decide_eq_true_eq, decide_eq_false_iff_not, Int.toNat_natCast, Nat.zero_add, Decidable.not_not, maxL] at *; omega
    subst hil
    have hm : mapAt b.ins b.ins.length = (foldIns [] b.ins).2 := by simp [mapAt]
    have hf : foldAt b.ins b.ins.length = (foldIns [] b.ins).1 := by simp [foldAt]
    subst hl
  · rename_i hb0
    have hfin : (foldBlock b).fin = ⟨2, 0, 0, 0, [], b.fin.to, 0, 0⟩ := by
      show foldEnd (foldIns [] b.ins).2 b.fin = _
      rw [← hm]; unfold foldEnd
      cases h : mlook (mapAt b.ins b.ins.length) [b.fin.a] with
      | none => simp [h] at hb0
      | some v => simp [h] at hb0 hb ⊢; simp [*]
    refine ⟨_, rfl, Rel.agg (.cons (Rel.imm rfl) (.cons (Rel.imm rfl) (.cons (Rel.imm rfl) (.cons (Rel.imm rfl) (.cons (Rel.imm rfl) (.cons (Rel.row rfl rfl (by simp [foldBlock, foldIns_len]) (fun x _ => ?_)) ?_))))))⟩
    · show encIns ((foldAt b.ins b.ins.length).getD x default) = encIns ((foldIns [] b.ins).1.getD x default)
      rw [hf]
    · rw [hfin]
      exact .cons (Rel.imm rfl) (.cons (Rel.imm rfl) (.cons (Rel.imm rfl) (.cons (Rel.imm rfl) (.cons (Rel.nsl' rfl) (.cons (Rel.imm rfl) (.cons (Rel.imm rfl) (.cons (Rel.imm rfl) .nil)))))))
  · rename_i hb0
    have hfin : (foldBlock b).fin = ⟨2, 0, 0, 0, [], b.fin.els, 0, 0⟩ := by
      show foldEnd (foldIns [] b.ins).2 b.fin = _
      rw [← hm]; unfold foldEnd
      cases h : mlook (mapAt b.ins b.ins.length) [b.fin.a] with
      | none => simp [h] at hb0
      | some v => simp [h] at hb0 hb ⊢; simp [*]
    refine ⟨_, rfl, Rel.agg (.cons (Rel.imm rfl) (.cons (Rel.imm rfl) (.cons (Rel.imm rfl) (.cons (Rel.imm rfl) (.cons (Rel.imm rfl) (.cons (Rel.row rfl rfl (by simp [foldBlock, foldIns_len]) (fun x _ => ?_)) ?_))))))⟩
    · show encIns ((foldAt b.ins b.ins.length).getD x default) = encIns ((foldIns [] b.ins).1.getD x default)
      rw [hf]
    · rw [hfin]
      exact .cons (Rel.imm rfl) (.cons (Rel.imm rfl) (.cons (Rel.imm rfl) (.cons (Rel.imm rfl) (.cons (Rel.nsl' rfl) (.cons (Rel.imm rfl) (.cons (Rel.imm rfl) (.cons (Rel.imm rfl) .nil)))))))
  · have hfin : (foldBlock b).fin = b.fin := by
      show foldEnd (foldIns [] b.ins).2 b.fin = _
      rw [← hm]; unfold foldEnd
      cases h : mlook (mapAt b.ins b.ins.length) [b.fin.a] with
      | none => rfl
      | some v => simp [h] at hb ⊢; simp [*]
    refine ⟨_, rfl, Rel.agg (.cons (Rel.imm rfl) (.cons (Rel.imm rfl) (.cons (Rel.imm rfl) (.cons (Rel.imm rfl) (.cons (Rel.imm rfl) (.cons (Rel.row rfl rfl (by simp [foldBlock, foldIns_len]) (fun x _ => ?_)) ?_))))))⟩
    · show encIns ((foldAt b.ins b.ins.length).getD x default) = encIns ((foldIns [] b.ins).1.getD x default)
      rw [hf]
    · rw [hfin]
      exact .cons (Rel.imm rfl) (.cons (Rel.imm rfl) (.cons (Rel.imm rfl) (.cons (Rel.imm rfl) (.cons (Rel.imm rfl) (.cons (Rel.imm rfl) (.cons (Rel.imm rfl) (.cons (Rel.imm rfl) .nil)))))))
end Go.Proofs.Ytmkiahbnfmpieaa
namespace Go.Proofs.Ytmkiahbnfmpieaa
open Go Dv
set_option maxRecDepth 10000
set_option linter.unusedSimpArgs false
deriving instance DecidableEq for Ins
deriving instance DecidableEq for End
deriving instance DecidableEq for Pad
deriving instance DecidableEq for Block
theorem c_SameIns (x y : Ins) : FC Try.prog 12 [.agg (encIns x), .agg (encIns y)] (.bool (decide (x = y))) := by
  refine FC_intro tok Try.func12 rfl (by decide +kernel) (Nat.le_of_ble_eq_true rfl) ?_
  ((repeat' first | refine AWp_seq ?_ | (refine AWp_reg tok (by rfl) ?_; conv => whnf) | (refine AWp_any tok mix (by rfl) ?_; conv => whnf) | refine AWp_block ?_ | (refine AWp_skip ?_; conv => whnf) | (refine AWp_exit ?_; conv => whnf) | (refine AWp_ret ?_; conv => whnf) | refine AWp_cond rfl (fun hb => ?_) (fun hb => ?_) | (refine @And.intro (underG _ _ _ _) _ ?_ ?_; rotate_left; (conv => whnf); rotate_right) | (refine fun (bn : Bool) (hbn : (0 < _ → bn = _)) => ?_; conv => whnf)); all_goals (try ((first | refine underG_none ?_ | (refine underG_some ?_; intro hgd; conv at hgd => whnf)); (first | refine And.intro (srcObl_rs rfl ?_) ?_ | refine And.intro srcObl_sl ?_ | refine And.intro srcObl_nsl ?_ | skip); (all_goals (try simp only [underG, true_and, and_true, Bool.cond_true_left, Bool.cond_false_left, Bool.cond_true_right, Bool.cond_false_right, Bool.or_eq_true, Bool.and_eq_true, Bool.or_eq_false_iff, Bool.and_eq_false_iff, cond_true, cond_false, Bool.not_eq_eq_eq_not, Bool.not_true, Bool.not_false, decide_eq_true_eq, decide_eq_false_iff_not, Int.toNat_natCast, Nat.zero_add, Decidable.not_not, maxL] at *)); all_goals omega)))
  refine .inl ⟨_, _, _, uG (QC.fc (fc16 x.args y.args) rfl), ?_⟩
  conv => whnf
  ((repeat' first | refine AWp_seq ?_ | (refine AWp_reg tok (by rfl) ?_; conv => whnf) | (refine AWp_any tok mix (by rfl) ?_; conv => whnf) | refine AWp_block ?_ | (refine AWp_skip ?_; conv => whnf) | (refine AWp_exit ?_; conv => whnf) | (refine AWp_ret ?_; conv => whnf) | refine AWp_cond rfl (fun hb => ?_) (fun hb => ?_) | (refine @And.intro (underG _ _ _ _) _ ?_ ?_; rotate_left; (conv => whnf); rotate_right) | (refine fun (bn : Bool) (hbn : (0 < _ → bn = _)) => ?_; conv => whnf)); all_goals (try ((first | refine underG_none ?_ | (refine underG_some ?_; intro hgd; conv at hgd => whnf)); (first | refine And.intro (srcObl_rs rfl ?_) ?_ | refine And.intro srcObl_sl ?_ | refine And.intro srcObl_nsl ?_ | skip); (all_goals (try simp only [underG, true_and, and_true, Bool.cond_true_left, Bool.cond_false_left, Bool.cond_true_right, Bool.cond_false_right, Bool.or_eq_true, Bool.and_eq_true, Bool.or_eq_false_iff, Bool.and_eq_false_iff, cond_true, cond_false, Bool.not_eq_eq_eq_not, Bool.not_true, Bool.not_false, decide_eq_true_eq, decide_eq_false_iff_not, Int.toNat_natCast, Nat.zero_add, Decidable.not_not, maxL] at *)); all_goals omega)))
  refine ⟨_, rfl, Rel.bool ?_⟩
  obtain ⟨a1, a2, a3, a4, a5, a6, a7⟩ := x
  obtain ⟨b1, b2, b3, b4, b5, b6, b7⟩ := y
  rw [Bool.eq_iff_iff]
  simp [and_assoc]
theorem c_SameEnd (x y : End) : FC Try.prog 11 [.agg (encEnd x), .agg (encEnd y)] (.bool (decide (x = y))) := by
  refine FC_intro tok Try.func11 rfl (by decide +kernel) (Nat.le_of_ble_eq_true rfl) ?_
  ((repeat' first | refine AWp_seq ?_ | (refine AWp_reg tok (by rfl) ?_; conv => whnf) | (refine AWp_any tok mix (by rfl) ?_; conv => whnf) | refine AWp_block ?_ | (refine AWp_skip ?_; conv => whnf) | (refine AWp_exit ?_; conv => whnf) | (refine AWp_ret ?_; conv => whnf) | refine AWp_cond rfl (fun hb => ?_) (fun hb => ?_) | (refine @And.intro (underG _ _ _ _) _ ?_ ?_; rotate_left; (conv => whnf); rotate_right) | (refine fun (bn : Bool) (hbn : (0 < _ → bn = _)) => ?_; conv => whnf)); all_goals (try ((first | refine underG_none ?_ | (refine underG_some ?_; intro hgd; conv at hgd => whnf)); (first | refine And.intro (srcObl_rs rfl ?_) ?_ | refine And.intro srcObl_sl ?_ | refine And.intro srcObl_nsl ?_ | skip); (all_goals (try simp only [underG, true_and, and_true, Bool.cond_true_left, Bool.cond_false_left, Bool.cond_true_right, Bool.cond_false_right, Bool.or_eq_true, Bool.and_eq_true, Bool.or_eq_false_iff, Bool.and_eq_false_iff, cond_true, cond_false, Bool.not_eq_eq_eq_not, Bool.not_true, Bool.not_false, decide_eq_true_eq, decide_eq_false_iff_not, Int.toNat_natCast, Nat.zero_add, Decidable.not_not, maxL] at *)); all_goals omega)))
  refine .inl ⟨_, _, _, uG (QC.fc (fc16 x.args y.args) rfl), ?_⟩
  conv => whnf
  ((repeat' first | refine AWp_seq ?_ | (refine AWp_reg tok (by rfl) ?_; conv => whnf) | (refine AWp_any tok mix (by rfl) ?_; conv => whnf) | refine AWp_block ?_ | (refine AWp_skip ?_; conv => whnf) | (refine AWp_exit ?_; conv => whnf) | (refine AWp_ret ?_; conv => whnf) | refine AWp_cond rfl (fun hb => ?_) (fun hb => ?_) | (refine @And.intro (underG _ _ _ _) _ ?_ ?_; rotate_left; (conv => whnf); rotate_right) | (refine fun (bn : Bool) (hbn : (0 < _ → bn = _)) => ?_; conv => whnf)); all_goals (try ((first | refine underG_none ?_ | (refine underG_some ?_; intro hgd; conv at hgd => whnf)); (first | refine And.intro (srcObl_rs rfl ?_) ?_ | refine And.intro srcObl_sl ?_ | refine And.intro srcObl_nsl ?_ | skip); (all_goals (try simp only [underG, true_and, and_true, Bool.cond_true_left, Bool.cond_false_left, Bool.cond_true_right, Bool.cond_false_right, Bool.or_eq_true, Bool.and_eq_true, Bool.or_eq_false_iff, Bool.and_eq_false_iff, cond_true, cond_false, Bool.not_eq_eq_eq_not, Bool.not_true, Bool.not_false, decide_eq_true_eq, decide_eq_false_iff_not, Int.toNat_natCast, Nat.zero_add, Decidable.not_not, maxL] at *)); all_goals omega)))
  refine ⟨_, rfl, Rel.bool ?_⟩
  obtain ⟨a1, a2, a3, a4, a5, a6, a7, a8⟩ := x
  obtain ⟨b1, b2, b3, b4, b5, b6, b7, b8⟩ := y
  rw [Bool.eq_iff_iff]
  simp [and_assoc]
def awB : Block := { landing := false, pad := ⟨0, [], false, false⟩, ins := [⟨1, 0, 0, 0, 3, 0, []⟩, ⟨1, 1, 0, 0, 4, 0, []⟩, ⟨3, 2, 0, 1, 0, 0, []⟩], fin := ⟨3, 2, 0, 0, [], 5, 6, 0⟩ }
theorem c_awake16 : FC Try.prog 13 [] (.bool true) := by
  refine FC_intro tok Try.func13 rfl (by decide +kernel) (Nat.le_of_ble_eq_true rfl) ?_
  ((repeat' first | refine AWp_seq ?_ | (refine AWp_reg tok (by rfl) ?_; conv => whnf) | (refine AWp_any tok mix (by rfl) ?_; conv => whnf) | refine AWp_block ?_ | (refine AWp_skip ?_; conv => whnf) | (refine AWp_exit ?_; conv => whnf) | (refine AWp_ret ?_; conv => whnf) | refine AWp_cond rfl (fun hb => ?_) (fun hb => ?_) | (refine @And.intro (underG _ _ _ _) _ ?_ ?_; rotate_left; (conv => whnf); rotate_right) | (refine fun (bn : Bool) (hbn : (0 < _ → bn = _)) => ?_; conv => whnf)); all_goals (try ((first | refine underG_none ?_ | (refine underG_some ?_; intro hgd; conv at hgd => whnf)); (first | refine And.intro (srcObl_rs rfl ?_) ?_ | refine And.intro srcObl_sl ?_ | refine And.intro srcObl_nsl ?_ | skip); (all_goals (try simp only [underG, true_and, and_true, Bool.cond_true_left, Bool.cond_false_left, Bool.cond_true_right, Bool.cond_false_right, Bool.or_eq_true, Bool.and_eq_true, Bool.or_eq_false_iff, Bool.and_eq_false_iff, cond_true, cond_false, Bool.not_eq_eq_eq_not, Bool.not_true, Bool.not_false, decide_eq_true_eq, decide_eq_false_iff_not, Int.toNat_natCast, Nat.zero_add, Decidable.not_not, maxL] at *)); all_goals omega)))
  refine .inr ⟨_, _, _, uG (QH.give (args' := [.agg (encBlock awB)]) (rd := [freshD (some 5)]) (c_Block awB) (.cons (.agg (.cons (.imm rfl) (.cons (.imm rfl) (.cons .nsl (.cons (.imm rfl) (.cons (.imm rfl) (.cons (.rsW rfl (by simp) (Nat.le_refl _) rfl (fun x hx => ?_)) (.cons (.imm rfl) (.cons (.imm rfl) (.cons (.imm rfl) (.cons (.imm rfl) (.cons .nsl (.cons (.imm rfl) (.cons (.imm rfl) (.cons (.imm rfl) .nil))))))))))))))) .nil) rfl), ?_⟩
  · match x, hx with
    | 0, _ => (repeat' ((conv => arg 1; whnf); (conv => arg 2; whnf); first | refine Wks.cons .refl ?_ | refine Wks.cons (.nsl rfl) ?_ | exact Wks.nil))
    | 1, _ => (repeat' ((conv => arg 1; whnf); (conv => arg 2; whnf); first | refine Wks.cons .refl ?_ | refine Wks.cons (.nsl rfl) ?_ | exact Wks.nil))
    | 2, _ => (repeat' ((conv => arg 1; whnf); (conv => arg 2; whnf); first | refine Wks.cons .refl ?_ | refine Wks.cons (.nsl rfl) ?_ | exact Wks.nil))
  rw [show foldBlock awB = ⟨false, ⟨0, [], false, false⟩, [⟨1, 0, 0, 0, 3, 0, []⟩, ⟨1, 1, 0, 0, 4, 0, []⟩, ⟨1, 2, 0, 0, 7, 0, []⟩], ⟨2, 0, 0, 0, [], 5, 0, 0⟩⟩ from by rfl]
  conv => whnf
  ((repeat' first | refine AWp_seq ?_ | (refine AWp_reg tok (by rfl) ?_; conv => whnf) | (refine AWp_any tok mix (by rfl) ?_; conv => whnf) | refine AWp_block ?_ | (refine AWp_skip ?_; conv => whnf) | (refine AWp_exit ?_; conv => whnf) | (refine AWp_ret ?_; conv => whnf) | refine AWp_cond rfl (fun hb => ?_) (fun hb => ?_) | (refine @And.intro (underG _ _ _ _) _ ?_ ?_; rotate_left; (conv => whnf); rotate_right) | (refine fun (bn : Bool) (hbn : (0 < _ → bn = _)) => ?_; conv => whnf)); all_goals (try ((first | refine underG_none ?_ | (refine underG_some ?_; intro hgd; conv at hgd => whnf)); (first | refine And.intro (srcObl_rs rfl ?_) ?_ | refine And.intro srcObl_sl ?_ | refine And.intro srcObl_nsl ?_ | skip); (all_goals (try simp only [underG, true_and, and_true, Bool.cond_true_left, Bool.cond_false_left, Bool.cond_true_right, Bool.cond_false_right, Bool.or_eq_true, Bool.and_eq_true, Bool.or_eq_false_iff, Bool.and_eq_false_iff, cond_true, cond_false, Bool.not_eq_eq_eq_not, Bool.not_true, Bool.not_false, decide_eq_true_eq, decide_eq_false_iff_not, Int.toNat_natCast, Nat.zero_add, Decidable.not_not, maxL] at *)); all_goals omega)))
  exact ⟨_, rfl, Rel.bool rfl⟩
theorem fold_get : ∀ (l : List Ins) (m : List (List Int × Int)) (i : Nat), i < l.length → ∃ m', (foldIns m l).1.getD i default = foldY m' (l.getD i default)
  | [], _, i, h => by simp at h
  | x :: r, m, 0, _ => ⟨m, rfl⟩
  | x :: r, m, i + 1, h => fold_get r _ i (by simpa using h)
theorem ansW_pure {m : List (List Int × Int)} {x : Ins} (h : (ansW m x).2 = true) : 2 ≤ x.op ∧ x.op ≤ 8 := by
  unfold ansW at h
  cases h1 : mlook m [x.a] with
  | none => simp [h1] at h
  | some a =>
    simp only [h1] at h
    split at h
    · rename_i hp
      simp only [pureO] at hp
      cases h2 : decide (2 ≤ x.op) with
      | true => rw [h2] at hp; simp at hp h2; exact ⟨h2, hp⟩
      | false => rw [h2] at hp; simp at hp
    · simp at h
theorem foldY_sets (m : List (List Int × Int)) (x : Ins) : foldY m x = x ∨ ((foldY m x).op = 1 ∧ (foldY m x).dst = x.dst ∧ 2 ≤ x.op ∧ x.op ≤ 8) := by
  unfold foldY
  split
  · rename_i h; exact .inr ⟨rfl, rfl, ansW_pure h⟩
  · exact .inl rfl
theorem fold_sets (b : Block) {i : Nat} (h : i < b.ins.length) : (foldBlock b).ins.getD i default = b.ins.getD i default ∨
    (((foldBlock b).ins.getD i default).op = 1 ∧ ((foldBlock b).ins.getD i default).dst = (b.ins.getD i default).dst ∧ 2 ≤ (b.ins.getD i default).op ∧ (b.ins.getD i default).op ≤ 8) := by
  obtain ⟨m, e⟩ := fold_get b.ins [] i h
  show (foldIns [] b.ins).1.getD i default = _ ∨ _
  have := foldY_sets m (b.ins.getD i default)
  rw [← e] at this
  exact this
theorem fold_fin (b : Block) : (foldBlock b).fin = b.fin ∨ (b.fin.kind = 3 ∧ (foldBlock b).fin.kind = 2 ∧ ((foldBlock b).fin.to = b.fin.to ∨ (foldBlock b).fin.to = b.fin.els)) := by
  show foldEnd (foldIns [] b.ins).2 b.fin = _ ∨ (_ ∧ (foldEnd (foldIns [] b.ins).2 b.fin).kind = _ ∧ ((foldEnd (foldIns [] b.ins).2 b.fin).to = _ ∨ (foldEnd (foldIns [] b.ins).2 b.fin).to = _))
  unfold foldEnd
  cases mlook (foldIns [] b.ins).2 [b.fin.a] with
  | none => exact .inl rfl
  | some v =>
    simp only []
    split
    · rename_i h; refine .inr ⟨h, rfl, ?_⟩
      simp only []
      split
      · exact .inr rfl
      · exact .inl rfl
    · exact .inl rfl
theorem c_FoldSets (b : Block) : FC Try.prog 4 [.agg (encBlock b)] (.bool true) := by
  refine FC_intro tok Try.func4 rfl (by decide +kernel) (Nat.le_of_ble_eq_true rfl) ?_
  refine AWp_facts 0 (fun hl => ?_)
  have hl0 : b.ins.length ≤ maxL := hl.2.2.2.2.2.1.1
  ((repeat' first | refine AWp_seq ?_ | (refine AWp_reg tok (by rfl) ?_; conv => whnf) | (refine AWp_any tok mix (by rfl) ?_; conv => whnf) | refine AWp_block ?_ | (refine AWp_skip ?_; conv => whnf) | (refine AWp_exit ?_; conv => whnf) | (refine AWp_ret ?_; conv => whnf) | refine AWp_cond rfl (fun hb => ?_) (fun hb => ?_) | (refine @And.intro (underG _ _ _ _) _ ?_ ?_; rotate_left; (conv => whnf); rotate_right) | (refine fun (bn : Bool) (hbn : (0 < _ → bn = _)) => ?_; conv => whnf)); all_goals (try ((first | refine underG_none ?_ | (refine underG_some ?_; intro hgd; conv at hgd => whnf)); (first | refine And.intro (srcObl_rs rfl ?_) ?_ | refine And.intro srcObl_sl ?_ | refine And.intro srcObl_nsl ?_ | skip); (all_goals (try simp only [underG, true_and, and_true, Bool.cond_true_left, Bool.cond_false_left, Bool.cond_true_right, Bool.cond_false_right, Bool.or_eq_true, Bool.and_eq_true, Bool.or_eq_false_iff, Bool.and_eq_false_iff, cond_true, cond_false, Bool.not_eq_eq_eq_not, Bool.not_true, Bool.not_false, decide_eq_true_eq, decide_eq_false_iff_not, Int.toNat_natCast, Nat.zero_add, Decidable.not_not, maxL] at *)); all_goals omega)))
  refine .inl ⟨_, _, _, uG (QC.fc c_awake16 rfl), ?_⟩
  conv => whnf
  ((repeat' first | refine AWp_seq ?_ | (refine AWp_reg tok (by rfl) ?_; conv => whnf) | (refine AWp_any tok mix (by rfl) ?_; conv => whnf) | refine AWp_block ?_ | (refine AWp_skip ?_; conv => whnf) | (refine AWp_exit ?_; conv => whnf) | (refine AWp_ret ?_; conv => whnf) | refine AWp_cond rfl (fun hb => ?_) (fun hb => ?_) | (refine @And.intro (underG _ _ _ _) _ ?_ ?_; rotate_left; (conv => whnf); rotate_right) | (refine fun (bn : Bool) (hbn : (0 < _ → bn = _)) => ?_; conv => whnf)); all_goals (try ((first | refine underG_none ?_ | (refine underG_some ?_; intro hgd; conv at hgd => whnf)); (first | refine And.intro (srcObl_rs rfl ?_) ?_ | refine And.intro srcObl_sl ?_ | refine And.intro srcObl_nsl ?_ | skip); (all_goals (try simp only [underG, true_and, and_true, Bool.cond_true_left, Bool.cond_false_left, Bool.cond_true_right, Bool.cond_false_right, Bool.or_eq_true, Bool.and_eq_true, Bool.or_eq_false_iff, Bool.and_eq_false_iff, cond_true, cond_false, Bool.not_eq_eq_eq_not, Bool.not_true, Bool.not_false, decide_eq_true_eq, decide_eq_false_iff_not, Int.toNat_natCast, Nat.zero_add, Decidable.not_not, maxL] at *)); all_goals omega)))
  · cases hb
  · exact ⟨_, rfl, Rel.bool rfl⟩
  have hz : b.ins.length ≤ 200 := by simp only [underG, true_and, and_true, Bool.cond_true_left, Bool.cond_false_left, Bool.cond_true_right, Bool.cond_false_right, Bool.or_eq_true, Bool.and_eq_true, Bool.or_eq_false_iff, Bool.and_eq_false_iff, cond_true, cond_false, Bool.not_eq_eq_eq_not, Bool.not_true, Bool.not_false, decide_eq_true_eq, decide_eq_false_iff_not, Int.toNat_natCast, Nat.zero_add, Decidable.not_not, maxL] at *; omega
  refine .inl ⟨_, _, _, uG (QC.fc (c_Block b) rfl), ?_⟩
  conv => whnf
  ((repeat' first | refine AWp_seq ?_ | (refine AWp_reg tok (by rfl) ?_; conv => whnf) | (refine AWp_any tok mix (by rfl) ?_; conv => whnf) | refine AWp_block ?_ | (refine AWp_skip ?_; conv => whnf) | (refine AWp_exit ?_; conv => whnf) | (refine AWp_ret ?_; conv => whnf) | refine AWp_cond rfl (fun hb => ?_) (fun hb => ?_) | (refine @And.intro (underG _ _ _ _) _ ?_ ?_; rotate_left; (conv => whnf); rotate_right) | (refine fun (bn : Bool) (hbn : (0 < _ → bn = _)) => ?_; conv => whnf)); all_goals (try ((first | refine underG_none ?_ | (refine underG_some ?_; intro hgd; conv at hgd => whnf)); (first | refine And.intro (srcObl_rs rfl ?_) ?_ | refine And.intro srcObl_sl ?_ | refine And.intro srcObl_nsl ?_ | skip); (all_goals (try simp only [underG, true_and, and_true, Bool.cond_true_left, Bool.cond_false_left, Bool.cond_true_right, Bool.cond_false_right, Bool.or_eq_true, Bool.and_eq_true, Bool.or_eq_false_iff, Bool.and_eq_false_iff, cond_true, cond_false, Bool.not_eq_eq_eq_not, Bool.not_true, Bool.not_false, decide_eq_true_eq, decide_eq_false_iff_not, Int.toNat_natCast, Nat.zero_add, Decidable.not_not, maxL] at *)); all_goals omega)))
  all_goals have hcl : (foldBlock b).ins.length = b.ins.length := foldIns_len _ _
  all_goals have hset := fun i => @fold_sets b i
  all_goals have hfin := fold_fin b
  all_goals generalize foldBlock b = c at hb hcl hset hfin ⊢
  · exfalso; simp only [underG, true_and, and_true, Bool.cond_true_left, Bool.cond_false_left, Bool.cond_true_right, Bool.cond_false_right, Bool.or_eq_true, Bool.and_eq_true, Bool.or_eq_false_iff, Bool.and_eq_false_iff, cond_true, cond_false, Bool.not_eq_eq_eq_not, Bool.not_true, Bool.not_false, decide_eq_true_eq, decide_eq_false_iff_not, Int.toNat_natCast, Nat.zero_add, Decidable.not_not, maxL] at *; omega
  refine AWp_loop (fun i : Nat => mkS [(1, .bp (1, 0, 0) 0), (3, .bp (3, 0, 0) 0), (4, iv i)]
      [((1, 0, 0), boxed (encBlock b)), ((3, 0, 0), .row true 14 1 (fun _ => encBlock c))])
    (fun i => i ≤ b.ins.length) (fun i => b.ins.length - i) 0 (Nat.zero_le _) ?_ ?_
  · refine Weak.list [((1, 0, 0), .old (1, 0, 0), boxed (encBlock b)), ((3, 0, 0), .old (3, 0, 0), .row true 14 1 (fun _ => encBlock c))] rfl (by rfl) ?_ ?_
    · ((repeat' first | exact TLes.nil | refine TLes.cons (TLe.eq rfl) ?_ | refine TLes.cons (TLe.nilL rfl ?_) ?_ | refine TLes.cons (TLe.rsL rfl ?_) ?_ | refine TLes.cons (TLe.int ?_) ?_ | refine TLes.cons (TLe.bool ?_) ?_); (all_goals first | rfl | ((try (simp only [underG, true_and, and_true, Bool.cond_true_left, Bool.cond_false_left, Bool.cond_true_right, Bool.cond_false_right, Bool.or_eq_true, Bool.and_eq_true, Bool.or_eq_false_iff, Bool.and_eq_false_iff, cond_true, cond_false, Bool.not_eq_eq_eq_not, Bool.not_true, Bool.not_false, decide_eq_true_eq, decide_eq_false_iff_not, Int.toNat_natCast, Nat.zero_add, Decidable.not_not, maxL] at *)); first | omega | (rw [wrap64 (by omega) (by omega)]; first | rfl | omega | (simp; done) | (simp; omega))) | skip))
    · refine .old rfl (BLe.refl _) (.old rfl (BLe.rowW (Nat.le_refl _) (fun x hx => ?_)) .nil)
      match x, hx with
      | 0, _ => (repeat' ((conv => arg 1; whnf); (conv => arg 2; whnf); first | refine Wks.cons .refl ?_ | refine Wks.cons (.nsl rfl) ?_ | exact Wks.nil))
  intro i hi
  ((repeat' first | refine AWp_seq ?_ | (refine AWp_reg tok (by rfl) ?_; conv => whnf) | (refine AWp_any tok mix (by rfl) ?_; conv => whnf) | refine AWp_block ?_ | (refine AWp_skip ?_; conv => whnf) | (refine AWp_exit ?_; conv => whnf) | (refine AWp_ret ?_; conv => whnf) | refine AWp_cond rfl (fun hb => ?_) (fun hb => ?_) | (refine @And.intro (underG _ _ _ _) _ ?_ ?_; rotate_left; (conv => whnf); rotate_right) | (refine fun (bn : Bool) (hbn : (0 < _ → bn = _)) => ?_; conv => whnf)); all_goals (try ((first | refine underG_none ?_ | (refine underG_some ?_; intro hgd; conv at hgd => whnf)); (first | refine And.intro (srcObl_rs rfl ?_) ?_ | refine And.intro srcObl_sl ?_ | refine And.intro srcObl_nsl ?_ | skip); (all_goals (try simp only [underG, true_and, and_true, Bool.cond_true_left, Bool.cond_false_left, Bool.cond_true_right, Bool.cond_false_right, Bool.or_eq_true, Bool.and_eq_true, Bool.or_eq_false_iff, Bool.and_eq_false_iff, cond_true, cond_false, Bool.not_eq_eq_eq_not, Bool.not_true, Bool.not_false, decide_eq_true_eq, decide_eq_false_iff_not, Int.toNat_natCast, Nat.zero_add, Decidable.not_not, maxL] at *)); all_goals omega)))
  · have hlt : i < b.ins.length := by simp only [underG, true_and, and_true, Bool.cond_true_left, Bool.cond_false_left, Bool.cond_true_right, Bool.cond_false_right, Bool.or_eq_true, Bool.and_eq_true, Bool.or_eq_false_iff, Bool.and_eq_false_iff, cond_true, cond_false, Bool.not_eq_eq_eq_not, Bool.not_true, Bool.not_false, decide_eq_true_eq, decide_eq_false_iff_not, Int.toNat_natCast, Nat.zero_add, Decidable.not_not, maxL] at *; omega
    have hs := hset i hlt
    generalize hx : b.ins.getD i default = x at hs
    generalize hy : c.ins.getD i default = y at hs
    have hcall : ∀ x' y', x' = x → y' = y → FC Try.prog 12 [.agg (encIns x'), .agg (encIns y')] (.bool (decide (x = y))) := fun x' y' e1 e2 => by rw [e1, e2]; exact c_SameIns x y
    refine .inl ⟨_, _, _, uG (QC.fc (hcall (b.ins.getD (i : Int).toNat default) (c.ins.getD (i : Int).toNat default) (by simpa using hx) (by simpa using hy)) rfl), ?_⟩
    conv => whnf
    ((repeat' first | refine AWp_seq ?_ | (refine AWp_reg tok (by rfl) ?_; conv => whnf) | (refine AWp_any tok mix (by rfl) ?_; conv => whnf) | refine AWp_block ?_ | (refine AWp_skip ?_; conv => whnf) | (refine AWp_exit ?_; conv => whnf) | (refine AWp_ret ?_; conv => whnf) | refine AWp_cond rfl (fun hb => ?_) (fun hb => ?_) | (refine @And.intro (underG _ _ _ _) _ ?_ ?_; rotate_left; (conv => whnf); rotate_right) | (refine fun (bn : Bool) (hbn : (0 < _ → bn = _)) => ?_; conv => whnf)); all_goals (try ((first | refine underG_none ?_ | (refine underG_some ?_; intro hgd; conv at hgd => whnf)); (first | refine And.intro (srcObl_rs rfl ?_) ?_ | refine And.intro srcObl_sl ?_ | refine And.intro srcObl_nsl ?_ | skip); (all_goals (try simp only [underG, true_and, and_true, Bool.cond_true_left, Bool.cond_false_left, Bool.cond_true_right, Bool.cond_false_right, Bool.or_eq_true, Bool.and_eq_true, Bool.or_eq_false_iff, Bool.and_eq_false_iff, cond_true, cond_false, Bool.not_eq_eq_eq_not, Bool.not_true, Bool.not_false, decide_eq_true_eq, decide_eq_false_iff_not, Int.toNat_natCast, Nat.zero_add, Decidable.not_not, maxL] at *)); all_goals omega)))
    · exfalso
      rw [show b.ins.getD (i : Int).toNat default = x by simpa using hx, show c.ins.getD (i : Int).toNat default = y by simpa using hy] at hb
      rcases hs with h | ⟨h1, h2, h3, h4⟩
      · rw [h] at hb; simp at hb
      · simp [h1, h2] at hb; omega
    · refine ⟨i + 1, hlt, by omega, Weak.list [((1, 0, 0), .old (1, 0, 0), boxed (encBlock b)), ((3, 0, 0), .old (3, 0, 0), .row true 14 1 (fun _ => encBlock c))] rfl (by rfl) ?_ ?_⟩
      · ((repeat' first | exact TLes.nil | refine TLes.cons (TLe.eq rfl) ?_ | refine TLes.cons (TLe.nilL rfl ?_) ?_ | refine TLes.cons (TLe.rsL rfl ?_) ?_ | refine TLes.cons (TLe.int ?_) ?_ | refine TLes.cons (TLe.bool ?_) ?_); (all_goals first | rfl | ((try (simp only [underG, true_and, and_true, Bool.cond_true_left, Bool.cond_false_left, Bool.cond_true_right, Bool.cond_false_right, Bool.or_eq_true, Bool.and_eq_true, Bool.or_eq_false_iff, Bool.and_eq_false_iff, cond_true, cond_false, Bool.not_eq_eq_eq_not, Bool.not_true, Bool.not_false, decide_eq_true_eq, decide_eq_false_iff_not, Int.toNat_natCast, Nat.zero_add, Decidable.not_not, maxL] at *)); first | omega | (rw [wrap64 (by omega) (by omega)]; first | rfl | omega | (simp; done) | (simp; omega))) | skip))
      · exact .old rfl (BLe.refl _) (.old rfl (BLe.refl _) .nil)
  · refine .inl ⟨_, _, _, uG (QC.fc (c_SameEnd b.fin c.fin) rfl), ?_⟩
    conv => whnf
    ((repeat' first | refine AWp_seq ?_ | (refine AWp_reg tok (by rfl) ?_; conv => whnf) | (refine AWp_any tok mix (by rfl) ?_; conv => whnf) | refine AWp_block ?_ | (refine AWp_skip ?_; conv => whnf) | (refine AWp_exit ?_; conv => whnf) | (refine AWp_ret ?_; conv => whnf) | refine AWp_cond rfl (fun hb => ?_) (fun hb => ?_) | (refine @And.intro (underG _ _ _ _) _ ?_ ?_; rotate_left; (conv => whnf); rotate_right) | (refine fun (bn : Bool) (hbn : (0 < _ → bn = _)) => ?_; conv => whnf)); all_goals (try ((first | refine underG_none ?_ | (refine underG_some ?_; intro hgd; conv at hgd => whnf)); (first | refine And.intro (srcObl_rs rfl ?_) ?_ | refine And.intro srcObl_sl ?_ | refine And.intro srcObl_nsl ?_ | skip); (all_goals (try simp only [underG, true_and, and_true, Bool.cond_true_left, Bool.cond_false_left, Bool.cond_true_right, Bool.cond_false_right, Bool.or_eq_true, Bool.and_eq_true, Bool.or_eq_false_iff, Bool.and_eq_false_iff, cond_true, cond_false, Bool.not_eq_eq_eq_not, Bool.not_true, Bool.not_false, decide_eq_true_eq, decide_eq_false_iff_not, Int.toNat_natCast, Nat.zero_add, Decidable.not_not, maxL] at *)); all_goals omega)))
    · exact ⟨_, rfl, Rel.bool rfl⟩
    · refine ⟨_, rfl, Rel.bool ?_⟩
      rcases hfin with h | ⟨h1, h2, h3⟩
      · rw [h] at hb; simp at hb
      · rw [Bool.eq_iff_iff]; simp [h1, h2]; exact h3
end Go.Proofs.Ytmkiahbnfmpieaa
namespace Go.Proofs.Ytmkiahbnfmpieaa
open Go Dv
set_option maxRecDepth 10000
set_option linter.unusedSimpArgs false
structure Deed where
  op : Int
  a : Int
  b : Int
deriving DecidableEq, Inhabited
def Deed.l (d : Deed) : List Int := [d.op, d.a, d.b]
def ofD (x : Ins) : Deed := if turnsO x.op = true ∧ x.b < x.a then ⟨x.op, x.b, x.a⟩ else ⟨x.op, x.a, x.b⟩
theorem c_of (x : Ins) : FC Try.prog 28 [.agg (encIns x)] (.tup [.agg [iv (ofD x).op, iv (ofD x).a, iv (ofD x).b], .bool (twoO x.op)]) := by
  refine FC_intro tok Try.func28 rfl (by decide +kernel) (Nat.le_of_ble_eq_true rfl) ?_
  ((repeat' first | refine AWp_seq ?_ | (refine AWp_reg tok (by rfl) ?_; conv => whnf) | (refine AWp_any tok mix (by rfl) ?_; conv => whnf) | refine AWp_block ?_ | (refine AWp_skip ?_; conv => whnf) | (refine AWp_exit ?_; conv => whnf) | (refine AWp_ret ?_; conv => whnf) | refine AWp_cond rfl (fun hb => ?_) (fun hb => ?_) | (refine @And.intro (underG _ _ _ _) _ ?_ ?_; rotate_left; (conv => whnf); rotate_right) | (refine fun (bn : Bool) (hbn : (0 < _ → bn = _)) => ?_; conv => whnf)); all_goals (try ((first | refine underG_none ?_ | (refine underG_some ?_; intro hgd; conv at hgd => whnf)); (first | refine And.intro (srcObl_rs rfl ?_) ?_ | refine And.intro srcObl_sl ?_ | refine And.intro srcObl_nsl ?_ | skip); (all_goals (try simp only [underG, true_and, and_true, Bool.cond_true_left, Bool.cond_false_left, Bool.cond_true_right, Bool.cond_false_right, Bool.or_eq_true, Bool.and_eq_true, Bool.or_eq_false_iff, Bool.and_eq_false_iff, cond_true, cond_false, Bool.not_eq_eq_eq_not, Bool.not_true, Bool.not_false, decide_eq_true_eq, decide_eq_false_iff_not, Int.toNat_natCast, Nat.zero_add, Decidable.not_not, maxL] at *)); all_goals omega)))
  refine .inl ⟨_, _, _, uG (QC.fc (c_Turns x.op) rfl), ?_⟩
  conv => whnf
  ((repeat' first | refine AWp_seq ?_ | (refine AWp_reg tok (by rfl) ?_; conv => whnf) | (refine AWp_any tok mix (by rfl) ?_; conv => whnf) | refine AWp_block ?_ | (refine AWp_skip ?_; conv => whnf) | (refine AWp_exit ?_; conv => whnf) | (refine AWp_ret ?_; conv => whnf) | refine AWp_cond rfl (fun hb => ?_) (fun hb => ?_) | (refine @And.intro (underG _ _ _ _) _ ?_ ?_; rotate_left; (conv => whnf); rotate_right) | (refine fun (bn : Bool) (hbn : (0 < _ → bn = _)) => ?_; conv => whnf)); all_goals (try ((first | refine underG_none ?_ | (refine underG_some ?_; intro hgd; conv at hgd => whnf)); (first | refine And.intro (srcObl_rs rfl ?_) ?_ | refine And.intro srcObl_sl ?_ | refine And.intro srcObl_nsl ?_ | skip); (all_goals (try simp only [underG, true_and, and_true, Bool.cond_true_left, Bool.cond_false_left, Bool.cond_true_right, Bool.cond_false_right, Bool.or_eq_true, Bool.and_eq_true, Bool.or_eq_false_iff, Bool.and_eq_false_iff, cond_true, cond_false, Bool.not_eq_eq_eq_not, Bool.not_true, Bool.not_false, decide_eq_true_eq, decide_eq_false_iff_not, Int.toNat_natCast, Nat.zero_add, Decidable.not_not, maxL] at *)); all_goals omega)))
  · refine .inl ⟨_, _, _, uG (QC.fc (c_Two x.op) rfl), ?_⟩
    conv => whnf
    ((repeat' first | refine AWp_seq ?_ | (refine AWp_reg tok (by rfl) ?_; conv => whnf) | (refine AWp_any tok mix (by rfl) ?_; conv => whnf) | refine AWp_block ?_ | (refine AWp_skip ?_; conv => whnf) | (refine AWp_exit ?_; conv => whnf) | (refine AWp_ret ?_; conv => whnf) | refine AWp_cond rfl (fun hb => ?_) (fun hb => ?_) | (refine @And.intro (underG _ _ _ _) _ ?_ ?_; rotate_left; (conv => whnf); rotate_right) | (refine fun (bn : Bool) (hbn : (0 < _ → bn = _)) => ?_; conv => whnf)); all_goals (try ((first | refine underG_none ?_ | (refine underG_some ?_; intro hgd; conv at hgd => whnf)); (first | refine And.intro (srcObl_rs rfl ?_) ?_ | refine And.intro srcObl_sl ?_ | refine And.intro srcObl_nsl ?_ | skip); (all_goals (try simp only [underG, true_and, and_true, Bool.cond_true_left, Bool.cond_false_left, Bool.cond_true_right, Bool.cond_false_right, Bool.or_eq_true, Bool.and_eq_true, Bool.or_eq_false_iff, Bool.and_eq_false_iff, cond_true, cond_false, Bool.not_eq_eq_eq_not, Bool.not_true, Bool.not_false, decide_eq_true_eq, decide_eq_false_iff_not, Int.toNat_natCast, Nat.zero_add, Decidable.not_not, maxL] at *)); all_goals omega)))
    have ho : ofD x = ⟨x.op, x.b, x.a⟩ := if_pos (by simp only [underG, true_and, and_true, Bool.cond_true_left, Bool.cond_false_left, Bool.cond_true_right, Bool.cond_false_right, Bool.or_eq_true, Bool.and_eq_true, Bool.or_eq_false_iff, Bool.and_eq_false_iff, cond_true, cond_false, Bool.not_eq_eq_eq_not, Bool.not_true, Bool.not_false, decide_eq_true_eq, decide_eq_false_iff_not, Int.toNat_natCast, Nat.zero_add, Decidable.not_not, maxL] at *; exact hb)
    rw [ho]
    exact ⟨_, rfl, Rel.tup (.cons (Rel.agg (.cons (Rel.imm rfl) (.cons (Rel.imm rfl) (.cons (Rel.imm rfl) .nil)))) (.cons (Rel.imm rfl) .nil))⟩
  · refine .inl ⟨_, _, _, uG (QC.fc (c_Two x.op) rfl), ?_⟩
    conv => whnf
    ((repeat' first | refine AWp_seq ?_ | (refine AWp_reg tok (by rfl) ?_; conv => whnf) | (refine AWp_any tok mix (by rfl) ?_; conv => whnf) | refine AWp_block ?_ | (refine AWp_skip ?_; conv => whnf) | (refine AWp_exit ?_; conv => whnf) | (refine AWp_ret ?_; conv => whnf) | refine AWp_cond rfl (fun hb => ?_) (fun hb => ?_) | (refine @And.intro (underG _ _ _ _) _ ?_ ?_; rotate_left; (conv => whnf); rotate_right) | (refine fun (bn : Bool) (hbn : (0 < _ → bn = _)) => ?_; conv => whnf)); all_goals (try ((first | refine underG_none ?_ | (refine underG_some ?_; intro hgd; conv at hgd => whnf)); (first | refine And.intro (srcObl_rs rfl ?_) ?_ | refine And.intro srcObl_sl ?_ | refine And.intro srcObl_nsl ?_ | skip); (all_goals (try simp only [underG, true_and, and_true, Bool.cond_true_left, Bool.cond_false_left, Bool.cond_true_right, Bool.cond_false_right, Bool.or_eq_true, Bool.and_eq_true, Bool.or_eq_false_iff, Bool.and_eq_false_iff, cond_true, cond_false, Bool.not_eq_eq_eq_not, Bool.not_true, Bool.not_false, decide_eq_true_eq, decide_eq_false_iff_not, Int.toNat_natCast, Nat.zero_add, Decidable.not_not, maxL] at *)); all_goals omega)))
    have ho : ofD x = ⟨x.op, x.a, x.b⟩ := if_neg (by intro h; rw [h.1] at hb; simp at hb; omega)
    rw [ho]
    exact ⟨_, rfl, Rel.tup (.cons (Rel.agg (.cons (Rel.imm rfl) (.cons (Rel.imm rfl) (.cons (Rel.imm rfl) .nil)))) (.cons (Rel.imm rfl) .nil))⟩
abbrev κS : MK := ⟨true, 3, .i64, .i64⟩
abbrev mpS (m : List (List Int × Int)) : ABlock := .map (.assoc κS m)
def hit (p : Int) (q : List Int × Int) : Bool := decide (q.1.getD 1 0 = p) || decide (q.1.getD 2 0 = p) || decide (q.2 = p)
def forgetM (m : List (List Int × Int)) (p : Int) : List (List Int × Int) := m.filter fun q => !hit p q
theorem mdel_filter (k : List Int) : ∀ {m : List (List Int × Int)}, (m.map (·.1)).Nodup → mdel m k = m.filter fun q => !decide (q.1 = k)
  | [], _ => rfl
  | (k', v') :: r, h => by
      simp only [List.map_cons, List.nodup_cons] at h
      simp only [mdel]
      split
      · rename_i e; subst e
        rw [List.filter_cons_of_neg (by simp)]
        symm
        refine List.filter_eq_self.2 (fun q hq => ?_)
        simp only [Bool.not_eq_true', decide_eq_false_iff_not]
        intro e; exact h.1 (e ▸ List.mem_map.2 ⟨q, hq, rfl⟩)
      · rename_i e
        rw [List.filter_cons_of_pos (by simpa using e), mdel_filter k h.2]
theorem mem_key {m : List (List Int × Int)} (h : (m.map (·.1)).Nodup) {k : List Int} {v v' : Int} (h1 : (k, v) ∈ m) (h2 : (k, v') ∈ m) : v = v' := by
  induction m with
  | nil => cases h1
  | cons q r ih =>
    simp only [List.map_cons, List.nodup_cons] at h
    rcases List.mem_cons.1 h1 with e1 | e1 <;> rcases List.mem_cons.1 h2 with e2 | e2
    · subst e1; cases e2; rfl
    · subst e1; exact absurd (List.mem_map.2 ⟨_, e2, rfl⟩) h.1
    · subst e2; exact absurd (List.mem_map.2 ⟨_, e1, rfl⟩) h.1
    · exact ih h.2 e1 e2
theorem forget_del {m : List (List Int × Int)} (h : (m.map (·.1)).Nodup) {k : List Int} {v p : Int} (h1 : (k, v) ∈ m) (hh : hit p (k, v) = true) : forgetM (mdel m k) p = forgetM m p := by
  unfold forgetM
  rw [mdel_filter k h, List.filter_filter]
  refine List.filter_congr (fun q hq => ?_)
  by_cases e : q.1 = k
  · obtain ⟨qk, qv⟩ := q
    simp only at e; subst e
    have := mem_key h hq h1; subst this
    simp [hh]
  · simp [e]
structure FInv (m : List (List Int × Int)) (p : Int) (clock : Nat) (es : Array MapEntry) (seen : Array Nat) (m' : List (List Int × Int)) : Prop where
  ok : MOk κS m' es clock
  same : forgetM m' p = forgetM m p
  past : ∀ e ∈ es.toList, seen.contains e.born = true → ∀ k v, (k, v) ∈ m' → e.key = keyV κS k → hit p (k, v) = false
theorem FInv.done {m : List (List Int × Int)} {p : Int} {clock : Nat} {es : Array MapEntry} {seen : Array Nat} {m' : List (List Int × Int)} (h : FInv m p clock es seen m') (h0 : (leftOf es seen).size = 0) : MOk κS (forgetM m p) es clock := by
  rw [← h.same]
  have : forgetM m' p = m' := List.filter_eq_self.2 (fun q hq => by
    have h1 : (keyV κS q.1, Value.int .i64 q.2) ∈ m'.map (fun p => (keyV κS p.1, Value.int κS.vk p.2)) := List.mem_map.2 ⟨q, hq, rfl⟩
    rw [← h.ok.kv] at h1
    obtain ⟨e, he, h2⟩ := List.mem_map.1 h1
    have h3 := Prod.mk.inj h2
    rw [h.past e he (all_seen es seen h0 e he) q.1 q.2 hq h3.1]; rfl)
  rw [this]; exact h.ok
theorem FInv.miss {m : List (List Int × Int)} {p : Int} {clock : Nat} {es : Array MapEntry} {seen : Array Nat} {m' : List (List Int × Int)} (h : FInv m p clock es seen m') {e : MapEntry} (he : e ∈ es.toList) {k : List Int} {v : Int} (hm : (k, v) ∈ m') (hk : e.key = keyV κS k)
    (hh : hit p (k, v) = false) : FInv m p clock es (seen.push e.born) m' := by
  refine ⟨h.ok, h.same, fun x hx hs k' v' hm' hk' => ?_⟩
  rw [contains_push] at hs
  cases h1 : seen.contains x.born with
  | true => exact h.past x hx h1 k' v' hm' hk'
  | false =>
    rw [h1] at hs
    have hb : x.born = e.born := by simpa using hs
    have hxe := born_inj h.ok.born hx he hb
    subst hxe
    have := keyV_inj (κ := κS) (by simp) (h.ok.ok _ hm').1 (h.ok.ok _ hm).1 (hk'.symm.trans hk)
    subst this
    have := mem_key h.ok.nodup hm' hm
    subst this
    exact hh
theorem FInv.struck {m : List (List Int × Int)} {p : Int} {clock : Nat} {es es' : Array MapEntry} {seen : Array Nat} {m' : List (List Int × Int)} (h : FInv m p clock es seen m') {e : MapEntry} (he : e ∈ es.toList) {k : List Int} {v : Int} (hm : (k, v) ∈ m') (hk : e.key = keyV κS k)
    (hh : hit p (k, v) = true) (hM : MOk κS (mdel m' k) es' clock) (hs : es'.toList.Sublist es.toList) : FInv m p clock es' (seen.push e.born) (mdel m' k) := by
  refine ⟨hM, by rw [forget_del h.ok.nodup hm hh]; exact h.same, fun x hx hc k' v' hm' hk' => ?_⟩
  rw [mdel_filter k h.ok.nodup, List.mem_filter] at hm'
  have hx' := hs.subset hx
  rw [contains_push] at hc
  cases h1 : seen.contains x.born with
  | true => exact h.past x hx' h1 k' v' hm'.1 hk'
  | false =>
    rw [h1] at hc
    have hb : x.born = e.born := by simpa using hc
    have hxe := born_inj h.ok.born hx' he hb
    subst hxe
    have := keyV_inj (κ := κS) (by simp) (h.ok.ok _ hm'.1).1 (h.ok.ok _ hm).1 (hk'.symm.trans hk)
    subst this
    simp at hm'
theorem left_sub {es es' : Array MapEntry} {seen : Array Nat} (hs : es'.toList.Sublist es.toList) : (leftOf es' seen).size ≤ (leftOf es seen).size := by
  have e1 : ∀ a : Array MapEntry, (leftOf a seen).size = (a.toList.filter fun e => !seen.contains e.born).length := fun a => by
    unfold leftOf
    rw [← Array.toList_filter, Array.length_toList]
  rw [e1, e1]
  exact (hs.filter _).length_le
theorem key3 {k : List Int} (h : KeyOk κS k) : ∃ a b c, k = [a, b, c] := by
  have := h.1
  match k, this with
  | [a, b, c], _ => exact ⟨a, b, c, rfl⟩
theorem c_forget (m : List (List Int × Int)) (p : Int) : HC Try.prog [i0] 29 [(i0, mpS m)] [.mp i0, iv p] (.tup []) [(i0, mpS (forgetM m p))] := by
  refine HC_intro tok Try.func29 rfl (by decide +kernel) (Nat.le_of_ble_eq_true rfl) ?_
  refine AWp_open 0 i0 rfl rfl (fun es clock hM => ?_)
  ((repeat' ((fail_if_success (show AWp _ _ _ (Code.region 0 _ _) _ _)); first | refine AWp_seq ?_ | (refine AWp_reg tok (by rfl) ?_; conv => whnf) | (refine AWp_any tok mix (by rfl) ?_; conv => whnf) | refine AWp_block ?_ | (refine AWp_skip ?_; conv => whnf) | (refine AWp_exit ?_; conv => whnf) | (refine AWp_ret ?_; conv => whnf) | refine AWp_cond rfl (fun hb => ?_) (fun hb => ?_) | (refine @And.intro (underG _ _ _ _) _ ?_ ?_; rotate_left; (conv => whnf); rotate_right) | (refine fun (bn : Bool) (hbn : (0 < _ → bn = _)) => ?_; conv => whnf))); all_goals (try ((first | refine underG_none ?_ | (refine underG_some ?_; intro hgd; conv at hgd => whnf)); (first | refine And.intro (srcObl_rs rfl ?_) ?_ | refine And.intro srcObl_sl ?_ | refine And.intro srcObl_nsl ?_ | skip); (all_goals (try simp only [underG, true_and, and_true, Bool.cond_true_left, Bool.cond_false_left, Bool.cond_true_right, Bool.cond_false_right, Bool.or_eq_true, Bool.and_eq_true, Bool.or_eq_false_iff, Bool.and_eq_false_iff, cond_true, cond_false, Bool.not_eq_eq_eq_not, Bool.not_true, Bool.not_false, decide_eq_true_eq, decide_eq_false_iff_not, Int.toNat_natCast, Nat.zero_add, Decidable.not_not, maxL] at *)); all_goals omega)))
  refine AWp_hand1 tok rfl (by rfl) rfl rfl ?_
  conv => whnf
  intro X ι a w s
  refine ⟨⟨_, _, []⟩, range_ok (t := 54) tok s rfl rfl rfl rfl rfl, rfl, ?_⟩
  clear s
  conv => whnf
  ((repeat' first | refine AWp_seq ?_ | (refine AWp_reg tok (by rfl) ?_; conv => whnf) | (refine AWp_any tok mix (by rfl) ?_; conv => whnf) | refine AWp_block ?_ | (refine AWp_skip ?_; conv => whnf) | (refine AWp_exit ?_; conv => whnf) | (refine AWp_ret ?_; conv => whnf) | refine AWp_cond rfl (fun hb => ?_) (fun hb => ?_) | (refine @And.intro (underG _ _ _ _) _ ?_ ?_; rotate_left; (conv => whnf); rotate_right) | (refine fun (bn : Bool) (hbn : (0 < _ → bn = _)) => ?_; conv => whnf)); all_goals (try ((first | refine underG_none ?_ | (refine underG_some ?_; intro hgd; conv at hgd => whnf)); (first | refine And.intro (srcObl_rs rfl ?_) ?_ | refine And.intro srcObl_sl ?_ | refine And.intro srcObl_nsl ?_ | skip); (all_goals (try simp only [underG, true_and, and_true, Bool.cond_true_left, Bool.cond_false_left, Bool.cond_true_right, Bool.cond_false_right, Bool.or_eq_true, Bool.and_eq_true, Bool.or_eq_false_iff, Bool.and_eq_false_iff, cond_true, cond_false, Bool.not_eq_eq_eq_not, Bool.not_true, Bool.not_false, decide_eq_true_eq, decide_eq_false_iff_not, Int.toNat_natCast, Nat.zero_add, Decidable.not_not, maxL] at *)); all_goals omega)))
  refine AWp_loop (fun q : Array MapEntry × Array Nat × List (List Int × Int) => mkS [(0, .mp i0), (1, iv p), (7, .bp (7, 0, 0) 0)] [(i0, .map (.exact q.1 clock)), ((7, 0, 0), .map (.itr i0 clock q.2.1 clock))])
    (fun q => FInv m p clock q.1 q.2.1 q.2.2) (fun q => (leftOf q.1 q.2.1).size) (es, #[], m) ⟨hM, rfl, fun e _ h => by simp at h⟩ ?_ ?_
  · refine Weak.list [(i0, .old i0, .map (.exact es clock)), ((7, 0, 0), .old (7, 0, 0), .map (.itr i0 clock #[] clock))] rfl (by rfl) ?_ (.old rfl (BLe.refl _) (.old rfl (BLe.refl _) .nil))
    ((repeat' first | exact TLes.nil | refine TLes.cons (TLe.eq rfl) ?_ | refine TLes.cons (TLe.nilL rfl ?_) ?_ | refine TLes.cons (TLe.rsL rfl ?_) ?_ | refine TLes.cons (TLe.int ?_) ?_ | refine TLes.cons (TLe.bool ?_) ?_); (all_goals first | rfl | ((try (simp only [underG, true_and, and_true, Bool.cond_true_left, Bool.cond_false_left, Bool.cond_true_right, Bool.cond_false_right, Bool.or_eq_true, Bool.and_eq_true, Bool.or_eq_false_iff, Bool.and_eq_false_iff, cond_true, cond_false, Bool.not_eq_eq_eq_not, Bool.not_true, Bool.not_false, decide_eq_true_eq, decide_eq_false_iff_not, Int.toNat_natCast, Nat.zero_add, Decidable.not_not, maxL] at *)); first | omega | (rw [wrap64 (by omega) (by omega)]; first | rfl | omega | (simp; done) | (simp; omega))) | skip))
  clear X ι a w hM es
  rintro ⟨es, seen, m'⟩ hI
  simp only at hI ⊢
  refine AWp_seq (AWp_next tok 54 (7, 0, 0) i0 es clock seen m' κS rfl (by rfl) rfl rfl rfl rfl rfl rfl rfl hI.ok (fun h0 => ⟨rfl, ?_⟩) (fun e he hem k v hm hk hv => ⟨rfl, ?_⟩))
  · conv => whnf
    ((repeat' first | refine AWp_seq ?_ | (refine AWp_reg tok (by rfl) ?_; conv => whnf) | (refine AWp_any tok mix (by rfl) ?_; conv => whnf) | refine AWp_block ?_ | (refine AWp_skip ?_; conv => whnf) | (refine AWp_exit ?_; conv => whnf) | (refine AWp_ret ?_; conv => whnf) | refine AWp_cond rfl (fun hb => ?_) (fun hb => ?_) | (refine @And.intro (underG _ _ _ _) _ ?_ ?_; rotate_left; (conv => whnf); rotate_right) | (refine fun (bn : Bool) (hbn : (0 < _ → bn = _)) => ?_; conv => whnf)); all_goals (try ((first | refine underG_none ?_ | (refine underG_some ?_; intro hgd; conv at hgd => whnf)); (first | refine And.intro (srcObl_rs rfl ?_) ?_ | refine And.intro srcObl_sl ?_ | refine And.intro srcObl_nsl ?_ | skip); (all_goals (try simp only [underG, true_and, and_true, Bool.cond_true_left, Bool.cond_false_left, Bool.cond_true_right, Bool.cond_false_right, Bool.or_eq_true, Bool.and_eq_true, Bool.or_eq_false_iff, Bool.and_eq_false_iff, cond_true, cond_false, Bool.not_eq_eq_eq_not, Bool.not_true, Bool.not_false, decide_eq_true_eq, decide_eq_false_iff_not, Int.toNat_natCast, Nat.zero_add, Decidable.not_not, maxL] at *)); all_goals omega)))
    · cases hb
    exact ⟨_, [(i0, .old i0, mpS (forgetM m p))], rfl, rfl, rfl, rfl, .old rfl (BLe.shut (hI.done h0)) .nil, .eq rfl⟩
  · obtain ⟨k0, k1, k2, rfl⟩ := key3 (hI.ok.ok _ hm).1
    conv => whnf
    ((repeat' ((fail_if_success (show AWp _ _ _ (Code.region 2 _ _) _ _)); first | refine AWp_seq ?_ | (refine AWp_reg tok (by rfl) ?_; conv => whnf) | (refine AWp_any tok mix (by rfl) ?_; conv => whnf) | refine AWp_block ?_ | (refine AWp_skip ?_; conv => whnf) | (refine AWp_exit ?_; conv => whnf) | (refine AWp_ret ?_; conv => whnf) | refine AWp_cond rfl (fun hb => ?_) (fun hb => ?_) | (refine @And.intro (underG _ _ _ _) _ ?_ ?_; rotate_left; (conv => whnf); rotate_right) | (refine fun (bn : Bool) (hbn : (0 < _ → bn = _)) => ?_; conv => whnf))); all_goals (try ((first | refine underG_none ?_ | (refine underG_some ?_; intro hgd; conv at hgd => whnf)); (first | refine And.intro (srcObl_rs rfl ?_) ?_ | refine And.intro srcObl_sl ?_ | refine And.intro srcObl_nsl ?_ | skip); (all_goals (try simp only [underG, true_and, and_true, Bool.cond_true_left, Bool.cond_false_left, Bool.cond_true_right, Bool.cond_false_right, Bool.or_eq_true, Bool.and_eq_true, Bool.or_eq_false_iff, Bool.and_eq_false_iff, cond_true, cond_false, Bool.not_eq_eq_eq_not, Bool.not_true, Bool.not_false, decide_eq_true_eq, decide_eq_false_iff_not, Int.toNat_natCast, Nat.zero_add, Decidable.not_not, maxL] at *)); all_goals omega)))
    · refine AWp_entry tok 54 (7, 0, 0) i0 es clock seen m' κS (ent := e) (k := [k0, k1, k2]) (v := v) rfl (by rfl) rfl rfl rfl rfl rfl rfl rfl hI.ok hem hm hk hv ⟨rfl, ?_⟩
      conv => whnf
      ((repeat' ((fail_if_success (show AWp _ _ _ (Code.region 4 _ _) _ _)); first | refine AWp_seq ?_ | (refine AWp_reg tok (by rfl) ?_; conv => whnf) | (refine AWp_any tok mix (by rfl) ?_; conv => whnf) | refine AWp_block ?_ | (refine AWp_skip ?_; conv => whnf) | (refine AWp_exit ?_; conv => whnf) | (refine AWp_ret ?_; conv => whnf) | refine AWp_cond rfl (fun hb => ?_) (fun hb => ?_) | (refine @And.intro (underG _ _ _ _) _ ?_ ?_; rotate_left; (conv => whnf); rotate_right) | (refine fun (bn : Bool) (hbn : (0 < _ → bn = _)) => ?_; conv => whnf))); all_goals (try ((first | refine underG_none ?_ | (refine underG_some ?_; intro hgd; conv at hgd => whnf)); (first | refine And.intro (srcObl_rs rfl ?_) ?_ | refine And.intro srcObl_sl ?_ | refine And.intro srcObl_nsl ?_ | skip); (all_goals (try simp only [underG, true_and, and_true, Bool.cond_true_left, Bool.cond_false_left, Bool.cond_true_right, Bool.cond_false_right, Bool.or_eq_true, Bool.and_eq_true, Bool.or_eq_false_iff, Bool.and_eq_false_iff, cond_true, cond_false, Bool.not_eq_eq_eq_not, Bool.not_true, Bool.not_false, decide_eq_true_eq, decide_eq_false_iff_not, Int.toNat_natCast, Nat.zero_add, Decidable.not_not, maxL] at *)); all_goals omega)))
      · refine AWp_hand2 tok rfl (by rfl) rfl rfl ?_
        conv => whnf
        intro X ι a w s
        refine del_ex tok s 54 i0 es clock m' κS [k0, k1, k2] rfl rfl rfl rfl rfl rfl rfl rfl hI.ok (fun es' hM' hsub => ⟨rfl, ?_⟩)
        clear s
        conv => whnf
        ((repeat' first | refine AWp_seq ?_ | (refine AWp_reg tok (by rfl) ?_; conv => whnf) | (refine AWp_any tok mix (by rfl) ?_; conv => whnf) | refine AWp_block ?_ | (refine AWp_skip ?_; conv => whnf) | (refine AWp_exit ?_; conv => whnf) | (refine AWp_ret ?_; conv => whnf) | refine AWp_cond rfl (fun hb => ?_) (fun hb => ?_) | (refine @And.intro (underG _ _ _ _) _ ?_ ?_; rotate_left; (conv => whnf); rotate_right) | (refine fun (bn : Bool) (hbn : (0 < _ → bn = _)) => ?_; conv => whnf)); all_goals (try ((first | refine underG_none ?_ | (refine underG_some ?_; intro hgd; conv at hgd => whnf)); (first | refine And.intro (srcObl_rs rfl ?_) ?_ | refine And.intro srcObl_sl ?_ | refine And.intro srcObl_nsl ?_ | skip); (all_goals (try simp only [underG, true_and, and_true, Bool.cond_true_left, Bool.cond_false_left, Bool.cond_true_right, Bool.cond_false_right, Bool.or_eq_true, Bool.and_eq_true, Bool.or_eq_false_iff, Bool.and_eq_false_iff, cond_true, cond_false, Bool.not_eq_eq_eq_not, Bool.not_true, Bool.not_false, decide_eq_true_eq, decide_eq_false_iff_not, Int.toNat_natCast, Nat.zero_add, Decidable.not_not, maxL] at *)); all_goals omega)))
        refine ⟨(es', seen.push e.born, mdel m' [k0, k1, k2]), hI.struck hem hm hk ?_ hM' hsub, Nat.lt_of_le_of_lt (left_sub hsub) (left_shrinks es seen e he), Weak.list [(i0, .old i0, .map (.exact es' clock)), ((7, 0, 0), .old (7, 0, 0), .map (.itr i0 clock (seen.push e.born) clock))] rfl (by rfl) ?_ (.old rfl (BLe.refl _) (.old rfl (BLe.refl _) .nil))⟩
        · simp [hit]; simp only [underG, true_and, and_true, Bool.cond_true_left, Bool.cond_false_left, Bool.cond_true_right, Bool.cond_false_right, Bool.or_eq_true, Bool.and_eq_true, Bool.or_eq_false_iff, Bool.and_eq_false_iff, cond_true, cond_false, Bool.not_eq_eq_eq_not, Bool.not_true, Bool.not_false, decide_eq_true_eq, decide_eq_false_iff_not, Int.toNat_natCast, Nat.zero_add, Decidable.not_not, maxL] at *; omega
        · ((repeat' first | exact TLes.nil | refine TLes.cons (TLe.eq rfl) ?_ | refine TLes.cons (TLe.nilL rfl ?_) ?_ | refine TLes.cons (TLe.rsL rfl ?_) ?_ | refine TLes.cons (TLe.int ?_) ?_ | refine TLes.cons (TLe.bool ?_) ?_); (all_goals first | rfl | ((try (simp only [underG, true_and, and_true, Bool.cond_true_left, Bool.cond_false_left, Bool.cond_true_right, Bool.cond_false_right, Bool.or_eq_true, Bool.and_eq_true, Bool.or_eq_false_iff, Bool.and_eq_false_iff, cond_true, cond_false, Bool.not_eq_eq_eq_not, Bool.not_true, Bool.not_false, decide_eq_true_eq, decide_eq_false_iff_not, Int.toNat_natCast, Nat.zero_add, Decidable.not_not, maxL] at *)); first | omega | (rw [wrap64 (by omega) (by omega)]; first | rfl | omega | (simp; done) | (simp; omega))) | skip))
      · refine ⟨(es, seen.push e.born, m'), hI.miss hem hm hk ?_, left_shrinks es seen e he, Weak.list [(i0, .old i0, .map (.exact es clock)), ((7, 0, 0), .old (7, 0, 0), .map (.itr i0 clock (seen.push e.born) clock))] rfl (by rfl) ?_ (.old rfl (BLe.refl _) (.old rfl (BLe.refl _) .nil))⟩
        · simp [hit]; simp only [underG, true_and, and_true, Bool.cond_true_left, Bool.cond_false_left, Bool.cond_true_right, Bool.cond_false_right, Bool.or_eq_true, Bool.and_eq_true, Bool.or_eq_false_iff, Bool.and_eq_false_iff, cond_true, cond_false, Bool.not_eq_eq_eq_not, Bool.not_true, Bool.not_false, decide_eq_true_eq, decide_eq_false_iff_not, Int.toNat_natCast, Nat.zero_add, Decidable.not_not, maxL] at *; omega
        · ((repeat' first | exact TLes.nil | refine TLes.cons (TLe.eq rfl) ?_ | refine TLes.cons (TLe.nilL rfl ?_) ?_ | refine TLes.cons (TLe.rsL rfl ?_) ?_ | refine TLes.cons (TLe.int ?_) ?_ | refine TLes.cons (TLe.bool ?_) ?_); (all_goals first | rfl | ((try (simp only [underG, true_and, and_true, Bool.cond_true_left, Bool.cond_false_left, Bool.cond_true_right, Bool.cond_false_right, Bool.or_eq_true, Bool.and_eq_true, Bool.or_eq_false_iff, Bool.and_eq_false_iff, cond_true, cond_false, Bool.not_eq_eq_eq_not, Bool.not_true, Bool.not_false, decide_eq_true_eq, decide_eq_false_iff_not, Int.toNat_natCast, Nat.zero_add, Decidable.not_not, maxL] at *)); first | omega | (rw [wrap64 (by omega) (by omega)]; first | rfl | omega | (simp; done) | (simp; omega))) | skip))
    · cases hb
end Go.Proofs.Ytmkiahbnfmpieaa
namespace Go.Proofs.Ytmkiahbnfmpieaa
open Go Dv
set_option maxRecDepth 10000
set_option linter.unusedSimpArgs false
abbrev Mp := List (List Int × Int)
def sameHit (m : Mp) (x : Ins) : Bool := bif twoO x.op then (mlook m (ofD x).l).isSome else false
def sameY (m : Mp) (x : Ins) : Ins := if sameHit m x = true then ⟨2, x.dst, (mlook m (ofD x).l).getD 0, 0, 0, 0, []⟩ else x
def sameOk (m : Mp) (x : Ins) : Bool := twoO x.op && !(mlook m (ofD x).l).isSome
def sameM (m : Mp) (x : Ins) : Mp := if (sameY m x).op = 10 ∨ (sameY m x).op = 12 then m else
  if sameOk m x = true ∧ (sameY m x).dst ≠ (ofD x).a ∧ (sameY m x).dst ≠ (ofD x).b then mput (forgetM m (sameY m x).dst) (ofD x).l (sameY m x).dst else forgetM m (sameY m x).dst
def sameIns : Mp → List Ins → List Ins × Mp
  | m, [] => ([], m)
  | m, x :: r => (sameY m x :: (sameIns (sameM m x) r).1, (sameIns (sameM m x) r).2)
theorem sameIns_snoc : ∀ (l : List Ins) (m : Mp) (x : Ins), sameIns m (l ++ [x]) = ((sameIns m l).1 ++ [sameY (sameIns m l).2 x], sameM (sameIns m l).2 x)
  | [], m, x => rfl
  | y :: r, m, x => by
      simp only [List.cons_append, sameIns]
      rw [sameIns_snoc r _ x]
theorem sameIns_len : ∀ (l : List Ins) (m : Mp), (sameIns m l).1.length = l.length
  | [], _ => rfl
  | _ :: r, m => by simp [sameIns, sameIns_len r]
def sameBlock (b : Block) : Block := { b with ins := (sameIns [] b.ins).1 }
def smapAt (l : List Ins) (i : Nat) : Mp := (sameIns [] (l.take i)).2
def sameAt (l : List Ins) (i : Nat) : List Ins := (sameIns [] (l.take i)).1 ++ l.drop i
theorem sameAt_len (l : List Ins) (i : Nat) : (sameAt l i).length = l.length := by
  simp only [sameAt, List.length_append, sameIns_len, List.length_take, List.length_drop]; omega
theorem sameAt_get {l : List Ins} {i : Nat} (h : i < l.length) : (sameAt l i).getD i default = l.getD i default := by
  unfold sameAt
  rw [getD_append, sameIns_len, List.length_take, if_neg (by omega)]
  have : i - min i l.length = 0 := by omega
  rw [this, drop_getD default h]; rfl
theorem smapAt_succ {l : List Ins} {i : Nat} (h : i < l.length) : smapAt l (i + 1) = sameM (smapAt l i) (l.getD i default) := by
  unfold smapAt; rw [take_succ_getD default h, sameIns_snoc]
theorem sameAt_succ {l : List Ins} {i : Nat} (h : i < l.length) : sameAt l (i + 1) = (sameAt l i).set i (sameY (smapAt l i) (l.getD i default)) := by
  unfold sameAt smapAt
  rw [take_succ_getD default h, sameIns_snoc]
  have hl : (sameIns [] (l.take i)).1.length = i := by rw [sameIns_len, List.length_take]; omega
  rw [List.set_append_right _ _ (by omega), hl, Nat.sub_self, drop_getD default h]
  simp
theorem sameAt_at {l : List Ins} {i : Nat} (h : i < l.length) : (sameAt l (i + 1)).getD i default = sameY (smapAt l i) (l.getD i default) := by
  rw [sameAt_succ h, getD_set, if_pos ⟨rfl, by rw [sameAt_len]; exact h⟩]
abbrev dRow (x : Ins) : ABlock := .row true 3 1 (fun _ => [iv (ofD x).op, iv (ofD x).a, iv (ofD x).b])
theorem c_sBlock (b : Block) : FC Try.prog 10 [.agg (encBlock b)] (.agg (encBlock (sameBlock b))) := by
  refine FC_intro tok Try.func10 rfl (by decide +kernel) (Nat.le_of_ble_eq_true rfl) ?_
  refine AWp_facts 0 (fun hl => ?_)
  have hl0 : b.ins.length ≤ maxL := hl.2.2.2.2.2.1.1
  ((repeat' first | refine AWp_seq ?_ | (refine AWp_reg tok (by rfl) ?_; conv => whnf) | (refine AWp_any tok mix (by rfl) ?_; conv => whnf) | refine AWp_block ?_ | (refine AWp_skip ?_; conv => whnf) | (refine AWp_exit ?_; conv => whnf) | (refine AWp_ret ?_; conv => whnf) | refine AWp_cond rfl (fun hb => ?_) (fun hb => ?_) | (refine @And.intro (underG _ _ _ _) _ ?_ ?_; rotate_left; (conv => whnf); rotate_right) | (refine fun (bn : Bool) (hbn : (0 < _ → bn = _)) => ?_; conv => whnf)); all_goals (try ((first | refine underG_none ?_ | (refine underG_some ?_; intro hgd; conv at hgd => whnf)); (first | refine And.intro (srcObl_rs rfl ?_) ?_ | refine And.intro srcObl_sl ?_ | refine And.intro srcObl_nsl ?_ | skip); (all_goals (try simp only [underG, true_and, and_true, Bool.cond_true_left, Bool.cond_false_left, Bool.cond_true_right, Bool.cond_false_right, Bool.or_eq_true, Bool.and_eq_true, Bool.or_eq_false_iff, Bool.and_eq_false_iff, cond_true, cond_false, Bool.not_eq_eq_eq_not, Bool.not_true, Bool.not_false, decide_eq_true_eq, decide_eq_false_iff_not, Int.toNat_natCast, Nat.zero_add, Decidable.not_not, maxL] at *)); all_goals omega)))
  refine .inl ⟨_, _, _, uG (QC.fo (rd := []) (c_CloneIns b.ins) (.cons (.imm rfl) .nil) (.inl rfl) rfl), ?_⟩
  conv => whnf
  ((repeat' first | refine AWp_seq ?_ | (refine AWp_reg tok (by rfl) ?_; conv => whnf) | (refine AWp_any tok mix (by rfl) ?_; conv => whnf) | refine AWp_block ?_ | (refine AWp_skip ?_; conv => whnf) | (refine AWp_exit ?_; conv => whnf) | (refine AWp_ret ?_; conv => whnf) | refine AWp_cond rfl (fun hb => ?_) (fun hb => ?_) | (refine @And.intro (underG _ _ _ _) _ ?_ ?_; rotate_left; (conv => whnf); rotate_right) | (refine fun (bn : Bool) (hbn : (0 < _ → bn = _)) => ?_; conv => whnf)); all_goals (try ((first | refine underG_none ?_ | (refine underG_some ?_; intro hgd; conv at hgd => whnf)); (first | refine And.intro (srcObl_rs rfl ?_) ?_ | refine And.intro srcObl_sl ?_ | refine And.intro srcObl_nsl ?_ | skip); (all_goals (try simp only [underG, true_and, and_true, Bool.cond_true_left, Bool.cond_false_left, Bool.cond_true_right, Bool.cond_false_right, Bool.or_eq_true, Bool.and_eq_true, Bool.or_eq_false_iff, Bool.and_eq_false_iff, cond_true, cond_false, Bool.not_eq_eq_eq_not, Bool.not_true, Bool.not_false, decide_eq_true_eq, decide_eq_false_iff_not, Int.toNat_natCast, Nat.zero_add, Decidable.not_not, maxL] at *)); all_goals omega)))
  generalize hl : b.ins = l at hl0
  refine AWp_loop (fun i : Nat => mkS [(1, .bp (1, 0, 0) 0), (2, .bp (2, 0, 0) 0), (3, .mp (10, 0, 0)), (17, iv l.length), (18, iv i)]
      [((1, 0, 0), .row false 14 1 (fun _ => blkCells b (.rs (13, 0, 0) 7 0 l.length) b.fin)), ((2, 0, 0), .row true 14 1 (fun _ => encBlock default)), ((10, 0, 0), mpS (smapAt l i)), ((13, 0, 0), insRow (sameAt l i) l.length)])
    (fun i => i ≤ l.length) (fun i => l.length - i) 0 (Nat.zero_le _) ?_ ?_
  · refine Weak.list [((1, 0, 0), .old (1, 0, 0), .row false 14 1 (fun _ => blkCells b (.rs (13, 0, 0) 7 0 l.length) b.fin)), ((2, 0, 0), .old (2, 0, 0), .row true 14 1 (fun _ => encBlock default)), ((10, 0, 0), .old (10, 0, 0), mpS (smapAt l 0)), ((13, 0, 0), .old (13, 0, 0), insRow (sameAt l 0) l.length)] rfl (by rfl) ?_ ?_
    · ((repeat' first | exact TLes.nil | refine TLes.cons (TLe.eq rfl) ?_ | refine TLes.cons (TLe.nilL rfl ?_) ?_ | refine TLes.cons (TLe.rsL rfl ?_) ?_ | refine TLes.cons (TLe.int ?_) ?_ | refine TLes.cons (TLe.bool ?_) ?_); (all_goals first | rfl | ((try (simp only [underG, true_and, and_true, Bool.cond_true_left, Bool.cond_false_left, Bool.cond_true_right, Bool.cond_false_right, Bool.or_eq_true, Bool.and_eq_true, Bool.or_eq_false_iff, Bool.and_eq_false_iff, cond_true, cond_false, Bool.not_eq_eq_eq_not, Bool.not_true, Bool.not_false, decide_eq_true_eq, decide_eq_false_iff_not, Int.toNat_natCast, Nat.zero_add, Decidable.not_not, maxL] at *)); first | omega | (rw [wrap64 (by omega) (by omega)]; first | rfl | omega | (simp; done) | (simp; omega))) | skip))
    · refine .old rfl (BLe.rowW (Nat.le_refl _) (fun x hx => ?_)) (.old rfl (BLe.rowW (Nat.le_refl _) (fun x hx => ?_)) (.old rfl (BLe.refl _) (.old rfl (BLe.row rfl (fun x hx => ?_)) .nil)))
      · match x, hx with
        | 0, _ => (repeat' ((conv => arg 1; whnf); (conv => arg 2; whnf); first | refine Wks.cons .refl ?_ | refine Wks.cons (.nsl rfl) ?_ | exact Wks.nil))
      · match x, hx with
        | 0, _ => (repeat' ((conv => arg 1; whnf); (conv => arg 2; whnf); first | refine Wks.cons .refl ?_ | refine Wks.cons (.nsl rfl) ?_ | exact Wks.nil))
      · rw [show sameAt l 0 = l by simp [sameAt, sameIns]]; rfl
  intro i hi
  have hfl := sameAt_len l i
  ((repeat' first | refine AWp_seq ?_ | (refine AWp_reg tok (by rfl) ?_; conv => whnf) | (refine AWp_any tok mix (by rfl) ?_; conv => whnf) | refine AWp_block ?_ | (refine AWp_skip ?_; conv => whnf) | (refine AWp_exit ?_; conv => whnf) | (refine AWp_ret ?_; conv => whnf) | refine AWp_cond rfl (fun hb => ?_) (fun hb => ?_) | (refine @And.intro (underG _ _ _ _) _ ?_ ?_; rotate_left; (conv => whnf); rotate_right) | (refine fun (bn : Bool) (hbn : (0 < _ → bn = _)) => ?_; conv => whnf)); all_goals (try ((first | refine underG_none ?_ | (refine underG_some ?_; intro hgd; conv at hgd => whnf)); (first | refine And.intro (srcObl_rs rfl ?_) ?_ | refine And.intro srcObl_sl ?_ | refine And.intro srcObl_nsl ?_ | skip); (all_goals (try simp only [underG, true_and, and_true, Bool.cond_true_left, Bool.cond_false_left, Bool.cond_true_right, Bool.cond_false_right, Bool.or_eq_true, Bool.and_eq_true, Bool.or_eq_false_iff, Bool.and_eq_false_iff, cond_true, cond_false, Bool.not_eq_eq_eq_not, Bool.not_true, Bool.not_false, decide_eq_true_eq, decide_eq_false_iff_not, Int.toNat_natCast, Nat.zero_add, Decidable.not_not, maxL] at *)); all_goals omega)))
  · have hlt : i < l.length := by simp only [underG, true_and, and_true, Bool.cond_true_left, Bool.cond_false_left, Bool.cond_true_right, Bool.cond_false_right, Bool.or_eq_true, Bool.and_eq_true, Bool.or_eq_false_iff, Bool.and_eq_false_iff, cond_true, cond_false, Bool.not_eq_eq_eq_not, Bool.not_true, Bool.not_false, decide_eq_true_eq, decide_eq_false_iff_not, Int.toNat_natCast, Nat.zero_add, Decidable.not_not, maxL] at *; omega
    have hget := sameAt_get hlt
    have hget' : (sameAt l i).getD (0 + (i : Int).toNat) default = l.getD i default := by simpa using hget
    generalize hx : l.getD i default = x at hget hget'
    generalize hm : smapAt l i = m
    have hcall : ∀ y, y = x → FC Try.prog 28 [.agg (encIns y)] (.tup [.agg [iv (ofD x).op, iv (ofD x).a, iv (ofD x).b], .bool (twoO x.op)]) := fun y e => e ▸ c_of y
    refine .inl ⟨_, _, _, uG (QC.fc (hcall ((sameAt l i).getD (0 + (i : Int).toNat) default) hget') rfl), ?_⟩
    conv => whnf
    ((repeat' first | refine AWp_seq ?_ | (refine AWp_reg tok (by rfl) ?_; conv => whnf) | (refine AWp_any tok mix (by rfl) ?_; conv => whnf) | refine AWp_block ?_ | (refine AWp_skip ?_; conv => whnf) | (refine AWp_exit ?_; conv => whnf) | (refine AWp_ret ?_; conv => whnf) | (refine @And.intro (underG _ _ _ _) _ ?_ ?_; rotate_left; (conv => whnf); rotate_right) | (refine fun (bn : Bool) (hbn : (0 < _ → bn = _)) => ?_; conv => whnf)); all_goals (try ((first | refine underG_none ?_ | (refine underG_some ?_; intro hgd; conv at hgd => whnf)); (first | refine And.intro (srcObl_rs rfl ?_) ?_ | refine And.intro srcObl_sl ?_ | refine And.intro srcObl_nsl ?_ | skip); (all_goals (try simp only [underG, true_and, and_true, Bool.cond_true_left, Bool.cond_false_left, Bool.cond_true_right, Bool.cond_false_right, Bool.or_eq_true, Bool.and_eq_true, Bool.or_eq_false_iff, Bool.and_eq_false_iff, cond_true, cond_false, Bool.not_eq_eq_eq_not, Bool.not_true, Bool.not_false, decide_eq_true_eq, decide_eq_false_iff_not, Int.toNat_natCast, Nat.zero_add, Decidable.not_not, maxL] at *)); all_goals omega)))
    refine AWp_meet (fun _ : Unit => mkS [(1, .bp (1, 0, 0) 0), (2, .bp (2, 0, 0) 0), (3, .mp (10, 0, 0)), (5, .rp (13, 0, 0) 7 (0 + (i : Int).toNat) 0), (6, .bp (6, 0, 0) 0), (7, .bool (sameOk m x)), (17, iv l.length), (18, iv i)]
      [((1, 0, 0), .row false 14 1 (fun _ => blkCells b (.rs (13, 0, 0) 7 0 l.length) b.fin)), ((2, 0, 0), .row true 14 1 (fun _ => encBlock default)), ((6, 0, 0), dRow x), ((10, 0, 0), mpS m), ((13, 0, 0), insRow (sameAt l (i + 1)) l.length)]) (fun _ => True) ?_ ?_
    · ((repeat' first | refine AWp_seq ?_ | (refine AWp_reg tok (by rfl) ?_; conv => whnf) | (refine AWp_any tok mix (by rfl) ?_; conv => whnf) | refine AWp_block ?_ | (refine AWp_skip ?_; conv => whnf) | (refine AWp_exit ?_; conv => whnf) | (refine AWp_ret ?_; conv => whnf) | refine AWp_cond rfl (fun hb => ?_) (fun hb => ?_) | (refine @And.intro (underG _ _ _ _) _ ?_ ?_; rotate_left; (conv => whnf); rotate_right) | (refine fun (bn : Bool) (hbn : (0 < _ → bn = _)) => ?_; conv => whnf)); all_goals (try ((first | refine underG_none ?_ | (refine underG_some ?_; intro hgd; conv at hgd => whnf)); (first | refine And.intro (srcObl_rs rfl ?_) ?_ | refine And.intro srcObl_sl ?_ | refine And.intro srcObl_nsl ?_ | skip); (all_goals (try simp only [underG, true_and, and_true, Bool.cond_true_left, Bool.cond_false_left, Bool.cond_true_right, Bool.cond_false_right, Bool.or_eq_true, Bool.and_eq_true, Bool.or_eq_false_iff, Bool.and_eq_false_iff, cond_true, cond_false, Bool.not_eq_eq_eq_not, Bool.not_true, Bool.not_false, decide_eq_true_eq, decide_eq_false_iff_not, Int.toNat_natCast, Nat.zero_add, Decidable.not_not, maxL] at *)); all_goals omega)))
      all_goals
        have hh : sameHit m x = _ := hb
        refine ⟨(), trivial, Weak.list [((1, 0, 0), .old (1, 0, 0), .row false 14 1 (fun _ => blkCells b (.rs (13, 0, 0) 7 0 l.length) b.fin)), ((2, 0, 0), .old (2, 0, 0), .row true 14 1 (fun _ => encBlock default)), ((6, 0, 0), .old (6, 0, 0), dRow x), ((10, 0, 0), .old (10, 0, 0), mpS m), ((13, 0, 0), .old (13, 0, 0), insRow (sameAt l (i + 1)) l.length)] rfl (by rfl) ?_ ?_⟩
      · ((repeat' first | exact TLes.nil | refine TLes.cons (TLe.eq rfl) ?_ | refine TLes.cons (TLe.nilL rfl ?_) ?_ | refine TLes.cons (TLe.rsL rfl ?_) ?_ | refine TLes.cons (TLe.int ?_) ?_ | refine TLes.cons (TLe.bool ?_) ?_); (all_goals first | rfl | ((try (simp only [underG, true_and, and_true, Bool.cond_true_left, Bool.cond_false_left, Bool.cond_true_right, Bool.cond_false_right, Bool.or_eq_true, Bool.and_eq_true, Bool.or_eq_false_iff, Bool.and_eq_false_iff, cond_true, cond_false, Bool.not_eq_eq_eq_not, Bool.not_true, Bool.not_false, decide_eq_true_eq, decide_eq_false_iff_not, Int.toNat_natCast, Nat.zero_add, Decidable.not_not, maxL] at *)); first | omega | (rw [wrap64 (by omega) (by omega)]; first | rfl | omega | (simp; done) | (simp; omega))) | skip))
        unfold sameHit at hh; unfold sameOk
        cases h1 : twoO x.op <;> cases h2 : (mlook m (ofD x).l).isSome <;> simp [h1, h2] at hh ⊢
      · refine .old rfl (BLe.refl _) (.old rfl (BLe.refl _) (.old rfl (BLe.row rfl (fun z hz => ?_)) (.old rfl (BLe.refl _) (.old rfl (BLe.rowW (Nat.le_refl _) (fun z hz => ?_)) .nil))))
        · match z, hz with
          | 0, _ => rfl
        · rw [sameAt_succ hlt, hx, hm, show sameY m x = _ from if_pos hh]
          refine upd_rowW encIns default (sameAt l i) (by omega) (by simp) ?_ z
          rw [hget']
          (repeat' ((conv => arg 1; whnf); (conv => arg 2; whnf); first | refine Wks.cons .refl ?_ | refine Wks.cons (.nsl rfl) ?_ | exact Wks.nil))
      · ((repeat' first | exact TLes.nil | refine TLes.cons (TLe.eq rfl) ?_ | refine TLes.cons (TLe.nilL rfl ?_) ?_ | refine TLes.cons (TLe.rsL rfl ?_) ?_ | refine TLes.cons (TLe.int ?_) ?_ | refine TLes.cons (TLe.bool ?_) ?_); (all_goals first | rfl | ((try (simp only [underG, true_and, and_true, Bool.cond_true_left, Bool.cond_false_left, Bool.cond_true_right, Bool.cond_false_right, Bool.or_eq_true, Bool.and_eq_true, Bool.or_eq_false_iff, Bool.and_eq_false_iff, cond_true, cond_false, Bool.not_eq_eq_eq_not, Bool.not_true, Bool.not_false, decide_eq_true_eq, decide_eq_false_iff_not, Int.toNat_natCast, Nat.zero_add, Decidable.not_not, maxL] at *)); first | omega | (rw [wrap64 (by omega) (by omega)]; first | rfl | omega | (simp; done) | (simp; omega))) | skip))
        unfold sameHit at hh; unfold sameOk
        cases h1 : twoO x.op <;> cases h2 : (mlook m (ofD x).l).isSome <;> simp [h1, h2] at hh ⊢
      · refine .old rfl (BLe.refl _) (.old rfl (BLe.refl _) (.old rfl (BLe.row rfl (fun z hz => ?_)) (.old rfl (BLe.refl _) (.old rfl (BLe.rowW (Nat.le_refl _) (fun z hz => ?_)) .nil))))
        · match z, hz with
          | 0, _ => rfl
        · rw [sameAt_succ hlt, hx, hm, show sameY m x = x from if_neg (by rw [hh]; simp)]
          refine Wks.of ?_
          show encIns ((sameAt l i).getD z default) = _
          rw [← hget, getD_set]
          split
          · rename_i h; rw [h.1]
          · rfl
    rintro _ _ τ hτ
    refine AWp_weak hτ ?_
    have hat := sameAt_at hlt
    rw [hm, hx] at hat
    have hat' : (sameAt l (i + 1)).getD (0 + (i : Int).toNat) default = sameY m x := by simpa using hat
    have hsucc := smapAt_succ hlt
    rw [hm, hx] at hsucc
    generalize hY : sameY m x = y at hat hat'
    have hforget : ∀ z, z = y → HC Try.prog [i0] 29 [(i0, mpS m)] [.mp i0, iv z.dst] (.tup []) [(i0, mpS (forgetM m y.dst))] := fun z e => e ▸ c_forget m z.dst
    conv => whnf
    ((repeat' first | refine AWp_seq ?_ | (refine AWp_reg tok (by rfl) ?_; conv => whnf) | (refine AWp_any tok mix (by rfl) ?_; conv => whnf) | refine AWp_block ?_ | (refine AWp_skip ?_; conv => whnf) | (refine AWp_exit ?_; conv => whnf) | (refine AWp_ret ?_; conv => whnf) | refine AWp_cond rfl (fun hb => ?_) (fun hb => ?_) | (refine @And.intro (underG _ _ _ _) _ ?_ ?_; rotate_left; (conv => whnf); rotate_right) | (refine fun (bn : Bool) (hbn : (0 < _ → bn = _)) => ?_; conv => whnf)); all_goals (try ((first | refine underG_none ?_ | (refine underG_some ?_; intro hgd; conv at hgd => whnf)); (first | refine And.intro (srcObl_rs rfl ?_) ?_ | refine And.intro srcObl_sl ?_ | refine And.intro srcObl_nsl ?_ | skip); (all_goals (try simp only [underG, true_and, and_true, Bool.cond_true_left, Bool.cond_false_left, Bool.cond_true_right, Bool.cond_false_right, Bool.or_eq_true, Bool.and_eq_true, Bool.or_eq_false_iff, Bool.and_eq_false_iff, cond_true, cond_false, Bool.not_eq_eq_eq_not, Bool.not_true, Bool.not_false, decide_eq_true_eq, decide_eq_false_iff_not, Int.toNat_natCast, Nat.zero_add, Decidable.not_not, maxL] at *)); all_goals omega)))
    · rw [hat'] at hb
      have he : smapAt l (i + 1) = m := by
        rw [hsucc]; unfold sameM; rw [hY, if_pos]
        simp only [underG, true_and, and_true, Bool.cond_true_left, Bool.cond_false_left, Bool.cond_true_right, Bool.cond_false_right, Bool.or_eq_true, Bool.and_eq_true, Bool.or_eq_false_iff, Bool.and_eq_false_iff, cond_true, cond_false, Bool.not_eq_eq_eq_not, Bool.not_true, Bool.not_false, decide_eq_true_eq, decide_eq_false_iff_not, Int.toNat_natCast, Nat.zero_add, Decidable.not_not, maxL] at *; omega
      rw [← he]
      refine ⟨i + 1, hlt, by omega, Weak.list [((1, 0, 0), .old (1, 0, 0), .row false 14 1 (fun _ => blkCells b (.rs (13, 0, 0) 7 0 l.length) b.fin)), ((2, 0, 0), .old (2, 0, 0), .row true 14 1 (fun _ => encBlock default)), ((10, 0, 0), .old (10, 0, 0), mpS (smapAt l (i + 1))), ((13, 0, 0), .old (13, 0, 0), insRow (sameAt l (i + 1)) l.length)] rfl (by rfl) ?_ ?_⟩
      · ((repeat' first | exact TLes.nil | refine TLes.cons (TLe.eq rfl) ?_ | refine TLes.cons (TLe.nilL rfl ?_) ?_ | refine TLes.cons (TLe.rsL rfl ?_) ?_ | refine TLes.cons (TLe.int ?_) ?_ | refine TLes.cons (TLe.bool ?_) ?_); (all_goals first | rfl | ((try (simp only [underG, true_and, and_true, Bool.cond_true_left, Bool.cond_false_left, Bool.cond_true_right, Bool.cond_false_right, Bool.or_eq_true, Bool.and_eq_true, Bool.or_eq_false_iff, Bool.and_eq_false_iff, cond_true, cond_false, Bool.not_eq_eq_eq_not, Bool.not_true, Bool.not_false, decide_eq_true_eq, decide_eq_false_iff_not, Int.toNat_natCast, Nat.zero_add, Decidable.not_not, maxL] at *)); first | omega | (rw [wrap64 (by omega) (by omega)]; first | rfl | omega | (simp; done) | (simp; omega))) | skip))
      · exact .old rfl (BLe.refl _) (.old rfl (BLe.refl _) (.old rfl (BLe.refl _) (.old rfl (BLe.refl _) .nil)))
    rw [hat'] at hb
    have hno : ¬ (y.op = 10 ∨ y.op = 12) := by intro h; rcases h with h | h <;> simp [h] at hb
    refine .inr ⟨_, _, _, uG (QH.of (dead := []) [(i0, .old (10, 0, 0), mpS m)] (hforget _ hat') rfl (.old rfl (BLe.refl _) .nil) (.cons (.eq rfl) (.cons (.eq rfl) .nil)) [(i0, (10, 0, 0))] rfl (.cons rfl (BLe.refl _) .nil) rfl), ?_⟩
    conv => whnf
    ((repeat' first | refine AWp_seq ?_ | (refine AWp_reg tok (by rfl) ?_; conv => whnf) | (refine AWp_any tok mix (by rfl) ?_; conv => whnf) | refine AWp_block ?_ | (refine AWp_skip ?_; conv => whnf) | (refine AWp_exit ?_; conv => whnf) | (refine AWp_ret ?_; conv => whnf) | refine AWp_cond rfl (fun hb => ?_) (fun hb => ?_) | (refine @And.intro (underG _ _ _ _) _ ?_ ?_; rotate_left; (conv => whnf); rotate_right) | (refine fun (bn : Bool) (hbn : (0 < _ → bn = _)) => ?_; conv => whnf)); all_goals (try ((first | refine underG_none ?_ | (refine underG_some ?_; intro hgd; conv at hgd => whnf)); (first | refine And.intro (srcObl_rs rfl ?_) ?_ | refine And.intro srcObl_sl ?_ | refine And.intro srcObl_nsl ?_ | skip); (all_goals (try simp only [underG, true_and, and_true, Bool.cond_true_left, Bool.cond_false_left, Bool.cond_true_right, Bool.cond_false_right, Bool.or_eq_true, Bool.and_eq_true, Bool.or_eq_false_iff, Bool.and_eq_false_iff, cond_true, cond_false, Bool.not_eq_eq_eq_not, Bool.not_true, Bool.not_false, decide_eq_true_eq, decide_eq_false_iff_not, Int.toNat_natCast, Nat.zero_add, Decidable.not_not, maxL] at *)); all_goals omega)))
    · rw [hat'] at hb
      have he : smapAt l (i + 1) = mput (forgetM m y.dst) (ofD x).l y.dst := by
        rw [hsucc]; unfold sameM; rw [hY, if_neg hno, if_pos]
        cases h : sameOk m x <;> simp [h] at hb ⊢
        exact hb
      refine ⟨i + 1, hlt, by omega, Weak.list [((1, 0, 0), .old (1, 0, 0), .row false 14 1 (fun _ => blkCells b (.rs (13, 0, 0) 7 0 l.length) b.fin)), ((2, 0, 0), .old (2, 0, 0), .row true 14 1 (fun _ => encBlock default)), ((10, 0, 0), .old (10, 0, 0), mpS (smapAt l (i + 1))), ((13, 0, 0), .old (13, 0, 0), insRow (sameAt l (i + 1)) l.length)] rfl (by rfl) ?_ ?_⟩
      · ((repeat' first | exact TLes.nil | refine TLes.cons (TLe.eq rfl) ?_ | refine TLes.cons (TLe.nilL rfl ?_) ?_ | refine TLes.cons (TLe.rsL rfl ?_) ?_ | refine TLes.cons (TLe.int ?_) ?_ | refine TLes.cons (TLe.bool ?_) ?_); (all_goals first | rfl | ((try (simp only [underG, true_and, and_true, Bool.cond_true_left, Bool.cond_false_left, Bool.cond_true_right, Bool.cond_false_right, Bool.or_eq_true, Bool.and_eq_true, Bool.or_eq_false_iff, Bool.and_eq_false_iff, cond_true, cond_false, Bool.not_eq_eq_eq_not, Bool.not_true, Bool.not_false, decide_eq_true_eq, decide_eq_false_iff_not, Int.toNat_natCast, Nat.zero_add, Decidable.not_not, maxL] at *)); first | omega | (rw [wrap64 (by omega) (by omega)]; first | rfl | omega | (simp; done) | (simp; omega))) | skip))
      · rw [he, ← hat']
        exact .old rfl (BLe.refl _) (.old rfl (BLe.refl _) (.old rfl (BLe.refl _) (.old rfl (BLe.refl _) .nil)))
    · rw [hat'] at hb
      have he : smapAt l (i + 1) = forgetM m y.dst := by
        rw [hsucc]; unfold sameM; rw [hY, if_neg hno, if_neg]
        cases h : sameOk m x <;> simp [h] at hb ⊢
        exact hb
      refine ⟨i + 1, hlt, by omega, Weak.list [((1, 0, 0), .old (1, 0, 0), .row false 14 1 (fun _ => blkCells b (.rs (13, 0, 0) 7 0 l.length) b.fin)), ((2, 0, 0), .old (2, 0, 0), .row true 14 1 (fun _ => encBlock default)), ((10, 0, 0), .old (10, 0, 0), mpS (smapAt l (i + 1))), ((13, 0, 0), .old (13, 0, 0), insRow (sameAt l (i + 1)) l.length)] rfl (by rfl) ?_ ?_⟩
      · ((repeat' first | exact TLes.nil | refine TLes.cons (TLe.eq rfl) ?_ | refine TLes.cons (TLe.nilL rfl ?_) ?_ | refine TLes.cons (TLe.rsL rfl ?_) ?_ | refine TLes.cons (TLe.int ?_) ?_ | refine TLes.cons (TLe.bool ?_) ?_); (all_goals first | rfl | ((try (simp only [underG, true_and, and_true, Bool.cond_true_left, Bool.cond_false_left, Bool.cond_true_right, Bool.cond_false_right, Bool.or_eq_true, Bool.and_eq_true, Bool.or_eq_false_iff, Bool.and_eq_false_iff, cond_true, cond_false, Bool.not_eq_eq_eq_not, Bool.not_true, Bool.not_false, decide_eq_true_eq, decide_eq_false_iff_not, Int.toNat_natCast, Nat.zero_add, Decidable.not_not, maxL] at *)); first | omega | (rw [wrap64 (by omega) (by omega)]; first | rfl | omega | (simp; done) | (simp; omega))) | skip))
      · rw [he]
        exact .old rfl (BLe.refl _) (.old rfl (BLe.refl _) (.old rfl (BLe.refl _) (.old rfl (BLe.refl _) .nil)))
  · have hil : i = l.length := by simp only [underG, true_and, and_true, Bool.cond_true_left, Bool.cond_false_left, Bool.cond_true_right, Bool.cond_false_right, Bool.or_eq_true, Bool.and_eq_true, Bool.or_eq_false_iff, Bool.and_eq_false_iff, cond_true, cond_false, Bool.not_eq_eq_eq_not, Bool.not_true, Bool.not_false, decide_eq_true_eq, decide_eq_false_iff_not, Int.toNat_natCast, Nat.zero_add, Decidable.not_not, maxL] at *; omega
    subst hil
    subst hl
    have hf : sameAt b.ins b.ins.length = (sameIns [] b.ins).1 := by simp [sameAt]
    refine ⟨_, rfl, Rel.agg (.cons (Rel.imm rfl) (.cons (Rel.imm rfl) (.cons (Rel.imm rfl) (.cons (Rel.imm rfl) (.cons (Rel.imm rfl) (.cons (Rel.row rfl rfl (by simp [sameBlock, sameIns_len]) (fun x _ => ?_)) (.cons (Rel.imm rfl) (.cons (Rel.imm rfl) (.cons (Rel.imm rfl) (.cons (Rel.imm rfl) (.cons (Rel.imm rfl) (.cons (Rel.imm rfl) (.cons (Rel.imm rfl) (.cons (Rel.imm rfl) .nil))))))))))))))⟩
    show encIns ((sameAt b.ins b.ins.length).getD x default) = encIns ((sameIns [] b.ins).1.getD x default)
    rw [hf]
end Go.Proofs.Ytmkiahbnfmpieaa
namespace Go.Proofs.Ytmkiahbnfmpieaa
open Go Dv
set_option maxRecDepth 10000
set_option linter.unusedSimpArgs false
def awS : Block := { landing := false, pad := ⟨0, [], false, false⟩, ins := [⟨3, 2, 0, 1, 0, 0, []⟩, ⟨3, 3, 1, 0, 0, 0, []⟩, ⟨4, 4, 1, 0, 0, 0, []⟩], fin := ⟨0, 0, 0, 0, [], 0, 0, 0⟩ }
theorem c_awake17 : FC Try.prog 9 [] (.bool true) := by
  refine FC_intro tok Try.func9 rfl (by decide +kernel) (Nat.le_of_ble_eq_true rfl) ?_
  ((repeat' first | refine AWp_seq ?_ | (refine AWp_reg tok (by rfl) ?_; conv => whnf) | (refine AWp_any tok mix (by rfl) ?_; conv => whnf) | refine AWp_block ?_ | (refine AWp_skip ?_; conv => whnf) | (refine AWp_exit ?_; conv => whnf) | (refine AWp_ret ?_; conv => whnf) | refine AWp_cond rfl (fun hb => ?_) (fun hb => ?_) | (refine @And.intro (underG _ _ _ _) _ ?_ ?_; rotate_left; (conv => whnf); rotate_right) | (refine fun (bn : Bool) (hbn : (0 < _ → bn = _)) => ?_; conv => whnf)); all_goals (try ((first | refine underG_none ?_ | (refine underG_some ?_; intro hgd; conv at hgd => whnf)); (first | refine And.intro (srcObl_rs rfl ?_) ?_ | refine And.intro srcObl_sl ?_ | refine And.intro srcObl_nsl ?_ | skip); (all_goals (try simp only [underG, true_and, and_true, Bool.cond_true_left, Bool.cond_false_left, Bool.cond_true_right, Bool.cond_false_right, Bool.or_eq_true, Bool.and_eq_true, Bool.or_eq_false_iff, Bool.and_eq_false_iff, cond_true, cond_false, Bool.not_eq_eq_eq_not, Bool.not_true, Bool.not_false, decide_eq_true_eq, decide_eq_false_iff_not, Int.toNat_natCast, Nat.zero_add, Decidable.not_not, maxL] at *)); all_goals omega)))
  refine .inr ⟨_, _, _, uG (QH.give (args' := [.agg (encBlock awS)]) (rd := [freshD (some 5)]) (c_sBlock awS) (.cons (.agg (.cons (.imm rfl) (.cons (.imm rfl) (.cons .nsl (.cons (.imm rfl) (.cons (.imm rfl) (.cons (.rsW rfl (by simp) (Nat.le_refl _) rfl (fun x hx => ?_)) (.cons (.imm rfl) (.cons (.imm rfl) (.cons (.imm rfl) (.cons (.imm rfl) (.cons .nsl (.cons (.imm rfl) (.cons (.imm rfl) (.cons (.imm rfl) .nil))))))))))))))) .nil) rfl), ?_⟩
  · match x, hx with
    | 0, _ => (repeat' ((conv => arg 1; whnf); (conv => arg 2; whnf); first | refine Wks.cons .refl ?_ | refine Wks.cons (.nsl rfl) ?_ | exact Wks.nil))
    | 1, _ => (repeat' ((conv => arg 1; whnf); (conv => arg 2; whnf); first | refine Wks.cons .refl ?_ | refine Wks.cons (.nsl rfl) ?_ | exact Wks.nil))
    | 2, _ => (repeat' ((conv => arg 1; whnf); (conv => arg 2; whnf); first | refine Wks.cons .refl ?_ | refine Wks.cons (.nsl rfl) ?_ | exact Wks.nil))
  rw [show sameBlock awS = ⟨false, ⟨0, [], false, false⟩, [⟨3, 2, 0, 1, 0, 0, []⟩, ⟨2, 3, 2, 0, 0, 0, []⟩, ⟨4, 4, 1, 0, 0, 0, []⟩], ⟨0, 0, 0, 0, [], 0, 0, 0⟩⟩ from by rfl]
  conv => whnf
  ((repeat' first | refine AWp_seq ?_ | (refine AWp_reg tok (by rfl) ?_; conv => whnf) | (refine AWp_any tok mix (by rfl) ?_; conv => whnf) | refine AWp_block ?_ | (refine AWp_skip ?_; conv => whnf) | (refine AWp_exit ?_; conv => whnf) | (refine AWp_ret ?_; conv => whnf) | refine AWp_cond rfl (fun hb => ?_) (fun hb => ?_) | (refine @And.intro (underG _ _ _ _) _ ?_ ?_; rotate_left; (conv => whnf); rotate_right) | (refine fun (bn : Bool) (hbn : (0 < _ → bn = _)) => ?_; conv => whnf)); all_goals (try ((first | refine underG_none ?_ | (refine underG_some ?_; intro hgd; conv at hgd => whnf)); (first | refine And.intro (srcObl_rs rfl ?_) ?_ | refine And.intro srcObl_sl ?_ | refine And.intro srcObl_nsl ?_ | skip); (all_goals (try simp only [underG, true_and, and_true, Bool.cond_true_left, Bool.cond_false_left, Bool.cond_true_right, Bool.cond_false_right, Bool.or_eq_true, Bool.and_eq_true, Bool.or_eq_false_iff, Bool.and_eq_false_iff, cond_true, cond_false, Bool.not_eq_eq_eq_not, Bool.not_true, Bool.not_false, decide_eq_true_eq, decide_eq_false_iff_not, Int.toNat_natCast, Nat.zero_add, Decidable.not_not, maxL] at *)); all_goals omega)))
  exact ⟨_, rfl, Rel.bool rfl⟩
def SInv (out : List Ins) (m : Mp) : Prop := ∀ q ∈ m, ∃ y ∈ out, y.op = q.1.getD 0 0 ∧ y.dst = q.2
theorem mem_mput {m : Mp} {k : List Int} {v : Int} {q : List Int × Int} (h : q ∈ mput m k v) : q = (k, v) ∨ q ∈ m := by
  induction m with
  | nil => simp [mput] at h; exact .inl h
  | cons p r ih =>
    obtain ⟨a, b⟩ := p
    simp only [mput] at h
    split at h
    · rcases List.mem_cons.1 h with h | h
      · exact .inl h
      · exact .inr (List.mem_cons_of_mem _ h)
    · rcases List.mem_cons.1 h with h | h
      · exact .inr (h ▸ List.mem_cons_self)
      · rcases ih h with h | h
        · exact .inl h
        · exact .inr (List.mem_cons_of_mem _ h)
theorem ofD_op (x : Ins) : (ofD x).op = x.op := by unfold ofD; split <;> rfl
theorem SInv.step {out : List Ins} {m : Mp} (h : SInv out m) (x : Ins) : SInv (out ++ [sameY m x]) (sameM m x) := by
  have old : ∀ q ∈ m, ∃ y ∈ out ++ [sameY m x], y.op = q.1.getD 0 0 ∧ y.dst = q.2 := fun q hq => by
    obtain ⟨y, hy, h1⟩ := h q hq
    exact ⟨y, List.mem_append_left _ hy, h1⟩
  intro q hq
  unfold sameM at hq
  split at hq
  · exact old q hq
  · split at hq
    · rename_i h1
      rcases mem_mput hq with e | e
      · subst e
        have hh : sameHit m x = false := by
          have := h1.1
          unfold sameOk at this; unfold sameHit
          cases h2 : twoO x.op <;> cases h3 : (mlook m (ofD x).l).isSome <;> simp [h2, h3] at this ⊢
        refine ⟨sameY m x, by simp, ?_, rfl⟩
        rw [show sameY m x = x from if_neg (by rw [hh]; simp)]
        exact (ofD_op x).symm
      · exact old q (List.mem_filter.1 e).1
    · exact old q (List.mem_filter.1 hq).1
theorem sinv_at (l : List Ins) : ∀ i, i ≤ l.length → SInv (sameIns [] (l.take i)).1 (smapAt l i)
  | 0, _ => fun q hq => by simp [smapAt, sameIns] at hq
  | i + 1, h => by
      have := (sinv_at l i (by omega)).step (l.getD i default)
      rw [smapAt_succ (by omega), take_succ_getD default (by omega), sameIns_snoc]
      exact this
theorem mlook_mem {m : Mp} {k : List Int} {v : Int} (h : mlook m k = some v) : (k, v) ∈ m := by
  induction m with
  | nil => cases h
  | cons p r ih =>
    obtain ⟨a, b⟩ := p
    simp only [mlook] at h
    split at h
    · rename_i e; subst e; cases h; simp
    · exact List.mem_cons_of_mem _ (ih h)
theorem sameIns_app : ∀ (l k : List Ins) (m : Mp), sameIns m (l ++ k) = ((sameIns m l).1 ++ (sameIns (sameIns m l).2 k).1, (sameIns (sameIns m l).2 k).2)
  | [], k, m => rfl
  | y :: r, k, m => by
      simp only [List.cons_append, sameIns]
      rw [sameIns_app r k _]
theorem same_sets (b : Block) {i : Nat} (h : i < b.ins.length) : (sameBlock b).ins.getD i default = b.ins.getD i default ∨
    (((sameBlock b).ins.getD i default).op = 2 ∧ ((sameBlock b).ins.getD i default).dst = (b.ins.getD i default).dst ∧
      ∃ k, k < i ∧ ((sameBlock b).ins.getD k default).op = (b.ins.getD i default).op ∧ ((sameBlock b).ins.getD k default).dst = ((sameBlock b).ins.getD i default).a) := by
  have hl : b.ins = b.ins.take i ++ (b.ins.getD i default :: b.ins.drop (i + 1)) := by
    conv => lhs; rw [← List.take_append_drop i b.ins]
    rw [drop_getD default h]
  have hs : (sameBlock b).ins = (sameIns [] (b.ins.take i)).1 ++ (sameY (smapAt b.ins i) (b.ins.getD i default) :: (sameIns (sameM (smapAt b.ins i) (b.ins.getD i default)) (b.ins.drop (i + 1))).1) := by
    show (sameIns [] b.ins).1 = _
    conv => lhs; rw [hl, sameIns_app]
    rfl
  have hlen : (sameIns [] (b.ins.take i)).1.length = i := by rw [sameIns_len, List.length_take]; omega
  have hat : (sameBlock b).ins.getD i default = sameY (smapAt b.ins i) (b.ins.getD i default) := by
    rw [hs, getD_append, hlen, if_neg (by omega), Nat.sub_self]; rfl
  rw [hat]
  cases hh : sameHit (smapAt b.ins i) (b.ins.getD i default) with
  | false => left; exact if_neg (by rw [hh]; simp)
  | true =>
    right
    rw [show sameY (smapAt b.ins i) (b.ins.getD i default) = _ from if_pos hh]
    refine ⟨rfl, rfl, ?_⟩
    unfold sameHit at hh
    cases h2 : twoO (b.ins.getD i default).op with
    | false => rw [h2] at hh; cases hh
    | true =>
      rw [h2] at hh
      cases h3 : mlook (smapAt b.ins i) (ofD (b.ins.getD i default)).l with
      | none => rw [h3] at hh; cases hh
      | some v =>
        obtain ⟨y, hy, h4, h5⟩ := sinv_at b.ins i (by omega) _ (mlook_mem h3)
        obtain ⟨k, hk, hk2⟩ := List.getElem_of_mem hy
        have hk' : k < i := by omega
        refine ⟨k, hk', ?_⟩
        have : (sameBlock b).ins.getD k default = y := by
          rw [hs, getD_append, if_pos (by omega), getD_lt _ hk, hk2]
        rw [this]
        exact ⟨h4.trans (ofD_op _), h5⟩
def foundTo (c : List Ins) (x y : Ins) : Nat → Bool
  | 0 => false
  | j + 1 => bif foundTo c x y j then true else bif decide ((c.getD j default).op = x.op) then decide ((c.getD j default).dst = y.a) else false
theorem foundTo_of {c : List Ins} {x y : Ins} {k : Nat} (h1 : (c.getD k default).op = x.op) (h2 : (c.getD k default).dst = y.a) : ∀ i, k < i → foundTo c x y i = true
  | 0, h => by omega
  | i + 1, h => by
      simp only [foundTo]
      by_cases e : k = i
      · subst e; rw [h1, h2]; simp
      · rw [foundTo_of h1 h2 i (by omega)]; rfl
theorem c_SameSets (b : Block) : FC Try.prog 3 [.agg (encBlock b)] (.bool true) := by
  refine FC_intro tok Try.func3 rfl (by decide +kernel) (Nat.le_of_ble_eq_true rfl) ?_
  refine AWp_facts 0 (fun hl => ?_)
  have hl0 : b.ins.length ≤ maxL := hl.2.2.2.2.2.1.1
  ((repeat' first | refine AWp_seq ?_ | (refine AWp_reg tok (by rfl) ?_; conv => whnf) | (refine AWp_any tok mix (by rfl) ?_; conv => whnf) | refine AWp_block ?_ | (refine AWp_skip ?_; conv => whnf) | (refine AWp_exit ?_; conv => whnf) | (refine AWp_ret ?_; conv => whnf) | refine AWp_cond rfl (fun hb => ?_) (fun hb => ?_) | (refine @And.intro (underG _ _ _ _) _ ?_ ?_; rotate_left; (conv => whnf); rotate_right) | (refine fun (bn : Bool) (hbn : (0 < _ → bn = _)) => ?_; conv => whnf)); all_goals (try ((first | refine underG_none ?_ | (refine underG_some ?_; intro hgd; conv at hgd => whnf)); (first | refine And.intro (srcObl_rs rfl ?_) ?_ | refine And.intro srcObl_sl ?_ | refine And.intro srcObl_nsl ?_ | skip); (all_goals (try simp only [underG, true_and, and_true, Bool.cond_true_left, Bool.cond_false_left, Bool.cond_true_right, Bool.cond_false_right, Bool.or_eq_true, Bool.and_eq_true, Bool.or_eq_false_iff, Bool.and_eq_false_iff, cond_true, cond_false, Bool.not_eq_eq_eq_not, Bool.not_true, Bool.not_false, decide_eq_true_eq, decide_eq_false_iff_not, Int.toNat_natCast, Nat.zero_add, Decidable.not_not, maxL] at *)); all_goals omega)))
  refine .inl ⟨_, _, _, uG (QC.fc c_awake17 rfl), ?_⟩
  conv => whnf
  ((repeat' first | refine AWp_seq ?_ | (refine AWp_reg tok (by rfl) ?_; conv => whnf) | (refine AWp_any tok mix (by rfl) ?_; conv => whnf) | refine AWp_block ?_ | (refine AWp_skip ?_; conv => whnf) | (refine AWp_exit ?_; conv => whnf) | (refine AWp_ret ?_; conv => whnf) | refine AWp_cond rfl (fun hb => ?_) (fun hb => ?_) | (refine @And.intro (underG _ _ _ _) _ ?_ ?_; rotate_left; (conv => whnf); rotate_right) | (refine fun (bn : Bool) (hbn : (0 < _ → bn = _)) => ?_; conv => whnf)); all_goals (try ((first | refine underG_none ?_ | (refine underG_some ?_; intro hgd; conv at hgd => whnf)); (first | refine And.intro (srcObl_rs rfl ?_) ?_ | refine And.intro srcObl_sl ?_ | refine And.intro srcObl_nsl ?_ | skip); (all_goals (try simp only [underG, true_and, and_true, Bool.cond_true_left, Bool.cond_false_left, Bool.cond_true_right, Bool.cond_false_right, Bool.or_eq_true, Bool.and_eq_true, Bool.or_eq_false_iff, Bool.and_eq_false_iff, cond_true, cond_false, Bool.not_eq_eq_eq_not, Bool.not_true, Bool.not_false, decide_eq_true_eq, decide_eq_false_iff_not, Int.toNat_natCast, Nat.zero_add, Decidable.not_not, maxL] at *)); all_goals omega)))
  · cases hb
  · exact ⟨_, rfl, Rel.bool rfl⟩
  have hz : b.ins.length ≤ 100 := by simp only [underG, true_and, and_true, Bool.cond_true_left, Bool.cond_false_left, Bool.cond_true_right, Bool.cond_false_right, Bool.or_eq_true, Bool.and_eq_true, Bool.or_eq_false_iff, Bool.and_eq_false_iff, cond_true, cond_false, Bool.not_eq_eq_eq_not, Bool.not_true, Bool.not_false, decide_eq_true_eq, decide_eq_false_iff_not, Int.toNat_natCast, Nat.zero_add, Decidable.not_not, maxL] at *; omega
  refine .inl ⟨_, _, _, uG (QC.fc (c_sBlock b) rfl), ?_⟩
  conv => whnf
  ((repeat' first | refine AWp_seq ?_ | (refine AWp_reg tok (by rfl) ?_; conv => whnf) | (refine AWp_any tok mix (by rfl) ?_; conv => whnf) | refine AWp_block ?_ | (refine AWp_skip ?_; conv => whnf) | (refine AWp_exit ?_; conv => whnf) | (refine AWp_ret ?_; conv => whnf) | refine AWp_cond rfl (fun hb => ?_) (fun hb => ?_) | (refine @And.intro (underG _ _ _ _) _ ?_ ?_; rotate_left; (conv => whnf); rotate_right) | (refine fun (bn : Bool) (hbn : (0 < _ → bn = _)) => ?_; conv => whnf)); all_goals (try ((first | refine underG_none ?_ | (refine underG_some ?_; intro hgd; conv at hgd => whnf)); (first | refine And.intro (srcObl_rs rfl ?_) ?_ | refine And.intro srcObl_sl ?_ | refine And.intro srcObl_nsl ?_ | skip); (all_goals (try simp only [underG, true_and, and_true, Bool.cond_true_left, Bool.cond_false_left, Bool.cond_true_right, Bool.cond_false_right, Bool.or_eq_true, Bool.and_eq_true, Bool.or_eq_false_iff, Bool.and_eq_false_iff, cond_true, cond_false, Bool.not_eq_eq_eq_not, Bool.not_true, Bool.not_false, decide_eq_true_eq, decide_eq_false_iff_not, Int.toNat_natCast, Nat.zero_add, Decidable.not_not, maxL] at *)); all_goals omega)))
  have hcl : (sameBlock b).ins.length = b.ins.length := sameIns_len _ _
  have hset := fun i => @same_sets b i
  have hfin : (sameBlock b).fin = b.fin := rfl
  generalize sameBlock b = c at hcl hset hfin ⊢
  refine .inl ⟨_, _, _, uG (QC.fc (c_SameEnd b.fin c.fin) rfl), ?_⟩
  conv => whnf
  ((repeat' first | refine AWp_seq ?_ | (refine AWp_reg tok (by rfl) ?_; conv => whnf) | (refine AWp_any tok mix (by rfl) ?_; conv => whnf) | refine AWp_block ?_ | (refine AWp_skip ?_; conv => whnf) | (refine AWp_exit ?_; conv => whnf) | (refine AWp_ret ?_; conv => whnf) | refine AWp_cond rfl (fun hb => ?_) (fun hb => ?_) | (refine @And.intro (underG _ _ _ _) _ ?_ ?_; rotate_left; (conv => whnf); rotate_right) | (refine fun (bn : Bool) (hbn : (0 < _ → bn = _)) => ?_; conv => whnf)); all_goals (try ((first | refine underG_none ?_ | (refine underG_some ?_; intro hgd; conv at hgd => whnf)); (first | refine And.intro (srcObl_rs rfl ?_) ?_ | refine And.intro srcObl_sl ?_ | refine And.intro srcObl_nsl ?_ | skip); (all_goals (try simp only [underG, true_and, and_true, Bool.cond_true_left, Bool.cond_false_left, Bool.cond_true_right, Bool.cond_false_right, Bool.or_eq_true, Bool.and_eq_true, Bool.or_eq_false_iff, Bool.and_eq_false_iff, cond_true, cond_false, Bool.not_eq_eq_eq_not, Bool.not_true, Bool.not_false, decide_eq_true_eq, decide_eq_false_iff_not, Int.toNat_natCast, Nat.zero_add, Decidable.not_not, maxL] at *)); all_goals omega)))
  · exfalso; rw [hfin, hcl] at hb; simp at hb
  clear hb
  refine AWp_loop (fun i : Nat => mkS [(1, .bp (1, 0, 0) 0), (3, .bp (3, 0, 0) 0), (4, iv i)]
      [((1, 0, 0), boxed (encBlock b)), ((3, 0, 0), .row true 14 1 (fun _ => encBlock c))])
    (fun i => i ≤ b.ins.length) (fun i => b.ins.length - i) 0 (Nat.zero_le _) ?_ ?_
  · refine Weak.list [((1, 0, 0), .old (1, 0, 0), boxed (encBlock b)), ((3, 0, 0), .old (3, 0, 0), .row true 14 1 (fun _ => encBlock c))] rfl (by rfl) ?_ ?_
    · ((repeat' first | exact TLes.nil | refine TLes.cons (TLe.eq rfl) ?_ | refine TLes.cons (TLe.nilL rfl ?_) ?_ | refine TLes.cons (TLe.rsL rfl ?_) ?_ | refine TLes.cons (TLe.int ?_) ?_ | refine TLes.cons (TLe.bool ?_) ?_); (all_goals first | rfl | ((try (simp only [underG, true_and, and_true, Bool.cond_true_left, Bool.cond_false_left, Bool.cond_true_right, Bool.cond_false_right, Bool.or_eq_true, Bool.and_eq_true, Bool.or_eq_false_iff, Bool.and_eq_false_iff, cond_true, cond_false, Bool.not_eq_eq_eq_not, Bool.not_true, Bool.not_false, decide_eq_true_eq, decide_eq_false_iff_not, Int.toNat_natCast, Nat.zero_add, Decidable.not_not, maxL] at *)); first | omega | (rw [wrap64 (by omega) (by omega)]; first | rfl | omega | (simp; done) | (simp; omega))) | skip))
    · refine .old rfl (BLe.refl _) (.old rfl (BLe.rowW (Nat.le_refl _) (fun x hx => ?_)) .nil)
      match x, hx with
      | 0, _ => (repeat' ((conv => arg 1; whnf); (conv => arg 2; whnf); first | refine Wks.cons .refl ?_ | refine Wks.cons (.nsl rfl) ?_ | exact Wks.nil))
  intro i hi
  ((repeat' first | refine AWp_seq ?_ | (refine AWp_reg tok (by rfl) ?_; conv => whnf) | (refine AWp_any tok mix (by rfl) ?_; conv => whnf) | refine AWp_block ?_ | (refine AWp_skip ?_; conv => whnf) | (refine AWp_exit ?_; conv => whnf) | (refine AWp_ret ?_; conv => whnf) | refine AWp_cond rfl (fun hb => ?_) (fun hb => ?_) | (refine @And.intro (underG _ _ _ _) _ ?_ ?_; rotate_left; (conv => whnf); rotate_right) | (refine fun (bn : Bool) (hbn : (0 < _ → bn = _)) => ?_; conv => whnf)); all_goals (try ((first | refine underG_none ?_ | (refine underG_some ?_; intro hgd; conv at hgd => whnf)); (first | refine And.intro (srcObl_rs rfl ?_) ?_ | refine And.intro srcObl_sl ?_ | refine And.intro srcObl_nsl ?_ | skip); (all_goals (try simp only [underG, true_and, and_true, Bool.cond_true_left, Bool.cond_false_left, Bool.cond_true_right, Bool.cond_false_right, Bool.or_eq_true, Bool.and_eq_true, Bool.or_eq_false_iff, Bool.and_eq_false_iff, cond_true, cond_false, Bool.not_eq_eq_eq_not, Bool.not_true, Bool.not_false, decide_eq_true_eq, decide_eq_false_iff_not, Int.toNat_natCast, Nat.zero_add, Decidable.not_not, maxL] at *)); all_goals omega)))
  · have hlt : i < b.ins.length := by simp only [underG, true_and, and_true, Bool.cond_true_left, Bool.cond_false_left, Bool.cond_true_right, Bool.cond_false_right, Bool.or_eq_true, Bool.and_eq_true, Bool.or_eq_false_iff, Bool.and_eq_false_iff, cond_true, cond_false, Bool.not_eq_eq_eq_not, Bool.not_true, Bool.not_false, decide_eq_true_eq, decide_eq_false_iff_not, Int.toNat_natCast, Nat.zero_add, Decidable.not_not, maxL] at *; omega
    have hs := hset i hlt
    generalize hx : b.ins.getD i default = x at hs
    generalize hy : c.ins.getD i default = y at hs
    have hx' : b.ins.getD (i : Int).toNat default = x := by simpa using hx
    have hy' : c.ins.getD (i : Int).toNat default = y := by simpa using hy
    have hcall : ∀ x' y', x' = x → y' = y → FC Try.prog 12 [.agg (encIns x'), .agg (encIns y')] (.bool (decide (x = y))) := fun x' y' e1 e2 => by rw [e1, e2]; exact c_SameIns x y
    refine .inl ⟨_, _, _, uG (QC.fc (hcall (b.ins.getD (i : Int).toNat default) (c.ins.getD (i : Int).toNat default) hx' hy') rfl), ?_⟩
    conv => whnf
    ((repeat' first | refine AWp_seq ?_ | (refine AWp_reg tok (by rfl) ?_; conv => whnf) | (refine AWp_any tok mix (by rfl) ?_; conv => whnf) | refine AWp_block ?_ | (refine AWp_skip ?_; conv => whnf) | (refine AWp_exit ?_; conv => whnf) | (refine AWp_ret ?_; conv => whnf) | refine AWp_cond rfl (fun hb => ?_) (fun hb => ?_) | (refine @And.intro (underG _ _ _ _) _ ?_ ?_; rotate_left; (conv => whnf); rotate_right) | (refine fun (bn : Bool) (hbn : (0 < _ → bn = _)) => ?_; conv => whnf)); all_goals (try ((first | refine underG_none ?_ | (refine underG_some ?_; intro hgd; conv at hgd => whnf)); (first | refine And.intro (srcObl_rs rfl ?_) ?_ | refine And.intro srcObl_sl ?_ | refine And.intro srcObl_nsl ?_ | skip); (all_goals (try simp only [underG, true_and, and_true, Bool.cond_true_left, Bool.cond_false_left, Bool.cond_true_right, Bool.cond_false_right, Bool.or_eq_true, Bool.and_eq_true, Bool.or_eq_false_iff, Bool.and_eq_false_iff, cond_true, cond_false, Bool.not_eq_eq_eq_not, Bool.not_true, Bool.not_false, decide_eq_true_eq, decide_eq_false_iff_not, Int.toNat_natCast, Nat.zero_add, Decidable.not_not, maxL] at *)); all_goals omega)))
    · refine ⟨i + 1, hlt, by omega, Weak.list [((1, 0, 0), .old (1, 0, 0), boxed (encBlock b)), ((3, 0, 0), .old (3, 0, 0), .row true 14 1 (fun _ => encBlock c))] rfl (by rfl) ?_ ?_⟩
      · ((repeat' first | exact TLes.nil | refine TLes.cons (TLe.eq rfl) ?_ | refine TLes.cons (TLe.nilL rfl ?_) ?_ | refine TLes.cons (TLe.rsL rfl ?_) ?_ | refine TLes.cons (TLe.int ?_) ?_ | refine TLes.cons (TLe.bool ?_) ?_); (all_goals first | rfl | ((try (simp only [underG, true_and, and_true, Bool.cond_true_left, Bool.cond_false_left, Bool.cond_true_right, Bool.cond_false_right, Bool.or_eq_true, Bool.and_eq_true, Bool.or_eq_false_iff, Bool.and_eq_false_iff, cond_true, cond_false, Bool.not_eq_eq_eq_not, Bool.not_true, Bool.not_false, decide_eq_true_eq, decide_eq_false_iff_not, Int.toNat_natCast, Nat.zero_add, Decidable.not_not, maxL] at *)); first | omega | (rw [wrap64 (by omega) (by omega)]; first | rfl | omega | (simp; done) | (simp; omega))) | skip))
      · exact .old rfl (BLe.refl _) (.old rfl (BLe.refl _) .nil)
    refine AWp_loop (fun j : Nat => mkS [(1, .bp (1, 0, 0) 0), (3, .bp (3, 0, 0) 0), (4, iv i), (5, .bp (5, 0, 0) 0), (6, .bp (6, 0, 0) 0), (7, .bool (foundTo c.ins x y j)), (8, iv j)]
      [((1, 0, 0), boxed (encBlock b)), ((3, 0, 0), .row true 14 1 (fun _ => encBlock c)), ((5, 0, 0), .row true 7 1 (fun _ => encIns x)), ((6, 0, 0), .row true 7 1 (fun _ => encIns y))])
      (fun j => j ≤ i) (fun j => i - j) 0 (Nat.zero_le _) ?_ ?_
    · refine Weak.list [((1, 0, 0), .old (1, 0, 0), boxed (encBlock b)), ((3, 0, 0), .old (3, 0, 0), .row true 14 1 (fun _ => encBlock c)), ((5, 0, 0), .old (5, 0, 0), .row true 7 1 (fun _ => encIns x)), ((6, 0, 0), .old (6, 0, 0), .row true 7 1 (fun _ => encIns y))] rfl (by rfl) ?_ ?_
      · ((repeat' first | exact TLes.nil | refine TLes.cons (TLe.eq rfl) ?_ | refine TLes.cons (TLe.nilL rfl ?_) ?_ | refine TLes.cons (TLe.rsL rfl ?_) ?_ | refine TLes.cons (TLe.int ?_) ?_ | refine TLes.cons (TLe.bool ?_) ?_); (all_goals first | rfl | ((try (simp only [underG, true_and, and_true, Bool.cond_true_left, Bool.cond_false_left, Bool.cond_true_right, Bool.cond_false_right, Bool.or_eq_true, Bool.and_eq_true, Bool.or_eq_false_iff, Bool.and_eq_false_iff, cond_true, cond_false, Bool.not_eq_eq_eq_not, Bool.not_true, Bool.not_false, decide_eq_true_eq, decide_eq_false_iff_not, Int.toNat_natCast, Nat.zero_add, Decidable.not_not, maxL] at *)); first | omega | (rw [wrap64 (by omega) (by omega)]; first | rfl | omega | (simp; done) | (simp; omega))) | skip))
      · refine .old rfl (BLe.refl _) (.old rfl (BLe.refl _) (.old rfl (BLe.rowW (Nat.le_refl _) (fun z hz => ?_)) (.old rfl (BLe.rowW (Nat.le_refl _) (fun z hz => ?_)) .nil)))
        · match z, hz with
          | 0, _ => rw [← hx']; exact Wks.of rfl
        · match z, hz with
          | 0, _ => rw [← hy']; exact Wks.of rfl
    intro j hj
    ((repeat' first | refine AWp_seq ?_ | (refine AWp_reg tok (by rfl) ?_; conv => whnf) | (refine AWp_any tok mix (by rfl) ?_; conv => whnf) | refine AWp_block ?_ | (refine AWp_skip ?_; conv => whnf) | (refine AWp_exit ?_; conv => whnf) | (refine AWp_ret ?_; conv => whnf) | refine AWp_cond rfl (fun hb => ?_) (fun hb => ?_) | (refine @And.intro (underG _ _ _ _) _ ?_ ?_; rotate_left; (conv => whnf); rotate_right) | (refine fun (bn : Bool) (hbn : (0 < _ → bn = _)) => ?_; conv => whnf)); all_goals (try ((first | refine underG_none ?_ | (refine underG_some ?_; intro hgd; conv at hgd => whnf)); (first | refine And.intro (srcObl_rs rfl ?_) ?_ | refine And.intro srcObl_sl ?_ | refine And.intro srcObl_nsl ?_ | skip); (all_goals (try simp only [underG, true_and, and_true, Bool.cond_true_left, Bool.cond_false_left, Bool.cond_true_right, Bool.cond_false_right, Bool.or_eq_true, Bool.and_eq_true, Bool.or_eq_false_iff, Bool.and_eq_false_iff, cond_true, cond_false, Bool.not_eq_eq_eq_not, Bool.not_true, Bool.not_false, decide_eq_true_eq, decide_eq_false_iff_not, Int.toNat_natCast, Nat.zero_add, Decidable.not_not, maxL] at *)); all_goals omega)))
    · have hjl : j < i := by simp only [underG, true_and, and_true, Bool.cond_true_left, Bool.cond_false_left, Bool.cond_true_right, Bool.cond_false_right, Bool.or_eq_true, Bool.and_eq_true, Bool.or_eq_false_iff, Bool.and_eq_false_iff, cond_true, cond_false, Bool.not_eq_eq_eq_not, Bool.not_true, Bool.not_false, decide_eq_true_eq, decide_eq_false_iff_not, Int.toNat_natCast, Nat.zero_add, Decidable.not_not, maxL] at *; omega
      have hgj : c.ins.getD (j : Int).toNat default = c.ins.getD j default := by simp
      refine ⟨j + 1, hjl, by omega, Weak.list [((1, 0, 0), .old (1, 0, 0), boxed (encBlock b)), ((3, 0, 0), .old (3, 0, 0), .row true 14 1 (fun _ => encBlock c)), ((5, 0, 0), .old (5, 0, 0), .row true 7 1 (fun _ => encIns x)), ((6, 0, 0), .old (6, 0, 0), .row true 7 1 (fun _ => encIns y))] rfl (by rfl) ?_ ?_⟩
      · ((repeat' first | exact TLes.nil | refine TLes.cons (TLe.eq rfl) ?_ | refine TLes.cons (TLe.nilL rfl ?_) ?_ | refine TLes.cons (TLe.rsL rfl ?_) ?_ | refine TLes.cons (TLe.int ?_) ?_ | refine TLes.cons (TLe.bool ?_) ?_); (all_goals first | rfl | ((try (simp only [underG, true_and, and_true, Bool.cond_true_left, Bool.cond_false_left, Bool.cond_true_right, Bool.cond_false_right, Bool.or_eq_true, Bool.and_eq_true, Bool.or_eq_false_iff, Bool.and_eq_false_iff, cond_true, cond_false, Bool.not_eq_eq_eq_not, Bool.not_true, Bool.not_false, decide_eq_true_eq, decide_eq_false_iff_not, Int.toNat_natCast, Nat.zero_add, Decidable.not_not, maxL] at *)); first | omega | (rw [wrap64 (by omega) (by omega)]; first | rfl | omega | (simp; done) | (simp; omega))) | skip))
      · exact .old rfl (BLe.refl _) (.old rfl (BLe.refl _) (.old rfl (BLe.refl _) (.old rfl (BLe.refl _) .nil)))
    · rename_i hxy hji
      exfalso
      have hlast := hb
      have hji' : j = i := by simp only [underG, true_and, and_true, Bool.cond_true_left, Bool.cond_false_left, Bool.cond_true_right, Bool.cond_false_right, Bool.or_eq_true, Bool.and_eq_true, Bool.or_eq_false_iff, Bool.and_eq_false_iff, cond_true, cond_false, Bool.not_eq_eq_eq_not, Bool.not_true, Bool.not_false, decide_eq_true_eq, decide_eq_false_iff_not, Int.toNat_natCast, Nat.zero_add, Decidable.not_not, maxL] at *; omega
      subst hji'
      rcases hs with h | ⟨h1, h2, k, h3, h4, h5⟩
      · rw [h] at hxy; simp at hxy
      · rw [foundTo_of h4 h5 j h3, h1, h2] at hlast; simp at hlast
    · refine ⟨i + 1, hlt, by omega, Weak.list [((1, 0, 0), .old (1, 0, 0), boxed (encBlock b)), ((3, 0, 0), .old (3, 0, 0), .row true 14 1 (fun _ => encBlock c))] rfl (by rfl) ?_ ?_⟩
      · ((repeat' first | exact TLes.nil | refine TLes.cons (TLe.eq rfl) ?_ | refine TLes.cons (TLe.nilL rfl ?_) ?_ | refine TLes.cons (TLe.rsL rfl ?_) ?_ | refine TLes.cons (TLe.int ?_) ?_ | refine TLes.cons (TLe.bool ?_) ?_); (all_goals first | rfl | ((try (simp only [underG, true_and, and_true, Bool.cond_true_left, Bool.cond_false_left, Bool.cond_true_right, Bool.cond_false_right, Bool.or_eq_true, Bool.and_eq_true, Bool.or_eq_false_iff, Bool.and_eq_false_iff, cond_true, cond_false, Bool.not_eq_eq_eq_not, Bool.not_true, Bool.not_false, decide_eq_true_eq, decide_eq_false_iff_not, Int.toNat_natCast, Nat.zero_add, Decidable.not_not, maxL] at *)); first | omega | (rw [wrap64 (by omega) (by omega)]; first | rfl | omega | (simp; done) | (simp; omega))) | skip))
      · exact .old rfl (BLe.refl _) (.old rfl (BLe.refl _) .nil)
  · exact ⟨_, rfl, Rel.bool rfl⟩
end Go.Proofs.Ytmkiahbnfmpieaa
namespace Go.Proofs.Ytmkiahbnfmpieaa
open Go Dv Go.ChangeShapes Go.WideShapes Go.ChangeAt Go.RowKit
open Go.Proofs.Ytmkiahbnfmpieaa
set_option maxRecDepth 100000
set_option linter.unusedVariables false
namespace sameSets
theorem own : ownKnob Try.prog.godebug = none := by kernel_rfl
theorem contract (H : Type) (enc : TypeId × Value → H) (W : World) (base : Nat) (args : Array Value) (ds gs : List (DataW H)) (before : List MemPlace) (hk : Rows.uptoSmall H (ds ++ gs) = true)
    (hval : ∀ (j : Nat) t v, Try.f3.params[j]? = some t → args[j]? = some v → Value.okWide Try.prog W .any base t v)
    (hW : DataW.Whole enc Try.prog Try.f3.params.toList Rows.sameSetsSpec.vars false W args.toList ds gs before) :
    Calls Try.prog 3 args W fun e W' => ∃ v, e = .returned v ∧ Rows.sameSetsSpec.post enc Try.prog Try.f3 false true false false W args v W' := by
  have hsm := small_of hk
  have hW' := hW
  obtain ⟨p, q, hA0, hV, rfl, hfz, hnd⟩ := hW
  have hA : DataW.TrodAll enc Try.prog W 0 (fun _ => true) true Try.f3.params.toList args.toList ds p := hA0
  rw [Try.params3] at hA hval
  obtain ⟨v0, vs0, d0, ds0, p0, q0, hargs, rfl, rfl, h0, r0⟩ := trodAll_cons hA
  obtain ⟨rfl, rfl, rfl⟩ := trodAll_nil r0
  obtain rfl : args = #[v0] := by cases args; simp_all
  obtain ⟨x0, hx0⟩ := arg_struct Try.underlying30 (hval 0 _ v0 rfl rfl) h0 rd_Block (hsm d0 (by simp))
  obtain ⟨rfl, rfl⟩ := trodVars_none hV
  refine law_contract (tb := 4) (by decide +kernel) (by rw [Try.params3]; decide +kernel) rfl (by kernel_rfl) Try.underlying4 hW' ⟨rfl, rfl, rfl⟩ (FC.calls (c_SameSets x0) ?_)
  simp only [Vs]
  exact ⟨_, _, rfl, hx0, rfl⟩
theorem lifted (os : Os) (started : os.Started) (H : Type) (enc : TypeId × Value → H) (F : Stop.Interp) :
    ReturnsInHanded {} Try.checked os 3 .any ((Rows.OpenSpec.upto Rows.sameSetsSpec).pre6 enc Try.prog Try.f3 Rows.sameSetsUptoRow.domain false) (((Rows.OpenSpec.upto Rows.sameSetsSpec).at F).post enc Try.prog Try.f3 false true false false) := by
  refine returnsInHanded_of_cond (C := Try.checked) (s := Rows.OpenSpec.upto Rows.sameSetsSpec) (k := Rows.uptoSmall) rfl own started (by kernel_rfl) Try.func3
    (OpenSpec.witness (enc := enc) (C := Try.checked) (s := Rows.OpenSpec.upto Rows.sameSetsSpec) (k := Rows.uptoSmall) rfl false ⟨#[], #[.agg #[.bool false, .int .i64 0, .slice none 0 0, .bool false, .bool false, .slice none 0 0, .int .i64 0, .int .i64 0, .int .i64 0, .int .i64 0, .slice none 0 0, .int .i64 0, .int .i64 0, .int .i64 0]], []⟩ 8 (by kernel_rfl) (by kernel_rfl) (by kernel_rfl)
      (x := ([.agg [.lit (.bool false), .agg [.lit (.int .i64 0), .nil, .lit (.bool false), .lit (.bool false)], .nil, .agg [.lit (.int .i64 0), .lit (.int .i64 0), .lit (.int .i64 0), .lit (.int .i64 0), .nil, .lit (.int .i64 0), .lit (.int .i64 0), .lit (.int .i64 0)]]], [], [])) (by kernel_rfl) rfl (by kernel_rfl)) ?_
  intro W base args ds gs before hval hW _ hk _
  exact contract H enc W base args ds gs before hk hval hW
theorem over : Rows.sameSetsUptoRow.holds Try.pinned (Rows.OpenSpec.upto Rows.sameSetsSpec) :=
  OpenClaim.holds_of_cond 3 Try.f3 rfl rfl rfl rfl rfl rfl rfl ⟨rfl, rfl, rfl, rfl, rfl⟩ rfl rfl rfl rfl rfl (by kernel_rfl) Try.func3 (by kernel_rfl)
    (of_decide_eq_true (by kernel_rfl)) (by unfold Func.isWrapper; first | (rw [if_pos (by decide +kernel)]; kernel_rfl) | (rw [if_neg (by decide +kernel)]; exact ⟨rfl, rfl⟩))
    (fun os started H enc _ F => lifted os started H enc F)
end sameSets
theorem sameSets_holds : Rows.SameSetsUptoSaid := sameSets.over
end Go.Proofs.Ytmkiahbnfmpieaa
