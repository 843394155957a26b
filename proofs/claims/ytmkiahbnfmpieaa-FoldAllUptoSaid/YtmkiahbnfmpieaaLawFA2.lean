/- For all words and all lists of instructions, davitlaw16.FoldAll returns true and leaves its arguments as they were. Conditions: the arguments hold together at most 1048576 values (the form UptoSaid). -/
import Derived.Test.YtmkiahbnfmpieaaDvb2
import Derived.Test.YtmkiahbnfmpieaaLawFA1
set_option linter.unusedVariables false
set_option linter.unusedSimpArgs false
set_option linter.unnecessarySimpa false
namespace Go.Proofs.Ytmkiahbnfmpieaa
open Go Dv
set_option maxRecDepth 10000
set_option linter.unusedSimpArgs false
def w16 (x : Int) : Int := IntKind.u16.wrap x
def doW (op a b : Int) : Int × Bool :=
  if op = 2 then (a, true) else if op = 3 then (w16 (a + b), true) else if op = 4 then (w16 (a - b), true) else if op = 5 then (w16 (a * b), true)
  else if op = 6 then (if b = 0 then (0, false) else (w16 (a.tdiv b), true)) else if op = 7 then (if a = b then 1 else 0, true) else if op = 8 then (if a < b then 1 else 0, true) else (0, false)
def pureO (op : Int) : Bool := bif decide (2 ≤ op) then decide (op ≤ 8) else false
def twoO (op : Int) : Bool := bif decide (2 < op) then decide (op ≤ 8) else false
def turnsO (op : Int) : Bool := decide (op = 3 ∨ op = 5 ∨ op = 7)
theorem c_truth (b : Bool) : FC Try.prog 48 [.bool b] (.int .u16 (if b = true then 1 else 0)) := by
  refine FC_intro tok Try.func48 rfl (by decide +kernel) (Nat.le_of_ble_eq_true rfl) ?_
  ((repeat' first | refine AWp_seq ?_ | (refine AWp_reg tok (by rfl) ?_; conv => whnf) | (refine AWp_any tok mix (by rfl) ?_; conv => whnf) | refine AWp_block ?_ | (refine AWp_skip ?_; conv => whnf) | (refine AWp_exit ?_; conv => whnf) | (refine AWp_ret ?_; conv => whnf) | refine AWp_cond rfl (fun hb => ?_) (fun hb => ?_) | (refine @And.intro (underG _ _ _ _) _ ?_ ?_; rotate_left; (conv => whnf); rotate_right) | (refine fun (bn : Bool) (hbn : (0 < _ → bn = _)) => ?_; conv => whnf)); all_goals (try ((first | refine underG_none ?_ | (refine underG_some ?_; intro hgd; conv at hgd => whnf)); (first | refine And.intro (srcObl_rs rfl ?_) ?_ | refine And.intro srcObl_sl ?_ | refine And.intro srcObl_nsl ?_ | skip); (all_goals (try simp only [underG, true_and, and_true, Bool.cond_true_left, Bool.cond_false_left, Bool.cond_true_right, Bool.cond_false_right, Bool.or_eq_true, Bool.and_eq_true, Bool.or_eq_false_iff, Bool.and_eq_false_iff, cond_true, cond_false, Bool.not_eq_eq_eq_not, Bool.not_true, Bool.not_false, decide_eq_true_eq, decide_eq_false_iff_not, Int.toNat_natCast, Nat.zero_add, Decidable.not_not, maxL] at *)); all_goals omega)))
  · exact ⟨_, rfl, Rel.int (by rw [if_pos hb])⟩
  · exact ⟨_, rfl, Rel.int (by rw [if_neg (by rw [hb]; simp)])⟩
theorem c_Pure (op : Int) : FC Try.prog 43 [iv op] (.bool (pureO op)) := by
  refine FC_intro tok Try.func43 rfl (by decide +kernel) (Nat.le_of_ble_eq_true rfl) ?_
  ((repeat' first | refine AWp_seq ?_ | (refine AWp_reg tok (by rfl) ?_; conv => whnf) | (refine AWp_any tok mix (by rfl) ?_; conv => whnf) | refine AWp_block ?_ | (refine AWp_skip ?_; conv => whnf) | (refine AWp_exit ?_; conv => whnf) | (refine AWp_ret ?_; conv => whnf) | refine AWp_cond rfl (fun hb => ?_) (fun hb => ?_) | (refine @And.intro (underG _ _ _ _) _ ?_ ?_; rotate_left; (conv => whnf); rotate_right) | (refine fun (bn : Bool) (hbn : (0 < _ → bn = _)) => ?_; conv => whnf)); all_goals (try ((first | refine underG_none ?_ | (refine underG_some ?_; intro hgd; conv at hgd => whnf)); (first | refine And.intro (srcObl_rs rfl ?_) ?_ | refine And.intro srcObl_sl ?_ | refine And.intro srcObl_nsl ?_ | skip); (all_goals (try simp only [underG, true_and, and_true, Bool.cond_true_left, Bool.cond_false_left, Bool.cond_true_right, Bool.cond_false_right, Bool.or_eq_true, Bool.and_eq_true, Bool.or_eq_false_iff, Bool.and_eq_false_iff, cond_true, cond_false, Bool.not_eq_eq_eq_not, Bool.not_true, Bool.not_false, decide_eq_true_eq, decide_eq_false_iff_not, Int.toNat_natCast, Nat.zero_add, Decidable.not_not, maxL] at *)); all_goals omega)))
  exact ⟨_, rfl, Rel.imm rfl⟩
theorem c_Two (op : Int) : FC Try.prog 42 [iv op] (.bool (twoO op)) := by
  refine FC_intro tok Try.func42 rfl (by decide +kernel) (Nat.le_of_ble_eq_true rfl) ?_
  ((repeat' first | refine AWp_seq ?_ | (refine AWp_reg tok (by rfl) ?_; conv => whnf) | (refine AWp_any tok mix (by rfl) ?_; conv => whnf) | refine AWp_block ?_ | (refine AWp_skip ?_; conv => whnf) | (refine AWp_exit ?_; conv => whnf) | (refine AWp_ret ?_; conv => whnf) | refine AWp_cond rfl (fun hb => ?_) (fun hb => ?_) | (refine @And.intro (underG _ _ _ _) _ ?_ ?_; rotate_left; (conv => whnf); rotate_right) | (refine fun (bn : Bool) (hbn : (0 < _ → bn = _)) => ?_; conv => whnf)); all_goals (try ((first | refine underG_none ?_ | (refine underG_some ?_; intro hgd; conv at hgd => whnf)); (first | refine And.intro (srcObl_rs rfl ?_) ?_ | refine And.intro srcObl_sl ?_ | refine And.intro srcObl_nsl ?_ | skip); (all_goals (try simp only [underG, true_and, and_true, Bool.cond_true_left, Bool.cond_false_left, Bool.cond_true_right, Bool.cond_false_right, Bool.or_eq_true, Bool.and_eq_true, Bool.or_eq_false_iff, Bool.and_eq_false_iff, cond_true, cond_false, Bool.not_eq_eq_eq_not, Bool.not_true, Bool.not_false, decide_eq_true_eq, decide_eq_false_iff_not, Int.toNat_natCast, Nat.zero_add, Decidable.not_not, maxL] at *)); all_goals omega)))
  exact ⟨_, rfl, Rel.imm rfl⟩
theorem c_Turns (op : Int) : FC Try.prog 41 [iv op] (.bool (turnsO op)) := by
  refine FC_intro tok Try.func41 rfl (by decide +kernel) (Nat.le_of_ble_eq_true rfl) ?_
  ((repeat' first | refine AWp_seq ?_ | (refine AWp_reg tok (by rfl) ?_; conv => whnf) | (refine AWp_any tok mix (by rfl) ?_; conv => whnf) | refine AWp_block ?_ | (refine AWp_skip ?_; conv => whnf) | (refine AWp_exit ?_; conv => whnf) | (refine AWp_ret ?_; conv => whnf) | refine AWp_cond rfl (fun hb => ?_) (fun hb => ?_) | (refine @And.intro (underG _ _ _ _) _ ?_ ?_; rotate_left; (conv => whnf); rotate_right) | (refine fun (bn : Bool) (hbn : (0 < _ → bn = _)) => ?_; conv => whnf)); all_goals (try ((first | refine underG_none ?_ | (refine underG_some ?_; intro hgd; conv at hgd => whnf)); (first | refine And.intro (srcObl_rs rfl ?_) ?_ | refine And.intro srcObl_sl ?_ | refine And.intro srcObl_nsl ?_ | skip); (all_goals (try simp only [underG, true_and, and_true, Bool.cond_true_left, Bool.cond_false_left, Bool.cond_true_right, Bool.cond_false_right, Bool.or_eq_true, Bool.and_eq_true, Bool.or_eq_false_iff, Bool.and_eq_false_iff, cond_true, cond_false, Bool.not_eq_eq_eq_not, Bool.not_true, Bool.not_false, decide_eq_true_eq, decide_eq_false_iff_not, Int.toNat_natCast, Nat.zero_add, Decidable.not_not, maxL] at *)); all_goals omega)))
  all_goals simp only [underG, true_and, and_true, Bool.cond_true_left, Bool.cond_false_left, Bool.cond_true_right, Bool.cond_false_right, Bool.or_eq_true, Bool.and_eq_true, Bool.or_eq_false_iff, Bool.and_eq_false_iff, cond_true, cond_false, Bool.not_eq_eq_eq_not, Bool.not_true, Bool.not_false, decide_eq_true_eq, decide_eq_false_iff_not, Int.toNat_natCast, Nat.zero_add, Decidable.not_not, maxL] at *
  all_goals refine ⟨_, rfl, Rel.bool ?_⟩
  all_goals simp only [turnsO]
  all_goals symm
  all_goals first | (rw [decide_eq_true_eq]; omega) | (rw [decide_eq_false_iff_not]; omega)
theorem c_Do (op a b : Int) : FC Try.prog 44 [iv op, .int .u16 a, .int .u16 b] (.tup [.int .u16 (doW op a b).1, .bool (doW op a b).2]) := by
  refine FC_intro tok Try.func44 rfl (by decide +kernel) (Nat.le_of_ble_eq_true rfl) ?_
  ((repeat' first | refine AWp_seq ?_ | (refine AWp_reg tok (by rfl) ?_; conv => whnf) | (refine AWp_any tok mix (by rfl) ?_; conv => whnf) | refine AWp_block ?_ | (refine AWp_skip ?_; conv => whnf) | (refine AWp_exit ?_; conv => whnf) | (refine AWp_ret ?_; conv => whnf) | refine AWp_cond rfl (fun hb => ?_) (fun hb => ?_) | (refine @And.intro (underG _ _ _ _) _ ?_ ?_; rotate_left; (conv => whnf); rotate_right) | (refine fun (bn : Bool) (hbn : (0 < _ → bn = _)) => ?_; conv => whnf)); all_goals (try ((first | refine underG_none ?_ | (refine underG_some ?_; intro hgd; conv at hgd => whnf)); (first | refine And.intro (srcObl_rs rfl ?_) ?_ | refine And.intro srcObl_sl ?_ | refine And.intro srcObl_nsl ?_ | skip); (all_goals (try simp only [underG, true_and, and_true, Bool.cond_true_left, Bool.cond_false_left, Bool.cond_true_right, Bool.cond_false_right, Bool.or_eq_true, Bool.and_eq_true, Bool.or_eq_false_iff, Bool.and_eq_false_iff, cond_true, cond_false, Bool.not_eq_eq_eq_not, Bool.not_true, Bool.not_false, decide_eq_true_eq, decide_eq_false_iff_not, Int.toNat_natCast, Nat.zero_add, Decidable.not_not, maxL] at *)); all_goals omega)))
  all_goals (try (refine .inl ⟨_, _, _, uG (QC.fc (c_truth _) rfl), ?_⟩; conv => whnf))
  ((repeat' first | refine AWp_seq ?_ | (refine AWp_reg tok (by rfl) ?_; conv => whnf) | (refine AWp_any tok mix (by rfl) ?_; conv => whnf) | refine AWp_block ?_ | (refine AWp_skip ?_; conv => whnf) | (refine AWp_exit ?_; conv => whnf) | (refine AWp_ret ?_; conv => whnf) | refine AWp_cond rfl (fun hb => ?_) (fun hb => ?_) | (refine @And.intro (underG _ _ _ _) _ ?_ ?_; rotate_left; (conv => whnf); rotate_right) | (refine fun (bn : Bool) (hbn : (0 < _ → bn = _)) => ?_; conv => whnf)); all_goals (try ((first | refine underG_none ?_ | (refine underG_some ?_; intro hgd; conv at hgd => whnf)); (first | refine And.intro (srcObl_rs rfl ?_) ?_ | refine And.intro srcObl_sl ?_ | refine And.intro srcObl_nsl ?_ | skip); (all_goals (try simp only [underG, true_and, and_true, Bool.cond_true_left, Bool.cond_false_left, Bool.cond_true_right, Bool.cond_false_right, Bool.or_eq_true, Bool.and_eq_true, Bool.or_eq_false_iff, Bool.and_eq_false_iff, cond_true, cond_false, Bool.not_eq_eq_eq_not, Bool.not_true, Bool.not_false, decide_eq_true_eq, decide_eq_false_iff_not, Int.toNat_natCast, Nat.zero_add, Decidable.not_not, maxL] at *)); all_goals omega)))
  all_goals refine ⟨_, rfl, Rel.tup (.cons (Rel.int ?_) (.cons (Rel.bool ?_) .nil))⟩
  all_goals simp only [underG, true_and, and_true, Bool.cond_true_left, Bool.cond_false_left, Bool.cond_true_right, Bool.cond_false_right, Bool.or_eq_true, Bool.and_eq_true, Bool.or_eq_false_iff, Bool.and_eq_false_iff, cond_true, cond_false, Bool.not_eq_eq_eq_not, Bool.not_true, Bool.not_false, decide_eq_true_eq, decide_eq_false_iff_not, Int.toNat_natCast, Nat.zero_add, Decidable.not_not, maxL] at *
  all_goals simp [doW, w16, *]
/-! ### fold -/
abbrev κF : MK := ⟨false, 1, .i64, .u16⟩
abbrev mpF (m : List (List Int × Int)) : ABlock := .map (.assoc κF m)
def ansW (m : List (List Int × Int)) (x : Ins) : Int × Bool :=
  match mlook m [x.a] with
  | none => (0, false)
  | some a => if pureO x.op = true then (if twoO x.op = true then (match mlook m [x.b] with | none => (0, false) | some b => doW x.op a b) else doW x.op a 0) else (0, false)
theorem _root_.Dv.TLe.ib {R : Dv.Rows} {k : IntKind} {n m : Int} {b c : Bool} (h1 : n = m) (h2 : b = c) : TLe R (.tup [.int k n, .bool b]) (.tup [.int k m, .bool c]) := by
  subst h1; subst h2; exact .eq rfl
theorem c_answer (m : List (List Int × Int)) (x : Ins) : HC Try.prog [i0] 30 [(i0, mpF m)] [.mp i0, .agg (encIns x)] (.tup [.int .u16 (ansW m x).1, .bool (ansW m x).2]) [(i0, mpF m)] := by
  refine HC_intro tok Try.func30 rfl (by decide +kernel) (Nat.le_of_ble_eq_true rfl) ?_
  ((repeat' first | refine AWp_seq ?_ | (refine AWp_reg tok (by rfl) ?_; conv => whnf) | (refine AWp_any tok mix (by rfl) ?_; conv => whnf) | refine AWp_block ?_ | (refine AWp_skip ?_; conv => whnf) | (refine AWp_exit ?_; conv => whnf) | (refine AWp_ret ?_; conv => whnf) | refine AWp_cond rfl (fun hb => ?_) (fun hb => ?_) | (refine @And.intro (underG _ _ _ _) _ ?_ ?_; rotate_left; (conv => whnf); rotate_right) | (refine fun (bn : Bool) (hbn : (0 < _ → bn = _)) => ?_; conv => whnf)); all_goals (try ((first | refine underG_none ?_ | (refine underG_some ?_; intro hgd; conv at hgd => whnf)); (first | refine And.intro (srcObl_rs rfl ?_) ?_ | refine And.intro srcObl_sl ?_ | refine And.intro srcObl_nsl ?_ | skip); (all_goals (try simp only [underG, true_and, and_true, Bool.cond_true_left, Bool.cond_false_left, Bool.cond_true_right, Bool.cond_false_right, Bool.or_eq_true, Bool.and_eq_true, Bool.or_eq_false_iff, Bool.and_eq_false_iff, cond_true, cond_false, Bool.not_eq_eq_eq_not, Bool.not_true, Bool.not_false, decide_eq_true_eq, decide_eq_false_iff_not, Int.toNat_natCast, Nat.zero_add, Decidable.not_not, maxL] at *)); all_goals omega)))
  refine .inl ⟨_, _, _, uG (QC.fc (c_Pure x.op) rfl), ?_⟩
  conv => whnf
  ((repeat' first | refine AWp_seq ?_ | (refine AWp_reg tok (by rfl) ?_; conv => whnf) | (refine AWp_any tok mix (by rfl) ?_; conv => whnf) | refine AWp_block ?_ | (refine AWp_skip ?_; conv => whnf) | (refine AWp_exit ?_; conv => whnf) | (refine AWp_ret ?_; conv => whnf) | refine AWp_cond rfl (fun hb => ?_) (fun hb => ?_) | (refine @And.intro (underG _ _ _ _) _ ?_ ?_; rotate_left; (conv => whnf); rotate_right) | (refine fun (bn : Bool) (hbn : (0 < _ → bn = _)) => ?_; conv => whnf)); all_goals (try ((first | refine underG_none ?_ | (refine underG_some ?_; intro hgd; conv at hgd => whnf)); (first | refine And.intro (srcObl_rs rfl ?_) ?_ | refine And.intro srcObl_sl ?_ | refine And.intro srcObl_nsl ?_ | skip); (all_goals (try simp only [underG, true_and, and_true, Bool.cond_true_left, Bool.cond_false_left, Bool.cond_true_right, Bool.cond_false_right, Bool.or_eq_true, Bool.and_eq_true, Bool.or_eq_false_iff, Bool.and_eq_false_iff, cond_true, cond_false, Bool.not_eq_eq_eq_not, Bool.not_true, Bool.not_false, decide_eq_true_eq, decide_eq_false_iff_not, Int.toNat_natCast, Nat.zero_add, Decidable.not_not, maxL] at *)); all_goals omega)))
  · refine ⟨_, [(i0, .old i0, mpF m)], rfl, rfl, rfl, rfl, .old rfl (BLe.refl _) .nil, TLe.ib ?_ ?_⟩
    all_goals
      unfold ansW
      cases h : mlook m [x.a] with
      | none => rfl
      | some a => simp [h] at hb; simp [hb]
  refine .inl ⟨_, _, _, uG (QC.fc (c_Two x.op) rfl), ?_⟩
  conv => whnf
  ((repeat' first | refine AWp_seq ?_ | (refine AWp_reg tok (by rfl) ?_; conv => whnf) | (refine AWp_any tok mix (by rfl) ?_; conv => whnf) | refine AWp_block ?_ | (refine AWp_skip ?_; conv => whnf) | (refine AWp_exit ?_; conv => whnf) | (refine AWp_ret ?_; conv => whnf) | refine AWp_cond rfl (fun hb => ?_) (fun hb => ?_) | (refine @And.intro (underG _ _ _ _) _ ?_ ?_; rotate_left; (conv => whnf); rotate_right) | (refine fun (bn : Bool) (hbn : (0 < _ → bn = _)) => ?_; conv => whnf)); all_goals (try ((first | refine underG_none ?_ | (refine underG_some ?_; intro hgd; conv at hgd => whnf)); (first | refine And.intro (srcObl_rs rfl ?_) ?_ | refine And.intro srcObl_sl ?_ | refine And.intro srcObl_nsl ?_ | skip); (all_goals (try simp only [underG, true_and, and_true, Bool.cond_true_left, Bool.cond_false_left, Bool.cond_true_right, Bool.cond_false_right, Bool.or_eq_true, Bool.and_eq_true, Bool.or_eq_false_iff, Bool.and_eq_false_iff, cond_true, cond_false, Bool.not_eq_eq_eq_not, Bool.not_true, Bool.not_false, decide_eq_true_eq, decide_eq_false_iff_not, Int.toNat_natCast, Nat.zero_add, Decidable.not_not, maxL] at *)); all_goals omega)))
  · refine ⟨_, [(i0, .old i0, mpF m)], rfl, rfl, rfl, rfl, .old rfl (BLe.refl _) .nil, TLe.ib ?_ ?_⟩
    all_goals
      rename_i hp ht
      unfold ansW
      cases h : mlook m [x.a] with
      | none => rfl
      | some a =>
        simp [h] at hp
        cases h2 : mlook m [x.b] with
        | none => simp [hp, ht]
        | some b => simp [h2] at hb
  · refine .inl ⟨_, _, _, uG (QC.fc (c_Do x.op _ _) rfl), ?_⟩
    conv => whnf
    ((repeat' first | refine AWp_seq ?_ | (refine AWp_reg tok (by rfl) ?_; conv => whnf) | (refine AWp_any tok mix (by rfl) ?_; conv => whnf) | refine AWp_block ?_ | (refine AWp_skip ?_; conv => whnf) | (refine AWp_exit ?_; conv => whnf) | (refine AWp_ret ?_; conv => whnf) | refine AWp_cond rfl (fun hb => ?_) (fun hb => ?_) | (refine @And.intro (underG _ _ _ _) _ ?_ ?_; rotate_left; (conv => whnf); rotate_right) | (refine fun (bn : Bool) (hbn : (0 < _ → bn = _)) => ?_; conv => whnf)); all_goals (try ((first | refine underG_none ?_ | (refine underG_some ?_; intro hgd; conv at hgd => whnf)); (first | refine And.intro (srcObl_rs rfl ?_) ?_ | refine And.intro srcObl_sl ?_ | refine And.intro srcObl_nsl ?_ | skip); (all_goals (try simp only [underG, true_and, and_true, Bool.cond_true_left, Bool.cond_false_left, Bool.cond_true_right, Bool.cond_false_right, Bool.or_eq_true, Bool.and_eq_true, Bool.or_eq_false_iff, Bool.and_eq_false_iff, cond_true, cond_false, Bool.not_eq_eq_eq_not, Bool.not_true, Bool.not_false, decide_eq_true_eq, decide_eq_false_iff_not, Int.toNat_natCast, Nat.zero_add, Decidable.not_not, maxL] at *)); all_goals omega)))
    refine ⟨_, [(i0, .old i0, mpF m)], rfl, rfl, rfl, rfl, .old rfl (BLe.refl _) .nil, TLe.ib ?_ ?_⟩
    all_goals
      rename_i hp ht
      unfold ansW
      cases h : mlook m [x.a] with
      | none => simp [h] at hp
      | some a =>
        simp [h] at hp
        cases h2 : mlook m [x.b] with
        | none => simp [h2] at hb
        | some b => simp [hp, ht]
  · refine .inl ⟨_, _, _, uG (QC.fc (c_Do x.op _ _) rfl), ?_⟩
    conv => whnf
    ((repeat' first | refine AWp_seq ?_ | (refine AWp_reg tok (by rfl) ?_; conv => whnf) | (refine AWp_any tok mix (by rfl) ?_; conv => whnf) | refine AWp_block ?_ | (refine AWp_skip ?_; conv => whnf) | (refine AWp_exit ?_; conv => whnf) | (refine AWp_ret ?_; conv => whnf) | refine AWp_cond rfl (fun hb => ?_) (fun hb => ?_) | (refine @And.intro (underG _ _ _ _) _ ?_ ?_; rotate_left; (conv => whnf); rotate_right) | (refine fun (bn : Bool) (hbn : (0 < _ → bn = _)) => ?_; conv => whnf)); all_goals (try ((first | refine underG_none ?_ | (refine underG_some ?_; intro hgd; conv at hgd => whnf)); (first | refine And.intro (srcObl_rs rfl ?_) ?_ | refine And.intro srcObl_sl ?_ | refine And.intro srcObl_nsl ?_ | skip); (all_goals (try simp only [underG, true_and, and_true, Bool.cond_true_left, Bool.cond_false_left, Bool.cond_true_right, Bool.cond_false_right, Bool.or_eq_true, Bool.and_eq_true, Bool.or_eq_false_iff, Bool.and_eq_false_iff, cond_true, cond_false, Bool.not_eq_eq_eq_not, Bool.not_true, Bool.not_false, decide_eq_true_eq, decide_eq_false_iff_not, Int.toNat_natCast, Nat.zero_add, Decidable.not_not, maxL] at *)); all_goals omega)))
    refine ⟨_, [(i0, .old i0, mpF m)], rfl, rfl, rfl, rfl, .old rfl (BLe.refl _) .nil, TLe.ib ?_ ?_⟩
    all_goals
      rename_i hp
      unfold ansW
      cases h : mlook m [x.a] with
      | none => simp [h] at hp
      | some a => simp [h] at hp; simp [hp, hb]
def noteW (m : List (List Int × Int)) (x : Ins) : List (List Int × Int) :=
  if x.op = 10 ∨ x.op = 12 then m else if x.op = 1 then mput m [x.dst] x.k else mdel m [x.dst]
theorem c_note (m : List (List Int × Int)) (x : Ins) : HC Try.prog [i0] 31 [(i0, mpF m)] [.mp i0, .agg (encIns x)] (.tup []) [(i0, mpF (noteW m x))] := by
  refine HC_intro tok Try.func31 rfl (by decide +kernel) (Nat.le_of_ble_eq_true rfl) ?_
  ((repeat' first | refine AWp_seq ?_ | (refine AWp_reg tok (by rfl) ?_; conv => whnf) | (refine AWp_any tok mix (by rfl) ?_; conv => whnf) | refine AWp_block ?_ | (refine AWp_skip ?_; conv => whnf) | (refine AWp_exit ?_; conv => whnf) | (refine AWp_ret ?_; conv => whnf) | refine AWp_cond rfl (fun hb => ?_) (fun hb => ?_) | (refine @And.intro (underG _ _ _ _) _ ?_ ?_; rotate_left; (conv => whnf); rotate_right) | (refine fun (bn : Bool) (hbn : (0 < _ → bn = _)) => ?_; conv => whnf)); all_goals (try ((first | refine underG_none ?_ | (refine underG_some ?_; intro hgd; conv at hgd => whnf)); (first | refine And.intro (srcObl_rs rfl ?_) ?_ | refine And.intro srcObl_sl ?_ | refine And.intro srcObl_nsl ?_ | skip); (all_goals (try simp only [underG, true_and, and_true, Bool.cond_true_left, Bool.cond_false_left, Bool.cond_true_right, Bool.cond_false_right, Bool.or_eq_true, Bool.and_eq_true, Bool.or_eq_false_iff, Bool.and_eq_false_iff, cond_true, cond_false, Bool.not_eq_eq_eq_not, Bool.not_true, Bool.not_false, decide_eq_true_eq, decide_eq_false_iff_not, Int.toNat_natCast, Nat.zero_add, Decidable.not_not, maxL] at *)); all_goals omega)))
  all_goals simp only [underG, true_and, and_true, Bool.cond_true_left, Bool.cond_false_left, Bool.cond_true_right, Bool.cond_false_right, Bool.or_eq_true, Bool.and_eq_true, Bool.or_eq_false_iff, Bool.and_eq_false_iff, cond_true, cond_false, Bool.not_eq_eq_eq_not, Bool.not_true, Bool.not_false, decide_eq_true_eq, decide_eq_false_iff_not, Int.toNat_natCast, Nat.zero_add, Decidable.not_not, maxL] at *
  all_goals first | (exfalso; omega; done) | skip
  · rw [show noteW m x = m by simp [noteW, *]]
    exact ⟨_, [(i0, .old i0, mpF m)], rfl, rfl, rfl, rfl, .old rfl (BLe.refl _) .nil, .eq rfl⟩
  · rw [show noteW m x = m by simp [noteW, *]]
    exact ⟨_, [(i0, .old i0, mpF m)], rfl, rfl, rfl, rfl, .old rfl (BLe.refl _) .nil, .eq rfl⟩
  · rw [show noteW m x = mput m [x.dst] x.k by simp [noteW, *]]
    exact ⟨_, [(i0, .old i0, mpF (mput m [x.dst] x.k))], rfl, rfl, rfl, rfl, .old rfl (BLe.refl _) .nil, .eq rfl⟩
  · rw [show noteW m x = mdel m [x.dst] by simp [noteW, *]]
    exact ⟨_, [(i0, .old i0, mpF (mdel m [x.dst]))], rfl, rfl, rfl, rfl, .old rfl (BLe.refl _) .nil, .eq rfl⟩
theorem c_CloneIns (l : List Ins) : FO Try.prog 27 [inss l] 7 l.length (fun i => encIns (l.getD i default)) := by
  refine FO_intro tok Try.func27 rfl (by decide +kernel) (Nat.le_of_ble_eq_true rfl) ?_
  refine AWp_facts 0 (fun hl => ?_)
  have hl0 : l.length ≤ maxL := hl.1
  ((repeat' first | refine AWp_seq ?_ | (refine AWp_reg tok (by rfl) ?_; conv => whnf) | (refine AWp_any tok mix (by rfl) ?_; conv => whnf) | refine AWp_block ?_ | (refine AWp_skip ?_; conv => whnf) | (refine AWp_exit ?_; conv => whnf) | (refine AWp_ret ?_; conv => whnf) | refine AWp_cond rfl (fun hb => ?_) (fun hb => ?_) | (refine @And.intro (underG _ _ _ _) _ ?_ ?_; rotate_left; (conv => whnf); rotate_right) | (refine fun (bn : Bool) (hbn : (0 < _ → bn = _)) => ?_; conv => whnf)); all_goals (try ((first | refine underG_none ?_ | (refine underG_some ?_; intro hgd; conv at hgd => whnf)); (first | refine And.intro (srcObl_rs rfl ?_) ?_ | refine And.intro srcObl_sl ?_ | refine And.intro srcObl_nsl ?_ | skip); (all_goals (try simp only [underG, true_and, and_true, Bool.cond_true_left, Bool.cond_false_left, Bool.cond_true_right, Bool.cond_false_right, Bool.or_eq_true, Bool.and_eq_true, Bool.or_eq_false_iff, Bool.and_eq_false_iff, cond_true, cond_false, Bool.not_eq_eq_eq_not, Bool.not_true, Bool.not_false, decide_eq_true_eq, decide_eq_false_iff_not, Int.toNat_natCast, Nat.zero_add, Decidable.not_not, maxL] at *)); all_goals omega)))
  · refine ⟨_, rfl, RelO.nsl' ?_⟩
    rcases Nat.eq_zero_or_pos l.length with h | h
    · exact h
    · rw [hbn h] at hb; cases hb
  · refine ⟨_, rfl, RelO.rs rfl (Nat.le_refl _) (by simp) (fun i hi => ?_)⟩
    show appR 0 (rowOf 7 []) (fun i => encIns (l.getD i default)) i = _
    exact appR_zero _ _ _
def foldY (m : List (List Int × Int)) (x : Ins) : Ins := if (ansW m x).2 = true then ⟨1, x.dst, 0, 0, (ansW m x).1, 0, []⟩ else x
def foldIns : List (List Int × Int) → List Ins → List Ins × List (List Int × Int)
  | m, [] => ([], m)
  | m, x :: r => (foldY m x :: (foldIns (noteW m (foldY m x)) r).1, (foldIns (noteW m (foldY m x)) r).2)
theorem foldIns_snoc : ∀ (l : List Ins) (m : List (List Int × Int)) (x : Ins), foldIns m (l ++ [x]) = ((foldIns m l).1 ++ [foldY (foldIns m l).2 x], noteW (foldIns m l).2 (foldY (foldIns m l).2 x))
  | [], m, x => rfl
  | y :: r, m, x => by
      simp only [List.cons_append, foldIns]
      rw [foldIns_snoc r _ x]
theorem foldIns_len : ∀ (l : List Ins) (m : List (List Int × Int)), (foldIns m l).1.length = l.length
  | [], _ => rfl
  | _ :: r, m => by simp [foldIns, foldIns_len r]
def foldEnd (m : List (List Int × Int)) (e : End) : End := match mlook m [e.a] with
  | none => e
  | some v => if e.kind = 3 then ⟨2, 0, 0, 0, [], if v = 0 then e.els else e.to, 0, 0⟩ else e
def foldBlock (b : Block) : Block := { b with ins := (foldIns [] b.ins).1, fin := foldEnd (foldIns [] b.ins).2 b.fin }
def mapAt (l : List Ins) (i : Nat) : List (List Int × Int) := (foldIns [] (l.take i)).2
def foldAt (l : List Ins) (i : Nat) : List Ins := (foldIns [] (l.take i)).1 ++ l.drop i
theorem foldAt_len (l : List Ins) (i : Nat) : (foldAt l i).length = l.length := by
  simp only [foldAt, List.length_append, foldIns_len, List.length_take, List.length_drop]; omega
theorem foldAt_get {l : List Ins} {i : Nat} (h : i < l.length) : (foldAt l i).getD i default = l.getD i default := by
  unfold foldAt
  rw [getD_append, foldIns_len, List.length_take, if_neg (by omega)]
  have : i - min i l.length = 0 := by omega
  rw [this, drop_getD default h]; rfl
theorem mapAt_succ {l : List Ins} {i : Nat} (h : i < l.length) : mapAt l (i + 1) = noteW (mapAt l i) (foldY (mapAt l i) (l.getD i default)) := by
  unfold mapAt; rw [take_succ_getD default h, foldIns_snoc]
theorem foldAt_succ {l : List Ins} {i : Nat} (h : i < l.length) : foldAt l (i + 1) = (foldAt l i).set i (foldY (mapAt l i) (l.getD i default)) := by
  unfold foldAt mapAt
  rw [take_succ_getD default h, foldIns_snoc]
  have hl : (foldIns [] (l.take i)).1.length = i := by rw [foldIns_len, List.length_take]; omega
  rw [List.set_append_right _ _ (by omega), hl, Nat.sub_self, drop_getD default h]
  simp
theorem upd_rowW {α : Type} (e : α → List AV) (d : α) (r : List α) {k k' : Nat} {v : α} {c : List AV} (hk : k' < r.length) (ek : k = k') (hc : Wks c (e v)) (x : Nat) : Wks (updR (fun x => e (r.getD x d)) k c x) (e ((r.set k' v).getD x d)) := by
  subst ek
  unfold updR
  rw [getD_set]
  cases h : Nat.beq k x with
  | true => have := Nat.eq_of_beq_eq_true h; rw [if_pos ⟨this, hk⟩]; exact hc
  | false =>
    have : k ≠ x := fun e' => by subst e'; simp at h
    rw [if_neg (fun h => this h.1)]; exact Wks.refl _
abbrev insRow (l : List Ins) (n : Nat) : ABlock := .row true 7 n (fun x => encIns (l.getD x default))
abbrev blkCells (b : Block) (ins : AV) (e : End) : List AV := [.bool b.landing, iv b.pad.dst, u16s b.pad.catch_, .bool b.pad.all, .bool b.pad.cleanup, ins] ++ encEnd e
theorem c_Block (b : Block) : FC Try.prog 14 [.agg (encBlock b)] (.agg (encBlock (foldBlock b))) := by
  refine FC_intro tok Try.func14 rfl (by decide +kernel) (Nat.le_of_ble_eq_true rfl) ?_
  refine AWp_facts 0 (fun hl => ?_)
  have hl0 : b.ins.length ≤ maxL := hl.2.2.2.2.2.1.1
  ((repeat' first | refine AWp_seq ?_ | (refine AWp_reg tok (by rfl) ?_; conv => whnf) | (refine AWp_any tok mix (by rfl) ?_; conv => whnf) | refine AWp_block ?_ | (refine AWp_skip ?_; conv => whnf) | (refine AWp_exit ?_; conv => whnf) | (refine AWp_ret ?_; conv => whnf) | refine AWp_cond rfl (fun hb => ?_) (fun hb => ?_) | (refine @And.intro (underG _ _ _ _) _ ?_ ?_; rotate_left; (conv => whnf); rotate_right) | (refine fun (bn : Bool) (hbn : (0 < _ → bn = _)) => ?_; conv => whnf)); all_goals (try ((first | refine underG_none ?_ | (refine underG_some ?_; intro hgd; conv at hgd => whnf)); (first | refine And.intro (srcObl_rs rfl ?_) ?_ | refine And.intro srcObl_sl ?_ | refine And.intro srcObl_nsl ?_ | skip); (all_goals (try simp only [underG, true_and, and_true, Bool.cond_true_left, Bool.cond_false_left, Bool.cond_true_right, Bool.cond_false_right, Bool.or_eq_true, Bool.and_eq_true, Bool.or_eq_false_iff, Bool.and_eq_false_iff, cond_true, cond_false, Bool.not_eq_eq_eq_not, Bool.not_true, Bool.not_false, decide_eq_true_eq, decide_eq_false_iff_not, Int.toNat_natCast, Nat.zero_add, Decidable.not_not, maxL] at *)); all_goals omega)))
  refine .inl ⟨_, _, _, uG (QC.fo (rd := []) (c_CloneIns b.ins) (.cons (.imm rfl) .nil) (.inl rfl) rfl), ?_⟩
  conv => whnf
  ((repeat' first | refine AWp_seq ?_ | (refine AWp_reg tok (by rfl) ?_; conv => whnf) | (refine AWp_any tok mix (by rfl) ?_; conv => whnf) | refine AWp_block ?_ | (refine AWp_skip ?_; conv => whnf) | (refine AWp_exit ?_; conv => whnf) | (refine AWp_ret ?_; conv => whnf) | refine AWp_cond rfl (fun hb => ?_) (fun hb => ?_) | (refine @And.intro (underG _ _ _ _) _ ?_ ?_; rotate_left; (conv => whnf); rotate_right) | (refine fun (bn : Bool) (hbn : (0 < _ → bn = _)) => ?_; conv => whnf)); all_goals (try ((first | refine underG_none ?_ | (refine underG_some ?_; intro hgd; conv at hgd => whnf)); (first | refine And.intro (srcObl_rs rfl ?_) ?_ | refine And.intro srcObl_sl ?_ | refine And.intro srcObl_nsl ?_ | skip); (all_goals (try simp only [underG, true_and, and_true, Bool.cond_true_left, Bool.cond_false_left, Bool.cond_true_right, Bool.cond_false_right, Bool.or_eq_true, Bool.and_eq_true, Bool.or_eq_false_iff, Bool.and_eq_false_iff, cond_true, cond_false, Bool.not_eq_eq_eq_not, Bool.not_true, Bool.not_false, decide_eq_true_eq, decide_eq_false_iff_not, Int.toNat_natCast, Nat.zero_add, Decidable.not_not, maxL] at *)); all_goals omega)))
  generalize hl : b.ins = l at hl0
  refine AWp_loop (fun i : Nat => mkS [(1, .bp (1, 0, 0) 0), (2, .bp (2, 0, 0) 0), (3, .mp (11, 0, 0)), (18, iv l.length), (19, iv i)]
      [((1, 0, 0), .row false 14 1 (fun _ => blkCells b (.rs (14, 0, 0) 7 0 l.length) b.fin)), ((2, 0, 0), .row true 14 1 (fun _ => encBlock default)), ((11, 0, 0), mpF (mapAt l i)), ((14, 0, 0), insRow (foldAt l i) l.length)])
    (fun i => i ≤ l.length) (fun i => l.length - i) 0 (Nat.zero_le _) ?_ ?_
  · refine Weak.list [((1, 0, 0), .old (1, 0, 0), .row false 14 1 (fun _ => blkCells b (.rs (14, 0, 0) 7 0 l.length) b.fin)), ((2, 0, 0), .old (2, 0, 0), .row true 14 1 (fun _ => encBlock default)), ((11, 0, 0), .old (11, 0, 0), mpF (mapAt l 0)), ((14, 0, 0), .old (14, 0, 0), insRow (foldAt l 0) l.length)] rfl (by rfl) ?_ ?_
    · ((repeat' first | exact TLes.nil | refine TLes.cons (TLe.eq rfl) ?_ | refine TLes.cons (TLe.nilL rfl ?_) ?_ | refine TLes.cons (TLe.rsL rfl ?_) ?_ | refine TLes.cons (TLe.int ?_) ?_ | refine TLes.cons (TLe.bool ?_) ?_); (all_goals first | rfl | ((try (simp only [underG, true_and, and_true, Bool.cond_true_left, Bool.cond_false_left, Bool.cond_true_right, Bool.cond_false_right, Bool.or_eq_true, Bool.and_eq_true, Bool.or_eq_false_iff, Bool.and_eq_false_iff, cond_true, cond_false, Bool.not_eq_eq_eq_not, Bool.not_true, Bool.not_false, decide_eq_true_eq, decide_eq_false_iff_not, Int.toNat_natCast, Nat.zero_add, Decidable.not_not, maxL] at *)); first | omega | (rw [wrap64 (by omega) (by omega)]; first | rfl | omega | (simp; done) | (simp; omega))) | skip))
    · refine .old rfl (BLe.rowW (Nat.le_refl _) (fun x hx => ?_)) (.old rfl (BLe.rowW (Nat.le_refl _) (fun x hx => ?_)) (.old rfl (BLe.refl _) (.old rfl (BLe.row rfl (fun x hx => ?_)) .nil)))
      · match x, hx with
        | 0, _ => (repeat' ((conv => arg 1; whnf); (conv => arg 2; whnf); first | refine Wks.cons .refl ?_ | refine Wks.cons (.nsl rfl) ?_ | exact Wks.nil))
      · match x, hx with
        | 0, _ => (repeat' ((conv => arg 1; whnf); (conv => arg 2; whnf); first | refine Wks.cons .refl ?_ | refine Wks.cons (.nsl rfl) ?_ | exact Wks.nil))
      · rw [show foldAt l 0 = l by simp [foldAt, foldIns]]; rfl
  intro i hi
  have hfl := foldAt_len l i
  ((repeat' first | refine AWp_seq ?_ | (refine AWp_reg tok (by rfl) ?_; conv => whnf) | (refine AWp_any tok mix (by rfl) ?_; conv => whnf) | refine AWp_block ?_ | (refine AWp_skip ?_; conv => whnf) | (refine AWp_exit ?_; conv => whnf) | (refine AWp_ret ?_; conv => whnf) | refine AWp_cond rfl (fun hb => ?_) (fun hb => ?_) | (refine @And.intro (underG _ _ _ _) _ ?_ ?_; rotate_left; (conv => whnf); rotate_right) | (refine fun (bn : Bool) (hbn : (0 < _ → bn = _)) => ?_; conv => whnf)); all_goals (try ((first | refine underG_none ?_ | (refine underG_some ?_; intro hgd; conv at hgd => whnf)); (first | refine And.intro (srcObl_rs rfl ?_) ?_ | refine And.intro srcObl_sl ?_ | refine And.intro srcObl_nsl ?_ | skip); (all_goals (try simp only [underG, true_and, and_true, Bool.cond_true_left, Bool.cond_false_left, Bool.cond_true_right, Bool.cond_false_right, Bool.or_eq_true, Bool.and_eq_true, Bool.or_eq_false_iff, Bool.and_eq_false_iff, cond_true, cond_false, Bool.not_eq_eq_eq_not, Bool.not_true, Bool.not_false, decide_eq_true_eq, decide_eq_false_iff_not, Int.toNat_natCast, Nat.zero_add, Decidable.not_not, maxL] at *)); all_goals omega)))
  · have hlt : i < l.length := by simp only [underG, true_and, and_true, Bool.cond_true_left, Bool.cond_false_left, Bool.cond_true_right, Bool.cond_false_right, Bool.or_eq_true, Bool.and_eq_true, Bool.or_eq_false_iff, Bool.and_eq_false_iff, cond_true, cond_false, Bool.not_eq_eq_eq_not, Bool.not_true, Bool.not_false, decide_eq_true_eq, decide_eq_false_iff_not, Int.toNat_natCast, Nat.zero_add, Decidable.not_not, maxL] at *; omega
    have hget := foldAt_get hlt
    have hget' : (foldAt l i).getD (0 + (i : Int).toNat) default = l.getD i default := by simpa using hget
    have hcall : ∀ y, y = l.getD i default → HC Try.prog [i0] 30 [(i0, mpF (mapAt l i))] [.mp i0, .agg (encIns y)] (.tup [.int .u16 (ansW (mapAt l i) (l.getD i default)).1, .bool (ansW (mapAt l i) (l.getD i default)).2]) [(i0, mpF (mapAt l i))] := fun y e => e ▸ c_answer _ _
    refine .inr ⟨_, _, _, uG (QH.of (dead := []) [(i0, .old (11, 0, 0), mpF (mapAt l i))] (hcall ((foldAt l i).getD (0 + (i : Int).toNat) default) (by simpa using hget)) rfl (.old rfl (BLe.refl _) .nil) (.cons (.eq rfl) (.cons (.eq rfl) .nil)) [(i0, (11, 0, 0))] rfl (.cons rfl (BLe.refl _) .nil) rfl), ?_⟩
    conv => whnf
    ((repeat' first | refine AWp_seq ?_ | (refine AWp_reg tok (by rfl) ?_; conv => whnf) | (refine AWp_any tok mix (by rfl) ?_; conv => whnf) | refine AWp_block ?_ | (refine AWp_skip ?_; conv => whnf) | (refine AWp_exit ?_; conv => whnf) | (refine AWp_ret ?_; conv => whnf) | (refine @And.intro (underG _ _ _ _) _ ?_ ?_; rotate_left; (conv => whnf); rotate_right) | (refine fun (bn : Bool) (hbn : (0 < _ → bn = _)) => ?_; conv => whnf)); all_goals (try ((first | refine underG_none ?_ | (refine underG_some ?_; intro hgd; conv at hgd => whnf)); (first | refine And.intro (srcObl_rs rfl ?_) ?_ | refine And.intro srcObl_sl ?_ | refine And.intro srcObl_nsl ?_ | skip); (all_goals (try simp only [underG, true_and, and_true, Bool.cond_true_left, Bool.cond_false_left, Bool.cond_true_right, Bool.cond_false_right, Bool.or_eq_true, Bool.and_eq_true, Bool.or_eq_false_iff, Bool.and_eq_false_iff, cond_true, cond_false, Bool.not_eq_eq_eq_not, Bool.not_true, Bool.not_false, decide_eq_true_eq, decide_eq_false_iff_not, Int.toNat_natCast, Nat.zero_add, Decidable.not_not, maxL] at *)); all_goals omega)))
    refine AWp_meet (fun _ : Unit => mkS [(1, .bp (1, 0, 0) 0), (2, .bp (2, 0, 0) 0), (3, .mp (11, 0, 0)), (5, .rp (14, 0, 0) 7 (0 + (i : Int).toNat) 0), (18, iv l.length), (19, iv i)]
      [((1, 0, 0), .row false 14 1 (fun _ => blkCells b (.rs (14, 0, 0) 7 0 l.length) b.fin)), ((2, 0, 0), .row true 14 1 (fun _ => encBlock default)), ((11, 0, 0), mpF (mapAt l i)), ((14, 0, 0), insRow (foldAt l (i + 1)) l.length)]) (fun _ => True) ?_ ?_
    · ((repeat' first | refine AWp_seq ?_ | (refine AWp_reg tok (by rfl) ?_; conv => whnf) | (refine AWp_any tok mix (by rfl) ?_; conv => whnf) | refine AWp_block ?_ | (refine AWp_skip ?_; conv => whnf) | (refine AWp_exit ?_; conv => whnf) | (refine AWp_ret ?_; conv => whnf) | refine AWp_cond rfl (fun hb => ?_) (fun hb => ?_) | (refine @And.intro (underG _ _ _ _) _ ?_ ?_; rotate_left; (conv => whnf); rotate_right) | (refine fun (bn : Bool) (hbn : (0 < _ → bn = _)) => ?_; conv => whnf)); all_goals (try ((first | refine underG_none ?_ | (refine underG_some ?_; intro hgd; conv at hgd => whnf)); (first | refine And.intro (srcObl_rs rfl ?_) ?_ | refine And.intro srcObl_sl ?_ | refine And.intro srcObl_nsl ?_ | skip); (all_goals (try simp only [underG, true_and, and_true, Bool.cond_true_left, Bool.cond_false_left, Bool.cond_true_right, Bool.cond_false_right, Bool.or_eq_true, Bool.and_eq_true, Bool.or_eq_false_iff, Bool.and_eq_false_iff, cond_true, cond_false, Bool.not_eq_eq_eq_not, Bool.not_true, Bool.not_false, decide_eq_true_eq, decide_eq_false_iff_not, Int.toNat_natCast, Nat.zero_add, Decidable.not_not, maxL] at *)); all_goals omega)))
      all_goals
        refine ⟨(), trivial, Weak.list [((1, 0, 0), .old (1, 0, 0), .row false 14 1 (fun _ => blkCells b (.rs (14, 0, 0) 7 0 l.length) b.fin)), ((2, 0, 0), .old (2, 0, 0), .row true 14 1 (fun _ => encBlock default)), ((11, 0, 0), .old (11, 0, 0), mpF (mapAt l i)), ((14, 0, 0), .old (14, 0, 0), insRow (foldAt l (i + 1)) l.length)] rfl (by rfl) ?_ ?_⟩
      · ((repeat' first | exact TLes.nil | refine TLes.cons (TLe.eq rfl) ?_ | refine TLes.cons (TLe.nilL rfl ?_) ?_ | refine TLes.cons (TLe.rsL rfl ?_) ?_ | refine TLes.cons (TLe.int ?_) ?_ | refine TLes.cons (TLe.bool ?_) ?_); (all_goals first | rfl | ((try (simp only [underG, true_and, and_true, Bool.cond_true_left, Bool.cond_false_left, Bool.cond_true_right, Bool.cond_false_right, Bool.or_eq_true, Bool.and_eq_true, Bool.or_eq_false_iff, Bool.and_eq_false_iff, cond_true, cond_false, Bool.not_eq_eq_eq_not, Bool.not_true, Bool.not_false, decide_eq_true_eq, decide_eq_false_iff_not, Int.toNat_natCast, Nat.zero_add, Decidable.not_not, maxL] at *)); first | omega | (rw [wrap64 (by omega) (by omega)]; first | rfl | omega | (simp; done) | (simp; omega))) | skip))
      · refine .old rfl (BLe.refl _) (.old rfl (BLe.refl _) (.old rfl (BLe.refl _) (.old rfl (BLe.rowW (Nat.le_refl _) (fun x hx => ?_)) .nil)))
        rw [foldAt_succ hlt]
        refine upd_rowW encIns default (foldAt l i) (by omega) (by simp) ?_ x
        rw [show foldY (mapAt l i) (l.getD i default) = _ from if_pos hb, hget']
        (repeat' ((conv => arg 1; whnf); (conv => arg 2; whnf); first | refine Wks.cons .refl ?_ | refine Wks.cons (.nsl rfl) ?_ | exact Wks.nil))
      · ((repeat' first | exact TLes.nil | refine TLes.cons (TLe.eq rfl) ?_ | refine TLes.cons (TLe.nilL rfl ?_) ?_ | refine TLes.cons (TLe.rsL rfl ?_) ?_ | refine TLes.cons (TLe.int ?_) ?_ | refine TLes.cons (TLe.bool ?_) ?_); (all_goals first | rfl | ((try (simp only [underG, true_and, and_true, Bool.cond_true_left, Bool.cond_false_left, Bool.cond_true_right, Bool.cond_false_right, Bool.or_eq_true, Bool.and_eq_true, Bool.or_eq_false_iff, Bool.and_eq_false_iff, cond_true, cond_false, Bool.not_eq_eq_eq_not, Bool.not_true, Bool.not_false, decide_eq_true_eq, decide_eq_false_iff_not, Int.toNat_natCast, Nat.zero_add, Decidable.not_not, maxL] at *)); first | omega | (rw [wrap64 (by omega) (by omega)]; first | rfl | omega | (simp; done) | (simp; omega))) | skip))
      · refine .old rfl (BLe.refl _) (.old rfl (BLe.refl _) (.old rfl (BLe.refl _) (.old rfl (BLe.rowW (Nat.le_refl _) (fun x hx => ?_)) .nil)))
        rw [foldAt_succ hlt, show foldY (mapAt l i) (l.getD i default) = _ from if_neg (by rw [hb]; simp)]
        refine Wks.of ?_
        show encIns ((foldAt l i).getD x default) = _
        rw [← hget, getD_set]
        split
        · rename_i h; rw [h.1]
        · rfl
    rintro _ _ τ hτ
    refine AWp_weak hτ ?_
    have hnote : ∀ y, y = (foldAt l (i + 1)).getD (0 + (i : Int).toNat) default → HC Try.prog [i0] 31 [(i0, mpF (mapAt l i))] [.mp i0, .agg (encIns y)] (.tup []) [(i0, mpF (mapAt l (i + 1)))] := fun y e => by
      have h := c_note (mapAt l i) y
      rw [show noteW (mapAt l i) y = mapAt l (i + 1) by rw [mapAt_succ hlt, e, show 0 + (i : Int).toNat = i by simp, foldAt_succ hlt, getD_set]; simp [hfl, hlt]] at h
      exact h
    conv => whnf
    refine AWp_reg tok (by rfl) ?_; conv => whnf
    refine @And.intro (underG _ _ _ _) _ ?_ ?_; rotate_left; (conv => whnf); rotate_right
    · ((first | refine underG_none ?_ | (refine underG_some ?_; intro hgd; conv at hgd => whnf)); (first | refine And.intro (srcObl_rs rfl ?_) ?_ | refine And.intro srcObl_sl ?_ | refine And.intro srcObl_nsl ?_ | skip); (all_goals (try simp only [underG, true_and, and_true, Bool.cond_true_left, Bool.cond_false_left, Bool.cond_true_right, Bool.cond_false_right, Bool.or_eq_true, Bool.and_eq_true, Bool.or_eq_false_iff, Bool.and_eq_false_iff, cond_true, cond_false, Bool.not_eq_eq_eq_not, Bool.not_true, Bool.not_false, decide_eq_true_eq, decide_eq_false_iff_not, Int.toNat_natCast, Nat.zero_add, Decidable.not_not, maxL] at *)); all_goals omega)
    refine .inr ⟨_, _, _, uG (QH.of (dead := []) [(i0, .old (11, 0, 0), mpF (mapAt l i))] (hnote _ rfl) rfl (.old rfl (BLe.refl _) .nil) (.cons (.eq rfl) (.cons (.eq rfl) .nil)) [(i0, (11, 0, 0))] rfl (.cons rfl (BLe.refl _) .nil) rfl), ?_⟩
    conv => whnf
    ((repeat' first | refine AWp_seq ?_ | (refine AWp_reg tok (by rfl) ?_; conv => whnf) | (refine AWp_any tok mix (by rfl) ?_; conv => whnf) | refine AWp_block ?_ | (refine AWp_skip ?_; conv => whnf) | (refine AWp_exit ?_; conv => whnf) | (refine AWp_ret ?_; conv => whnf) | refine AWp_cond rfl (fun hb => ?_) (fun hb => ?_) | (refine @And.intro (underG _ _ _ _) _ ?_ ?_; rotate_left; (conv => whnf); rotate_right) | (refine fun (bn : Bool) (hbn : (0 < _ → bn = _)) => ?_; conv => whnf)); all_goals (try ((first | refine underG_none ?_ | (refine underG_some ?_; intro hgd; conv at hgd => whnf)); (first | refine And.intro (srcObl_rs rfl ?_) ?_ | refine And.intro srcObl_sl ?_ | refine And.intro srcObl_nsl ?_ | skip); (all_goals (try simp only [underG, true_and, and_true, Bool.cond_true_left, Bool.cond_false_left, Bool.cond_true_right, Bool.cond_false_right, Bool.or_eq_true, Bool.and_eq_true, Bool.or_eq_false_iff, Bool.and_eq_false_iff, cond_true, cond_false, Bool.not_eq_eq_eq_not, Bool.not_true, Bool.not_false, decide_eq_true_eq, decide_eq_false_iff_not, Int.toNat_natCast, Nat.zero_add, Decidable.not_not, maxL] at *)); all_goals omega)))
    refine ⟨i + 1, hlt, by omega, Weak.list [((1, 0, 0), .old (1, 0, 0), .row false 14 1 (fun _ => blkCells b (.rs (14, 0, 0) 7 0 l.length) b.fin)), ((2, 0, 0), .old (2, 0, 0), .row true 14 1 (fun _ => encBlock default)), ((11, 0, 0), .old (11, 0, 0), mpF (mapAt l (i + 1))), ((14, 0, 0), .old (14, 0, 0), insRow (foldAt l (i + 1)) l.length)] rfl (by rfl) ?_ ?_⟩
    · ((repeat' first | exact TLes.nil | refine TLes.cons (TLe.eq rfl) ?_ | refine TLes.cons (TLe.nilL rfl ?_) ?_ | refine TLes.cons (TLe.rsL rfl ?_) ?_ | refine TLes.cons (TLe.int ?_) ?_ | refine TLes.cons (TLe.bool ?_) ?_); (all_goals first | rfl | ((try (simp only [underG, true_and, and_true, Bool.cond_true_left, Bool.cond_false_left, Bool.cond_true_right, Bool.cond_false_right, Bool.or_eq_true, Bool.and_eq_true, Bool.or_eq_false_iff, Bool.and_eq_false_iff, cond_true, cond_false, Bool.not_eq_eq_eq_not, Bool.not_true, Bool.not_false, decide_eq_true_eq, decide_eq_false_iff_not, Int.toNat_natCast, Nat.zero_add, Decidable.not_not, maxL] at *)); first | omega | (rw [wrap64 (by omega) (by omega)]; first | rfl | omega | (simp; done) | (simp; omega))) | skip))
    · exact .old rfl (BLe.refl _) (.old rfl (BLe.refl _) (.old rfl (BLe.refl _) (.old rfl (BLe.refl _) .nil)))
  all_goals
    have hil : i = l.length := by simp only [underG, true_and, and_true, Bool.cond_true_left, Bool.cond_false_left, Bool.cond_true_right, Bool.cond_false_right, Bool.or_eq_true, Bool.and_eq_true, Bool.or_eq_false_iff, Bool.and_eq_false_iff, cond_true, cond_false, Bool.not_eq_eq_eq_not, Bool.not_true, Bool.not_false, decide_eq_true_eq, decide_eq_false_iff_not, Int.toNat_natCast, Nat.zero_add, Decidable.not_not, maxL] at *; omega
    subst hil
    have hm : mapAt b.ins b.ins.length = (foldIns [] b.ins).2 := by simp [mapAt]
    have hf : foldAt b.ins b.ins.length = (foldIns [] b.ins).1 := by simp [foldAt]
    subst hl
  · rename_i hb0
    have hfin : (foldBlock b).fin = ⟨2, 0, 0, 0, [], b.fin.to, 0, 0⟩ := by
      show foldEnd (foldIns [] b.ins).2 b.fin = _
      rw [← hm]; unfold foldEnd
      cases h : mlook (mapAt b.ins b.ins.length) [b.fin.a] with
      | none => simp [h] at hb0
      | some v => simp [h] at hb0 hb ⊢; simp [*]
    refine ⟨_, rfl, Rel.agg (.cons (Rel.imm rfl) (.cons (Rel.imm rfl) (.cons (Rel.imm rfl) (.cons (Rel.imm rfl) (.cons (Rel.imm rfl) (.cons (Rel.row rfl rfl (by simp [foldBlock, foldIns_len]) (fun x _ => ?_)) ?_))))))⟩
    · show encIns ((foldAt b.ins b.ins.length).getD x default) = encIns ((foldIns [] b.ins).1.getD x default)
      rw [hf]
    · rw [hfin]
      exact .cons (Rel.imm rfl) (.cons (Rel.imm rfl) (.cons (Rel.imm rfl) (.cons (Rel.imm rfl) (.cons (Rel.nsl' rfl) (.cons (Rel.imm rfl) (.cons (Rel.imm rfl) (.cons (Rel.imm rfl) .nil)))))))
  · rename_i hb0
    have hfin : (foldBlock b).fin = ⟨2, 0, 0, 0, [], b.fin.els, 0, 0⟩ := by
      show foldEnd (foldIns [] b.ins).2 b.fin = _
      rw [← hm]; unfold foldEnd
      cases h : mlook (mapAt b.ins b.ins.length) [b.fin.a] with
      | none => simp [h] at hb0
      | some v => simp [h] at hb0 hb ⊢; simp [*]
    refine ⟨_, rfl, Rel.agg (.cons (Rel.imm rfl) (.cons (Rel.imm rfl) (.cons (Rel.imm rfl) (.cons (Rel.imm rfl) (.cons (Rel.imm rfl) (.cons (Rel.row rfl rfl (by simp [foldBlock, foldIns_len]) (fun x _ => ?_)) ?_))))))⟩
    · show encIns ((foldAt b.ins b.ins.length).getD x default) = encIns ((foldIns [] b.ins).1.getD x default)
      rw [hf]
    · rw [hfin]
      exact .cons (Rel.imm rfl) (.cons (Rel.imm rfl) (.cons (Rel.imm rfl) (.cons (Rel.imm rfl) (.cons (Rel.nsl' rfl) (.cons (Rel.imm rfl) (.cons (Rel.imm rfl) (.cons (Rel.imm rfl) .nil)))))))
  · have hfin : (foldBlock b).fin = b.fin := by
      show foldEnd (foldIns [] b.ins).2 b.fin = _
      rw [← hm]; unfold foldEnd
      cases h : mlook (mapAt b.ins b.ins.length) [b.fin.a] with
      | none => rfl
      | some v => simp [h] at hb ⊢; simp [*]
    refine ⟨_, rfl, Rel.agg (.cons (Rel.imm rfl) (.cons (Rel.imm rfl) (.cons (Rel.imm rfl) (.cons (Rel.imm rfl) (.cons (Rel.imm rfl) (.cons (Rel.row rfl rfl (by simp [foldBlock, foldIns_len]) (fun x _ => ?_)) ?_))))))⟩
    · show encIns ((foldAt b.ins b.ins.length).getD x default) = encIns ((foldIns [] b.ins).1.getD x default)
      rw [hf]
    · rw [hfin]
      exact .cons (Rel.imm rfl) (.cons (Rel.imm rfl) (.cons (Rel.imm rfl) (.cons (Rel.imm rfl) (.cons (Rel.imm rfl) (.cons (Rel.imm rfl) (.cons (Rel.imm rfl) (.cons (Rel.imm rfl) .nil)))))))
end Go.Proofs.Ytmkiahbnfmpieaa
namespace Go.Proofs.Ytmkiahbnfmpieaa
open Go Dv
set_option maxRecDepth 10000
set_option linter.unusedSimpArgs false
deriving instance DecidableEq for Ins
deriving instance DecidableEq for End
deriving instance DecidableEq for Pad
deriving instance DecidableEq for Block
theorem c_SameIns (x y : Ins) : FC Try.prog 12 [.agg (encIns x), .agg (encIns y)] (.bool (decide (x = y))) := by
  refine FC_intro tok Try.func12 rfl (by decide +kernel) (Nat.le_of_ble_eq_true rfl) ?_
  ((repeat' first | refine AWp_seq ?_ | (refine AWp_reg tok (by rfl) ?_; conv => whnf) | (refine AWp_any tok mix (by rfl) ?_; conv => whnf) | refine AWp_block ?_ | (refine AWp_skip ?_; conv => whnf) | (refine AWp_exit ?_; conv => whnf) | (refine AWp_ret ?_; conv => whnf) | refine AWp_cond rfl (fun hb => ?_) (fun hb => ?_) | (refine @And.intro (underG _ _ _ _) _ ?_ ?_; rotate_left; (conv => whnf); rotate_right) | (refine fun (bn : Bool) (hbn : (0 < _ → bn = _)) => ?_; conv => whnf)); all_goals (try ((first | refine underG_none ?_ | (refine underG_some ?_; intro hgd; conv at hgd => whnf)); (first | refine And.intro (srcObl_rs rfl ?_) ?_ | refine And.intro srcObl_sl ?_ | refine And.intro srcObl_nsl ?_ | skip); (all_goals (try simp only [underG, true_and, and_true, Bool.cond_true_left, Bool.cond_false_left, Bool.cond_true_right, Bool.cond_false_right, Bool.or_eq_true, Bool.and_eq_true, Bool.or_eq_false_iff, Bool.and_eq_false_iff, cond_true, cond_false, Bool.not_eq_eq_eq_not, Bool.not_true, Bool.not_false, decide_eq_true_eq, decide_eq_false_iff_not, Int.toNat_natCast, Nat.zero_add, Decidable.not_not, maxL] at *)); all_goals omega)))
  refine .inl ⟨_, _, _, uG (QC.fc (fc16 x.args y.args) rfl), ?_⟩
  conv => whnf
  ((repeat' first | refine AWp_seq ?_ | (refine AWp_reg tok (by rfl) ?_; conv => whnf) | (refine AWp_any tok mix (by rfl) ?_; conv => whnf) | refine AWp_block ?_ | (refine AWp_skip ?_; conv => whnf) | (refine AWp_exit ?_; conv => whnf) | (refine AWp_ret ?_; conv => whnf) | refine AWp_cond rfl (fun hb => ?_) (fun hb => ?_) | (refine @And.intro (underG _ _ _ _) _ ?_ ?_; rotate_left; (conv => whnf); rotate_right) | (refine fun (bn : Bool) (hbn : (0 < _ → bn = _)) => ?_; conv => whnf)); all_goals (try ((first | refine underG_none ?_ | (refine underG_some ?_; intro hgd; conv at hgd => whnf)); (first | refine And.intro (srcObl_rs rfl ?_) ?_ | refine And.intro srcObl_sl ?_ | refine And.intro srcObl_nsl ?_ | skip); (all_goals (try simp only [underG, true_and, and_true, Bool.cond_true_left, Bool.cond_false_left, Bool.cond_true_right, Bool.cond_false_right, Bool.or_eq_true, Bool.and_eq_true, Bool.or_eq_false_iff, Bool.and_eq_false_iff, cond_true, cond_false, Bool.not_eq_eq_eq_not, Bool.not_true, Bool.not_false, decide_eq_true_eq, decide_eq_false_iff_not, Int.toNat_natCast, Nat.zero_add, Decidable.not_not, maxL] at *)); all_goals omega)))
  refine ⟨_, rfl, Rel.bool ?_⟩
  obtain ⟨a1, a2, a3, a4, a5, a6, a7⟩ := x
  obtain ⟨b1, b2, b3, b4, b5, b6, b7⟩ := y
  rw [Bool.eq_iff_iff]
  simp [and_assoc]
theorem c_SameEnd (x y : End) : FC Try.prog 11 [.agg (encEnd x), .agg (encEnd y)] (.bool (decide (x = y))) := by
  refine FC_intro tok Try.func11 rfl (by decide +kernel) (Nat.le_of_ble_eq_true rfl) ?_
  ((repeat' first | refine AWp_seq ?_ | (refine AWp_reg tok (by rfl) ?_; conv => whnf) | (refine AWp_any tok mix (by rfl) ?_; conv => whnf) | refine AWp_block ?_ | (refine AWp_skip ?_; conv => whnf) | (refine AWp_exit ?_; conv => whnf) | (refine AWp_ret ?_; conv => whnf) | refine AWp_cond rfl (fun hb => ?_) (fun hb => ?_) | (refine @And.intro (underG _ _ _ _) _ ?_ ?_; rotate_left; (conv => whnf); rotate_right) | (refine fun (bn : Bool) (hbn : (0 < _ → bn = _)) => ?_; conv => whnf)); all_goals (try ((first | refine underG_none ?_ | (refine underG_some ?_; intro hgd; conv at hgd => whnf)); (first | refine And.intro (srcObl_rs rfl ?_) ?_ | refine And.intro srcObl_sl ?_ | refine And.intro srcObl_nsl ?_ | skip); (all_goals (try simp only [underG, true_and, and_true, Bool.cond_true_left, Bool.cond_false_left, Bool.cond_true_right, Bool.cond_false_right, Bool.or_eq_true, Bool.and_eq_true, Bool.or_eq_false_iff, Bool.and_eq_false_iff, cond_true, cond_false, Bool.not_eq_eq_eq_not, Bool.not_true, Bool.not_false, decide_eq_true_eq, decide_eq_false_iff_not, Int.toNat_natCast, Nat.zero_add, Decidable.not_not, maxL] at *)); all_goals omega)))
  refine .inl ⟨_, _, _, uG (QC.fc (fc16 x.args y.args) rfl), ?_⟩
  conv => whnf
  ((repeat' first | refine AWp_seq ?_ | (refine AWp_reg tok (by rfl) ?_; conv => whnf) | (refine AWp_any tok mix (by rfl) ?_; conv => whnf) | refine AWp_block ?_ | (refine AWp_skip ?_; conv => whnf) | (refine AWp_exit ?_; conv => whnf) | (refine AWp_ret ?_; conv => whnf) | refine AWp_cond rfl (fun hb => ?_) (fun hb => ?_) | (refine @And.intro (underG _ _ _ _) _ ?_ ?_; rotate_left; (conv => whnf); rotate_right) | (refine fun (bn : Bool) (hbn : (0 < _ → bn = _)) => ?_; conv => whnf)); all_goals (try ((first | refine underG_none ?_ | (refine underG_some ?_; intro hgd; conv at hgd => whnf)); (first | refine And.intro (srcObl_rs rfl ?_) ?_ | refine And.intro srcObl_sl ?_ | refine And.intro srcObl_nsl ?_ | skip); (all_goals (try simp only [underG, true_and, and_true, Bool.cond_true_left, Bool.cond_false_left, Bool.cond_true_right, Bool.cond_false_right, Bool.or_eq_true, Bool.and_eq_true, Bool.or_eq_false_iff, Bool.and_eq_false_iff, cond_true, cond_false, Bool.not_eq_eq_eq_not, Bool.not_true, Bool.not_false, decide_eq_true_eq, decide_eq_false_iff_not, Int.toNat_natCast, Nat.zero_add, Decidable.not_not, maxL] at *)); all_goals omega)))
  refine ⟨_, rfl, Rel.bool ?_⟩
  obtain ⟨a1, a2, a3, a4, a5, a6, a7, a8⟩ := x
  obtain ⟨b1, b2, b3, b4, b5, b6, b7, b8⟩ := y
  rw [Bool.eq_iff_iff]
  simp [and_assoc]
def awB : Block := { landing := false, pad := ⟨0, [], false, false⟩, ins := [⟨1, 0, 0, 0, 3, 0, []⟩, ⟨1, 1, 0, 0, 4, 0, []⟩, ⟨3, 2, 0, 1, 0, 0, []⟩], fin := ⟨3, 2, 0, 0, [], 5, 6, 0⟩ }
theorem c_awake16 : FC Try.prog 13 [] (.bool true) := by
  refine FC_intro tok Try.func13 rfl (by decide +kernel) (Nat.le_of_ble_eq_true rfl) ?_
  ((repeat' first | refine AWp_seq ?_ | (refine AWp_reg tok (by rfl) ?_; conv => whnf) | (refine AWp_any tok mix (by rfl) ?_; conv => whnf) | refine AWp_block ?_ | (refine AWp_skip ?_; conv => whnf) | (refine AWp_exit ?_; conv => whnf) | (refine AWp_ret ?_; conv => whnf) | refine AWp_cond rfl (fun hb => ?_) (fun hb => ?_) | (refine @And.intro (underG _ _ _ _) _ ?_ ?_; rotate_left; (conv => whnf); rotate_right) | (refine fun (bn : Bool) (hbn : (0 < _ → bn = _)) => ?_; conv => whnf)); all_goals (try ((first | refine underG_none ?_ | (refine underG_some ?_; intro hgd; conv at hgd => whnf)); (first | refine And.intro (srcObl_rs rfl ?_) ?_ | refine And.intro srcObl_sl ?_ | refine And.intro srcObl_nsl ?_ | skip); (all_goals (try simp only [underG, true_and, and_true, Bool.cond_true_left, Bool.cond_false_left, Bool.cond_true_right, Bool.cond_false_right, Bool.or_eq_true, Bool.and_eq_true, Bool.or_eq_false_iff, Bool.and_eq_false_iff, cond_true, cond_false, Bool.not_eq_eq_eq_not, Bool.not_true, Bool.not_false, decide_eq_true_eq, decide_eq_false_iff_not, Int.toNat_natCast, Nat.zero_add, Decidable.not_not, maxL] at *)); all_goals omega)))
  refine .inr ⟨_, _, _, uG (QH.give (args' := [.agg (encBlock awB)]) (rd := [freshD (some 5)]) (c_Block awB) (.cons (.agg (.cons (.imm rfl) (.cons (.imm rfl) (.cons .nsl (.cons (.imm rfl) (.cons (.imm rfl) (.cons (.rsW rfl (by simp) (Nat.le_refl _) rfl (fun x hx => ?_)) (.cons (.imm rfl) (.cons (.imm rfl) (.cons (.imm rfl) (.cons (.imm rfl) (.cons .nsl (.cons (.imm rfl) (.cons (.imm rfl) (.cons (.imm rfl) .nil))))))))))))))) .nil) rfl), ?_⟩
  · match x, hx with
    | 0, _ => (repeat' ((conv => arg 1; whnf); (conv => arg 2; whnf); first | refine Wks.cons .refl ?_ | refine Wks.cons (.nsl rfl) ?_ | exact Wks.nil))
    | 1, _ => (repeat' ((conv => arg 1; whnf); (conv => arg 2; whnf); first | refine Wks.cons .refl ?_ | refine Wks.cons (.nsl rfl) ?_ | exact Wks.nil))
    | 2, _ => (repeat' ((conv => arg 1; whnf); (conv => arg 2; whnf); first | refine Wks.cons .refl ?_ | refine Wks.cons (.nsl rfl) ?_ | exact Wks.nil))
  rw [show foldBlock awB = ⟨false, ⟨0, [], false, false⟩, [⟨1, 0, 0, 0, 3, 0, []⟩, ⟨1, 1, 0, 0, 4, 0, []⟩, ⟨1, 2, 0, 0, 7, 0, []⟩], ⟨2, 0, 0, 0, [], 5, 0, 0⟩⟩ from by rfl]
  conv => whnf
  ((repeat' first | refine AWp_seq ?_ | (refine AWp_reg tok (by rfl) ?_; conv => whnf) | (refine AWp_any tok mix (by rfl) ?_; conv => whnf) | refine AWp_block ?_ | (refine AWp_skip ?_; conv => whnf) | (refine AWp_exit ?_; conv => whnf) | (refine AWp_ret ?_; conv => whnf) | refine AWp_cond rfl (fun hb => ?_) (fun hb => ?_) | (refine @And.intro (underG _ _ _ _) _ ?_ ?_; rotate_left; (conv => whnf); rotate_right) | (refine fun (bn : Bool) (hbn : (0 < _ → bn = _)) => ?_; conv => whnf)); all_goals (try ((first | refine underG_none ?_ | (refine underG_some ?_; intro hgd; conv at hgd => whnf)); (first | refine And.intro (srcObl_rs rfl ?_) ?_ | refine And.intro srcObl_sl ?_ | refine And.intro srcObl_nsl ?_ | skip); (all_goals (try simp only [underG, true_and, and_true, Bool.cond_true_left, Bool.cond_false_left, Bool.cond_true_right, Bool.cond_false_right, Bool.or_eq_true, Bool.and_eq_true, Bool.or_eq_false_iff, Bool.and_eq_false_iff, cond_true, cond_false, Bool.not_eq_eq_eq_not, Bool.not_true, Bool.not_false, decide_eq_true_eq, decide_eq_false_iff_not, Int.toNat_natCast, Nat.zero_add, Decidable.not_not, maxL] at *)); all_goals omega)))
  exact ⟨_, rfl, Rel.bool rfl⟩
theorem fold_get : ∀ (l : List Ins) (m : List (List Int × Int)) (i : Nat), i < l.length → ∃ m', (foldIns m l).1.getD i default = foldY m' (l.getD i default)
  | [], _, i, h => by simp at h
  | x :: r, m, 0, _ => ⟨m, rfl⟩
  | x :: r, m, i + 1, h => fold_get r _ i (by simpa using h)
theorem ansW_pure {m : List (List Int × Int)} {x : Ins} (h : (ansW m x).2 = true) : 2 ≤ x.op ∧ x.op ≤ 8 := by
  unfold ansW at h
  cases h1 : mlook m [x.a] with
  | none => simp [h1] at h
  | some a =>
    simp only [h1] at h
    split at h
    · rename_i hp
      simp only [pureO] at hp
      cases h2 : decide (2 ≤ x.op) with
      | true => rw [h2] at hp; simp at hp h2; exact ⟨h2, hp⟩
      | false => rw [h2] at hp; simp at hp
    · simp at h
theorem foldY_sets (m : List (List Int × Int)) (x : Ins) : foldY m x = x ∨ ((foldY m x).op = 1 ∧ (foldY m x).dst = x.dst ∧ 2 ≤ x.op ∧ x.op ≤ 8) := by
  unfold foldY
  split
  · rename_i h; exact .inr ⟨rfl, rfl, ansW_pure h⟩
  · exact .inl rfl
theorem fold_sets (b : Block) {i : Nat} (h : i < b.ins.length) : (foldBlock b).ins.getD i default = b.ins.getD i default ∨
    (((foldBlock b).ins.getD i default).op = 1 ∧ ((foldBlock b).ins.getD i default).dst = (b.ins.getD i default).dst ∧ 2 ≤ (b.ins.getD i default).op ∧ (b.ins.getD i default).op ≤ 8) := by
  obtain ⟨m, e⟩ := fold_get b.ins [] i h
  show (foldIns [] b.ins).1.getD i default = _ ∨ _
  have := foldY_sets m (b.ins.getD i default)
  rw [← e] at this
  exact this
theorem fold_fin (b : Block) : (foldBlock b).fin = b.fin ∨ (b.fin.kind = 3 ∧ (foldBlock b).fin.kind = 2 ∧ ((foldBlock b).fin.to = b.fin.to ∨ (foldBlock b).fin.to = b.fin.els)) := by
  show foldEnd (foldIns [] b.ins).2 b.fin = _ ∨ (_ ∧ (foldEnd (foldIns [] b.ins).2 b.fin).kind = _ ∧ ((foldEnd (foldIns [] b.ins).2 b.fin).to = _ ∨ (foldEnd (foldIns [] b.ins).2 b.fin).to = _))
  unfold foldEnd
  cases mlook (foldIns [] b.ins).2 [b.fin.a] with
  | none => exact .inl rfl
  | some v =>
    simp only []
    split
    · rename_i h; refine .inr ⟨h, rfl, ?_⟩
      simp only []
      split
      · exact .inr rfl
      · exact .inl rfl
    · exact .inl rfl
theorem c_FoldSets (b : Block) : FC Try.prog 4 [.agg (encBlock b)] (.bool true) := by
  refine FC_intro tok Try.func4 rfl (by decide +kernel) (Nat.le_of_ble_eq_true rfl) ?_
  refine AWp_facts 0 (fun hl => ?_)
  have hl0 : b.ins.length ≤ maxL := hl.2.2.2.2.2.1.1
  ((repeat' first | refine AWp_seq ?_ | (refine AWp_reg tok (by rfl) ?_; conv => whnf) | (refine AWp_any tok mix (by rfl) ?_; conv => whnf) | refine AWp_block ?_ | (refine AWp_skip ?_; conv => whnf) | (refine AWp_exit ?_; conv => whnf) | (refine AWp_ret ?_; conv => whnf) | refine AWp_cond rfl (fun hb => ?_) (fun hb => ?_) | (refine @And.intro (underG _ _ _ _) _ ?_ ?_; rotate_left; (conv => whnf); rotate_right) | (refine fun (bn : Bool) (hbn : (0 < _ → bn = _)) => ?_; conv => whnf)); all_goals (try ((first | refine underG_none ?_ | (refine underG_some ?_; intro hgd; conv at hgd => whnf)); (first | refine And.intro (srcObl_rs rfl ?_) ?_ | refine And.intro srcObl_sl ?_ | refine And.intro srcObl_nsl ?_ | skip); (all_goals (try simp only [underG, true_and, and_true, Bool.cond_true_left, Bool.cond_false_left, Bool.cond_true_right, Bool.cond_false_right, Bool.or_eq_true, Bool.and_eq_true, Bool.or_eq_false_iff, Bool.and_eq_false_iff, cond_true, cond_false, Bool.not_eq_eq_eq_not, Bool.not_true, Bool.not_false, decide_eq_true_eq, decide_eq_false_iff_not, Int.toNat_natCast, Nat.zero_add, Decidable.not_not, maxL] at *)); all_goals omega)))
  refine .inl ⟨_, _, _, uG (QC.fc c_awake16 rfl), ?_⟩
  conv => whnf
  ((repeat' first | refine AWp_seq ?_ | (refine AWp_reg tok (by rfl) ?_; conv => whnf) | (refine AWp_any tok mix (by rfl) ?_; conv => whnf) | refine AWp_block ?_ | (refine AWp_skip ?_; conv => whnf) | (refine AWp_exit ?_; conv => whnf) | (refine AWp_ret ?_; conv => whnf) | refine AWp_cond rfl (fun hb => ?_) (fun hb => ?_) | (refine @And.intro (underG _ _ _ _) _ ?_ ?_; rotate_left; (conv => whnf); rotate_right) | (refine fun (bn : Bool) (hbn : (0 < _ → bn = _)) => ?_; conv => whnf)); all_goals (try ((first | refine underG_none ?_ | (refine underG_some ?_; intro hgd; conv at hgd => whnf)); (first | refine And.intro (srcObl_rs rfl ?_) ?_ | refine And.intro srcObl_sl ?_ | refine And.intro srcObl_nsl ?_ | skip); (all_goals (try simp only [underG, true_and, and_true, Bool.cond_true_left, Bool.cond_false_left, Bool.cond_true_right, Bool.cond_false_right, Bool.or_eq_true, Bool.and_eq_true, Bool.or_eq_false_iff, Bool.and_eq_false_iff, cond_true, cond_false, Bool.not_eq_eq_eq_not, Bool.not_true, Bool.not_false, decide_eq_true_eq, decide_eq_false_iff_not, Int.toNat_natCast, Nat.zero_add, Decidable.not_not, maxL] at *)); all_goals omega)))
  · cases hb
  · exact ⟨_, rfl, Rel.bool rfl⟩
  have hz : b.ins.length ≤ 200 := by simp only [underG, true_and, and_true, Bool.cond_true_left, Bool.cond_false_left, Bool.cond_true_right, Bool.cond_false_right, Bool.or_eq_true, Bool.and_eq_true, Bool.or_eq_false_iff, Bool.and_eq_false_iff, cond_true, cond_false, Bool.not_eq_eq_eq_not, Bool.not_true, Bool.not_false, decide_eq_true_eq, decide_eq_false_iff_not, Int.toNat_natCast, Nat.zero_add, Decidable.not_not, maxL] at *; omega
  refine .inl ⟨_, _, _, uG (QC.fc (c_Block b) rfl), ?_⟩
  conv => whnf
  ((repeat' first | refine AWp_seq ?_ | (refine AWp_reg tok (by rfl) ?_; conv => whnf) | (refine AWp_any tok mix (by rfl) ?_; conv => whnf) | refine AWp_block ?_ | (refine AWp_skip ?_; conv => whnf) | (refine AWp_exit ?_; conv => whnf) | (refine AWp_ret ?_; conv => whnf) | refine AWp_cond rfl (fun hb => ?_) (fun hb => ?_) | (refine @And.intro (underG _ _ _ _) _ ?_ ?_; rotate_left; (conv => whnf); rotate_right) | (refine fun (bn : Bool) (hbn : (0 < _ → bn = _)) => ?_; conv => whnf)); all_goals (try ((first | refine underG_none ?_ | (refine underG_some ?_; intro hgd; conv at hgd => whnf)); (first | refine And.intro (srcObl_rs rfl ?_) ?_ | refine And.intro srcObl_sl ?_ | refine And.intro srcObl_nsl ?_ | skip); (all_goals (try simp only [underG, true_and, and_true, Bool.cond_true_left, Bool.cond_false_left, Bool.cond_true_right, Bool.cond_false_right, Bool.or_eq_true, Bool.and_eq_true, Bool.or_eq_false_iff, Bool.and_eq_false_iff, cond_true, cond_false, Bool.not_eq_eq_eq_not, Bool.not_true, Bool.not_false, decide_eq_true_eq, decide_eq_false_iff_not, Int.toNat_natCast, Nat.zero_add, Decidable.not_not, maxL] at *)); all_goals omega)))
  all_goals have hcl : (foldBlock b).ins.length = b.ins.length := foldIns_len _ _
  all_goals have hset := fun i => @fold_sets b i
  all_goals have hfin := fold_fin b
  all_goals generalize foldBlock b = c at hb hcl hset hfin ⊢
  · exfalso; simp only [underG, true_and, and_true, Bool.cond_true_left, Bool.cond_false_left, Bool.cond_true_right, Bool.cond_false_right, Bool.or_eq_true, Bool.and_eq_true, Bool.or_eq_false_iff, Bool.and_eq_false_iff, cond_true, cond_false, Bool.not_eq_eq_eq_not, Bool.not_true, Bool.not_false, decide_eq_true_eq, decide_eq_false_iff_not, Int.toNat_natCast, Nat.zero_add, Decidable.not_not, maxL] at *; omega
  refine AWp_loop (fun i : Nat => mkS [(1, .bp (1, 0, 0) 0), (3, .bp (3, 0, 0) 0), (4, iv i)]
      [((1, 0, 0), boxed (encBlock b)), ((3, 0, 0), .row true 14 1 (fun _ => encBlock c))])
    (fun i => i ≤ b.ins.length) (fun i => b.ins.length - i) 0 (Nat.zero_le _) ?_ ?_
  · refine Weak.list [((1, 0, 0), .old (1, 0, 0), boxed (encBlock b)), ((3, 0, 0), .old (3, 0, 0), .row true 14 1 (fun _ => encBlock c))] rfl (by rfl) ?_ ?_
    · ((repeat' first | exact TLes.nil | refine TLes.cons (TLe.eq rfl) ?_ | refine TLes.cons (TLe.nilL rfl ?_) ?_ | refine TLes.cons (TLe.rsL rfl ?_) ?_ | refine TLes.cons (TLe.int ?_) ?_ | refine TLes.cons (TLe.bool ?_) ?_); (all_goals first | rfl | ((try (simp only [underG, true_and, and_true, Bool.cond_true_left, Bool.cond_false_left, Bool.cond_true_right, Bool.cond_false_right, Bool.or_eq_true, Bool.and_eq_true, Bool.or_eq_false_iff, Bool.and_eq_false_iff, cond_true, cond_false, Bool.not_eq_eq_eq_not, Bool.not_true, Bool.not_false, decide_eq_true_eq, decide_eq_false_iff_not, Int.toNat_natCast, Nat.zero_add, Decidable.not_not, maxL] at *)); first | omega | (rw [wrap64 (by omega) (by omega)]; first | rfl | omega | (simp; done) | (simp; omega))) | skip))
    · refine .old rfl (BLe.refl _) (.old rfl (BLe.rowW (Nat.le_refl _) (fun x hx => ?_)) .nil)
      match x, hx with
      | 0, _ => (repeat' ((conv => arg 1; whnf); (conv => arg 2; whnf); first | refine Wks.cons .refl ?_ | refine Wks.cons (.nsl rfl) ?_ | exact Wks.nil))
  intro i hi
  ((repeat' first | refine AWp_seq ?_ | (refine AWp_reg tok (by rfl) ?_; conv => whnf) | (refine AWp_any tok mix (by rfl) ?_; conv => whnf) | refine AWp_block ?_ | (refine AWp_skip ?_; conv => whnf) | (refine AWp_exit ?_; conv => whnf) | (refine AWp_ret ?_; conv => whnf) | refine AWp_cond rfl (fun hb => ?_) (fun hb => ?_) | (refine @And.intro (underG _ _ _ _) _ ?_ ?_; rotate_left; (conv => whnf); rotate_right) | (refine fun (bn : Bool) (hbn : (0 < _ → bn = _)) => ?_; conv => whnf)); all_goals (try ((first | refine underG_none ?_ | (refine underG_some ?_; intro hgd; conv at hgd => whnf)); (first | refine And.intro (srcObl_rs rfl ?_) ?_ | refine And.intro srcObl_sl ?_ | refine And.intro srcObl_nsl ?_ | skip); (all_goals (try simp only [underG, true_and, and_true, Bool.cond_true_left, Bool.cond_false_left, Bool.cond_true_right, Bool.cond_false_right, Bool.or_eq_true, Bool.and_eq_true, Bool.or_eq_false_iff, Bool.and_eq_false_iff, cond_true, cond_false, Bool.not_eq_eq_eq_not, Bool.not_true, Bool.not_false, decide_eq_true_eq, decide_eq_false_iff_not, Int.toNat_natCast, Nat.zero_add, Decidable.not_not, maxL] at *)); all_goals omega)))
  · have hlt : i < b.ins.length := by simp only [underG, true_and, and_true, Bool.cond_true_left, Bool.cond_false_left, Bool.cond_true_right, Bool.cond_false_right, Bool.or_eq_true, Bool.and_eq_true, Bool.or_eq_false_iff, Bool.and_eq_false_iff, cond_true, cond_false, Bool.not_eq_eq_eq_not, Bool.not_true, Bool.not_false, decide_eq_true_eq, decide_eq_false_iff_not, Int.toNat_natCast, Nat.zero_add, Decidable.not_not, maxL] at *; omega
    have hs := hset i hlt
    generalize hx : b.ins.getD i default = x at hs
    generalize hy : c.ins.getD i default = y at hs
    have hcall : ∀ x' y', x' = x → y' = y → FC Try.prog 12 [.agg (encIns x'), .agg (encIns y')] (.bool (decide (x = y))) := fun x' y' e1 e2 => by rw [e1, e2]; exact c_SameIns x y
    refine .inl ⟨_, _, _, uG (QC.fc (hcall (b.ins.getD (i : Int).toNat default) (c.ins.getD (i : Int).toNat default) (by simpa using hx) (by simpa using hy)) rfl), ?_⟩
    conv => whnf
    ((repeat' first | refine AWp_seq ?_ | (refine AWp_reg tok (by rfl) ?_; conv => whnf) | (refine AWp_any tok mix (by rfl) ?_; conv => whnf) | refine AWp_block ?_ | (refine AWp_skip ?_; conv => whnf) | (refine AWp_exit ?_; conv => whnf) | (refine AWp_ret ?_; conv => whnf) | refine AWp_cond rfl (fun hb => ?_) (fun hb => ?_) | (refine @And.intro (underG _ _ _ _) _ ?_ ?_; rotate_left; (conv => whnf); rotate_right) | (refine fun (bn : Bool) (hbn : (0 < _ → bn = _)) => ?_; conv => whnf)); all_goals (try ((first | refine underG_none ?_ | (refine underG_some ?_; intro hgd; conv at hgd => whnf)); (first | refine And.intro (srcObl_rs rfl ?_) ?_ | refine And.intro srcObl_sl ?_ | refine And.intro srcObl_nsl ?_ | skip); (all_goals (try simp only [underG, true_and, and_true, Bool.cond_true_left, Bool.cond_false_left, Bool.cond_true_right, Bool.cond_false_right, Bool.or_eq_true, Bool.and_eq_true, Bool.or_eq_false_iff, Bool.and_eq_false_iff, cond_true, cond_false, Bool.not_eq_eq_eq_not, Bool.not_true, Bool.not_false, decide_eq_true_eq, decide_eq_false_iff_not, Int.toNat_natCast, Nat.zero_add, Decidable.not_not, maxL] at *)); all_goals omega)))
    · exfalso
      rw [show b.ins.getD (i : Int).toNat default = x by simpa using hx, show c.ins.getD (i : Int).toNat default = y by simpa using hy] at hb
      rcases hs with h | ⟨h1, h2, h3, h4⟩
      · rw [h] at hb; simp at hb
      · simp [h1, h2] at hb; omega
    · refine ⟨i + 1, hlt, by omega, Weak.list [((1, 0, 0), .old (1, 0, 0), boxed (encBlock b)), ((3, 0, 0), .old (3, 0, 0), .row true 14 1 (fun _ => encBlock c))] rfl (by rfl) ?_ ?_⟩
      · ((repeat' first | exact TLes.nil | refine TLes.cons (TLe.eq rfl) ?_ | refine TLes.cons (TLe.nilL rfl ?_) ?_ | refine TLes.cons (TLe.rsL rfl ?_) ?_ | refine TLes.cons (TLe.int ?_) ?_ | refine TLes.cons (TLe.bool ?_) ?_); (all_goals first | rfl | ((try (simp only [underG, true_and, and_true, Bool.cond_true_left, Bool.cond_false_left, Bool.cond_true_right, Bool.cond_false_right, Bool.or_eq_true, Bool.and_eq_true, Bool.or_eq_false_iff, Bool.and_eq_false_iff, cond_true, cond_false, Bool.not_eq_eq_eq_not, Bool.not_true, Bool.not_false, decide_eq_true_eq, decide_eq_false_iff_not, Int.toNat_natCast, Nat.zero_add, Decidable.not_not, maxL] at *)); first | omega | (rw [wrap64 (by omega) (by omega)]; first | rfl | omega | (simp; done) | (simp; omega))) | skip))
      · exact .old rfl (BLe.refl _) (.old rfl (BLe.refl _) .nil)
  · refine .inl ⟨_, _, _, uG (QC.fc (c_SameEnd b.fin c.fin) rfl), ?_⟩
    conv => whnf
    ((repeat' first | refine AWp_seq ?_ | (refine AWp_reg tok (by rfl) ?_; conv => whnf) | (refine AWp_any tok mix (by rfl) ?_; conv => whnf) | refine AWp_block ?_ | (refine AWp_skip ?_; conv => whnf) | (refine AWp_exit ?_; conv => whnf) | (refine AWp_ret ?_; conv => whnf) | refine AWp_cond rfl (fun hb => ?_) (fun hb => ?_) | (refine @And.intro (underG _ _ _ _) _ ?_ ?_; rotate_left; (conv => whnf); rotate_right) | (refine fun (bn : Bool) (hbn : (0 < _ → bn = _)) => ?_; conv => whnf)); all_goals (try ((first | refine underG_none ?_ | (refine underG_some ?_; intro hgd; conv at hgd => whnf)); (first | refine And.intro (srcObl_rs rfl ?_) ?_ | refine And.intro srcObl_sl ?_ | refine And.intro srcObl_nsl ?_ | skip); (all_goals (try simp only [underG, true_and, and_true, Bool.cond_true_left, Bool.cond_false_left, Bool.cond_true_right, Bool.cond_false_right, Bool.or_eq_true, Bool.and_eq_true, Bool.or_eq_false_iff, Bool.and_eq_false_iff, cond_true, cond_false, Bool.not_eq_eq_eq_not, Bool.not_true, Bool.not_false, decide_eq_true_eq, decide_eq_false_iff_not, Int.toNat_natCast, Nat.zero_add, Decidable.not_not, maxL] at *)); all_goals omega)))
    · exact ⟨_, rfl, Rel.bool rfl⟩
    · refine ⟨_, rfl, Rel.bool ?_⟩
      rcases hfin with h | ⟨h1, h2, h3⟩
      · rw [h] at hb; simp at hb
      · rw [Bool.eq_iff_iff]; simp [h1, h2]; exact h3
end Go.Proofs.Ytmkiahbnfmpieaa
namespace Go.Proofs.Ytmkiahbnfmpieaa
open Go Dv
set_option maxRecDepth 10000
set_option linter.unusedSimpArgs false
def cns (w : List Int) (p : Nat) : Ins := ⟨1, p, 0, 0, w.getD p 0, 0, []⟩
def cnss (w : List Int) (n : Nat) : List Ins := (List.range n).map (cns w)
def okI (x : Ins) : Prop := 2 ≤ x.op ∧ x.op ≤ 8 ∧ x.op ≠ 6 ∧ 0 ≤ x.dst ∧ x.dst ≤ 7 ∧ 0 ≤ x.a ∧ x.a ≤ 7 ∧ 0 ≤ x.b ∧ x.b ≤ 7
theorem cnss_len (w : List Int) (n : Nat) : (cnss w n).length = n := by simp [cnss]
theorem cnss_succ (w : List Int) (n : Nat) : cnss w (n + 1) = cnss w n ++ [cns w n] := by simp [cnss, List.range_succ]
theorem app_row1W {α : Type} (e : α → List AV) (d : α) (l : List α) {v : α} {n : Nat} {f g : Nat → List AV} {x : Nat} (hn : n = l.length) (hf : ∀ i, i < l.length → Wks (f i) (e (l.getD i d))) (hg : Wks (g 0) (e v)) (hx : x < n + 1) :
    Wks (appR n f g x) (e ((l ++ [v]).getD x d)) := by
  subst hn
  unfold appR
  rw [getD_append]
  cases hc : Nat.blt x l.length with
  | true => rw [Nat.blt_eq] at hc; rw [if_pos hc]; exact hf x hc
  | false =>
    have h1 : ¬ x < l.length := fun h => by rw [← Nat.blt_eq] at h; rw [h] at hc; cases hc
    have h2 : x - l.length = 0 := by omega
    rw [if_neg h1, h2]; exact hg
theorem mlook_mput (m : List (List Int × Int)) (k k' : List Int) (v : Int) : mlook (mput m k v) k' = if k = k' then some v else mlook m k' := by
  induction m with
  | nil => simp only [mput, mlook]
  | cons p r ih =>
    obtain ⟨a, b⟩ := p
    simp only [mput]
    split
    · rename_i h; subst h; simp only [mlook]; split <;> rfl
    · rename_i h
      simp only [mlook, ih]
      by_cases h1 : a = k'
      · subst h1; rw [if_pos rfl, if_neg (fun e => h e.symm), if_pos rfl]
      · rw [if_neg h1, if_neg h1]
def has8 (m : List (List Int × Int)) : Prop := ∀ p : Int, 0 ≤ p → p ≤ 7 → (mlook m [p]).isSome = true
theorem has8_put {m : List (List Int × Int)} (h : has8 m) (k : List Int) (v : Int) : has8 (mput m k v) := fun p h1 h2 => by
  rw [mlook_mput]; split
  · rfl
  · exact h p h1 h2
theorem foldY_cns (m : List (List Int × Int)) (x : Ins) (h : x.op = 1) : foldY m x = x := by
  unfold foldY
  rw [if_neg]
  unfold ansW
  cases mlook m [x.a] with
  | none => simp
  | some a => simp [h, pureO]
theorem foldY_ok {m : List (List Int × Int)} {x : Ins} (h : has8 m) (ho : okI x) : (foldY m x).op = 1 ∧ (foldY m x).dst = x.dst := by
  unfold foldY
  obtain ⟨h1, h2, h3, h4, h5, h6, h7, h8, h9⟩ := ho
  have ha := h x.a h6 h7
  have hb := h x.b h8 h9
  rw [if_pos]
  · exact ⟨rfl, rfl⟩
  unfold ansW
  cases e1 : mlook m [x.a] with
  | none => rw [e1] at ha; cases ha
  | some a =>
    cases e2 : mlook m [x.b] with
    | none => rw [e2] at hb; cases hb
    | some b =>
      have hc : x.op = 2 ∨ x.op = 3 ∨ x.op = 4 ∨ x.op = 5 ∨ x.op = 7 ∨ x.op = 8 := by omega
      rcases hc with h | h | h | h | h | h <;> simp [h, pureO, twoO, doW]
theorem note_op1 (m : List (List Int × Int)) (x : Ins) (h : x.op = 1) : noteW m x = mput m [x.dst] x.k := by simp [noteW, h]
theorem foldIns_ok : ∀ (l : List Ins) (m : List (List Int × Int)), has8 m → (∀ i, i < l.length → okI (l.getD i default)) →
    (∀ i, i < l.length → ((foldIns m l).1.getD i default).op = 1 ∧ ((foldIns m l).1.getD i default).dst = (l.getD i default).dst) ∧ has8 (foldIns m l).2
  | [], m, h, _ => ⟨fun i hi => by simp at hi, h⟩
  | x :: r, m, h, ho => by
      have hx := foldY_ok h (ho 0 (by simp))
      have h' : has8 (noteW m (foldY m x)) := by
        have e : (foldY m x).op = 1 := hx.1
        rw [note_op1 _ _ e]; exact has8_put h _ _
      obtain ⟨i1, i2⟩ := foldIns_ok r _ h' (fun i hi => ho (i + 1) (by simpa using hi))
      refine ⟨fun i hi => ?_, i2⟩
      match i, hi with
      | 0, _ => exact hx
      | i + 1, hi => exact i1 i (by simpa using hi)
theorem foldIns_app : ∀ (l k : List Ins) (m : List (List Int × Int)), foldIns m (l ++ k) = ((foldIns m l).1 ++ (foldIns (foldIns m l).2 k).1, (foldIns (foldIns m l).2 k).2)
  | [], k, m => rfl
  | y :: r, k, m => by
      simp only [List.cons_append, foldIns]
      rw [foldIns_app r k _]
theorem foldIns_cns (w : List Int) : ∀ n, (foldIns [] (cnss w n)).1 = cnss w n ∧ ∀ p : Int, 0 ≤ p → p < n → (mlook (foldIns [] (cnss w n)).2 [p]).isSome = true
  | 0 => ⟨rfl, fun p h1 h2 => by omega⟩
  | n + 1 => by
      obtain ⟨h1, h2⟩ := foldIns_cns w n
      rw [cnss_succ, foldIns_snoc, foldY_cns _ _ rfl, h1]
      refine ⟨rfl, fun p hp hq => ?_⟩
      rw [note_op1 _ _ rfl, mlook_mput]
      split
      · rfl
      · rename_i h
        exact h2 p hp (by have : (cns w n).dst = (n : Int) := rfl; rw [this] at h; simp at h; omega)
def allB1 (w : List Int) (l : List Ins) : Block := { landing := false, pad := ⟨0, [], false, false⟩, ins := cnss w 8 ++ l, fin := ⟨3, 3, 0, 0, [], 1, 2, 0⟩ }
theorem foldAll_law (w : List Int) (l : List Ins) (h : ∀ k, k < l.length → okI (l.getD k default)) :
    (foldBlock (allB1 w l)).fin.kind = 2 ∧ ∀ i, i < (allB1 w l).ins.length → ((foldBlock (allB1 w l)).ins.getD i default).op = 1 ∧ ((foldBlock (allB1 w l)).ins.getD i default).dst = ((allB1 w l).ins.getD i default).dst := by
  have hc := foldIns_cns w 8
  have h8 : has8 (foldIns [] (cnss w 8)).2 := fun p h1 h2 => hc.2 p h1 (by omega)
  have hl := foldIns_ok l _ h8 h
  constructor
  · show (foldEnd (foldIns [] (cnss w 8 ++ l)).2 ⟨3, 3, 0, 0, [], 1, 2, 0⟩).kind = 2
    rw [foldIns_app]
    have := hl.2 3 (by omega) (by omega)
    unfold foldEnd
    cases e : mlook (foldIns (foldIns [] (cnss w 8)).2 l).2 [3] with
    | none => rw [e] at this; cases this
    | some v => simp [e]
  · intro i hi
    show ((foldIns [] (cnss w 8 ++ l)).1.getD i default).op = 1 ∧ ((foldIns [] (cnss w 8 ++ l)).1.getD i default).dst = ((cnss w 8 ++ l).getD i default).dst
    rw [foldIns_app, hc.1]
    simp only [getD_append, cnss_len]
    by_cases h1 : i < 8
    · rw [if_pos h1]
      rw [if_pos h1]
      refine ⟨?_, rfl⟩
      rw [getD_lt _ (by rw [cnss_len]; exact h1)]
      simp [cnss, cns]
    · rw [if_neg h1, if_neg h1]
      have hi' : i < (cnss w 8 ++ l).length := hi
      rw [List.length_append, cnss_len] at hi'
      exact hl.1 (i - 8) (by omega)
abbrev dCells (r : AV) : List AV := [.bool false, iv 0, .nsl, .bool false, .bool false, r, iv 0, iv 0, iv 0, iv 0, .nsl, iv 0, iv 0, iv 0]
theorem c_FoldAll (w : List Int) (l : List Ins) : FC Try.prog 5 [u16s w, inss l] (.bool true) := by
  refine FC_intro tok Try.func5 rfl (by decide +kernel) (Nat.le_of_ble_eq_true rfl) ?_
  refine AWp_facts 0 (fun hw => ?_)
  refine AWp_facts 1 (fun hl => ?_)
  have hw0 : w.length ≤ maxL := hw.1
  have hl0 : l.length ≤ maxL := hl.1
  ((repeat' first | refine AWp_seq ?_ | (refine AWp_reg tok (by rfl) ?_; conv => whnf) | (refine AWp_any tok mix (by rfl) ?_; conv => whnf) | refine AWp_block ?_ | (refine AWp_skip ?_; conv => whnf) | (refine AWp_exit ?_; conv => whnf) | (refine AWp_ret ?_; conv => whnf) | refine AWp_cond rfl (fun hb => ?_) (fun hb => ?_) | (refine @And.intro (underG _ _ _ _) _ ?_ ?_; rotate_left; (conv => whnf); rotate_right) | (refine fun (bn : Bool) (hbn : (0 < _ → bn = _)) => ?_; conv => whnf)); all_goals (try ((first | refine underG_none ?_ | (refine underG_some ?_; intro hgd; conv at hgd => whnf)); (first | refine And.intro (srcObl_rs rfl ?_) ?_ | refine And.intro srcObl_sl ?_ | refine And.intro srcObl_nsl ?_ | skip); (all_goals (try simp only [underG, true_and, and_true, Bool.cond_true_left, Bool.cond_false_left, Bool.cond_true_right, Bool.cond_false_right, Bool.or_eq_true, Bool.and_eq_true, Bool.or_eq_false_iff, Bool.and_eq_false_iff, cond_true, cond_false, Bool.not_eq_eq_eq_not, Bool.not_true, Bool.not_false, decide_eq_true_eq, decide_eq_false_iff_not, Int.toNat_natCast, Nat.zero_add, Decidable.not_not, maxL] at *)); all_goals omega)))
  refine .inl ⟨_, _, _, uG (QC.fc c_awake16 rfl), ?_⟩
  conv => whnf
  ((repeat' first | refine AWp_seq ?_ | (refine AWp_reg tok (by rfl) ?_; conv => whnf) | (refine AWp_any tok mix (by rfl) ?_; conv => whnf) | refine AWp_block ?_ | (refine AWp_skip ?_; conv => whnf) | (refine AWp_exit ?_; conv => whnf) | (refine AWp_ret ?_; conv => whnf) | refine AWp_cond rfl (fun hb => ?_) (fun hb => ?_) | (refine @And.intro (underG _ _ _ _) _ ?_ ?_; rotate_left; (conv => whnf); rotate_right) | (refine fun (bn : Bool) (hbn : (0 < _ → bn = _)) => ?_; conv => whnf)); all_goals (try ((first | refine underG_none ?_ | (refine underG_some ?_; intro hgd; conv at hgd => whnf)); (first | refine And.intro (srcObl_rs rfl ?_) ?_ | refine And.intro srcObl_sl ?_ | refine And.intro srcObl_nsl ?_ | skip); (all_goals (try simp only [underG, true_and, and_true, Bool.cond_true_left, Bool.cond_false_left, Bool.cond_true_right, Bool.cond_false_right, Bool.or_eq_true, Bool.and_eq_true, Bool.or_eq_false_iff, Bool.and_eq_false_iff, cond_true, cond_false, Bool.not_eq_eq_eq_not, Bool.not_true, Bool.not_false, decide_eq_true_eq, decide_eq_false_iff_not, Int.toNat_natCast, Nat.zero_add, Decidable.not_not, maxL] at *)); all_goals omega)))
  · cases hb
  · exact ⟨_, rfl, Rel.bool rfl⟩
  have hz : w.length = 8 ∧ l.length ≤ 60 := by simp only [underG, true_and, and_true, Bool.cond_true_left, Bool.cond_false_left, Bool.cond_true_right, Bool.cond_false_right, Bool.or_eq_true, Bool.and_eq_true, Bool.or_eq_false_iff, Bool.and_eq_false_iff, cond_true, cond_false, Bool.not_eq_eq_eq_not, Bool.not_true, Bool.not_false, decide_eq_true_eq, decide_eq_false_iff_not, Int.toNat_natCast, Nat.zero_add, Decidable.not_not, maxL] at *; omega
  refine AWp_loop (fun i : Nat => mkS [(0, u16s w), (1, inss l), (4, .bool false), (5, .bp (5, 0, 0) 0), (6, iv i)]
      [((5, 0, 0), .row false 14 1 (fun _ => dCells (.rs (5, 9, 0) 7 0 i))), ((5, 9, 0), insRow (cnss w i) i)])
    (fun i => i ≤ 8) (fun i => 8 - i) 0 (Nat.zero_le _) ?_ ?_
  · refine Weak.list [((5, 0, 0), .old (5, 0, 0), .row false 14 1 (fun _ => dCells (.rs (5, 9, 0) 7 0 0))), ((5, 9, 0), .nil, insRow (cnss w 0) 0)] rfl (by rfl) ?_ ?_
    · ((repeat' first | exact TLes.nil | refine TLes.cons (TLe.eq rfl) ?_ | refine TLes.cons (TLe.nilL rfl ?_) ?_ | refine TLes.cons (TLe.rsL rfl ?_) ?_ | refine TLes.cons (TLe.int ?_) ?_ | refine TLes.cons (TLe.bool ?_) ?_); (all_goals first | rfl | ((try (simp only [underG, true_and, and_true, Bool.cond_true_left, Bool.cond_false_left, Bool.cond_true_right, Bool.cond_false_right, Bool.or_eq_true, Bool.and_eq_true, Bool.or_eq_false_iff, Bool.and_eq_false_iff, cond_true, cond_false, Bool.not_eq_eq_eq_not, Bool.not_true, Bool.not_false, decide_eq_true_eq, decide_eq_false_iff_not, Int.toNat_natCast, Nat.zero_add, Decidable.not_not, maxL] at *)); first | omega | (rw [wrap64 (by omega) (by omega)]; first | rfl | omega | (simp; done) | (simp; omega))) | skip))
    · exact .oldR rfl (BLeR.cells rfl (fun x hx => .cons .eq (.cons .eq (.cons .eq (.cons .eq (.cons .eq (.cons (.nil rfl) (.cons .eq (.cons .eq (.cons .eq (.cons .eq (.cons .eq (.cons .eq (.cons .eq (.cons .eq .nil))))))))))))))) (.new .nil)
  intro i hi
  ((repeat' first | refine AWp_seq ?_ | (refine AWp_reg tok (by rfl) ?_; conv => whnf) | (refine AWp_any tok mix (by rfl) ?_; conv => whnf) | refine AWp_block ?_ | (refine AWp_skip ?_; conv => whnf) | (refine AWp_exit ?_; conv => whnf) | (refine AWp_ret ?_; conv => whnf) | refine AWp_cond rfl (fun hb => ?_) (fun hb => ?_) | (refine @And.intro (underG _ _ _ _) _ ?_ ?_; rotate_left; (conv => whnf); rotate_right) | (refine fun (bn : Bool) (hbn : (0 < _ → bn = _)) => ?_; conv => whnf)); all_goals (try ((first | refine underG_none ?_ | (refine underG_some ?_; intro hgd; conv at hgd => whnf)); (first | refine And.intro (srcObl_rs rfl ?_) ?_ | refine And.intro srcObl_sl ?_ | refine And.intro srcObl_nsl ?_ | skip); (all_goals (try simp only [underG, true_and, and_true, Bool.cond_true_left, Bool.cond_false_left, Bool.cond_true_right, Bool.cond_false_right, Bool.or_eq_true, Bool.and_eq_true, Bool.or_eq_false_iff, Bool.and_eq_false_iff, cond_true, cond_false, Bool.not_eq_eq_eq_not, Bool.not_true, Bool.not_false, decide_eq_true_eq, decide_eq_false_iff_not, Int.toNat_natCast, Nat.zero_add, Decidable.not_not, maxL] at *)); all_goals omega)))
  · have hlt : i < 8 := by simp only [underG, true_and, and_true, Bool.cond_true_left, Bool.cond_false_left, Bool.cond_true_right, Bool.cond_false_right, Bool.or_eq_true, Bool.and_eq_true, Bool.or_eq_false_iff, Bool.and_eq_false_iff, cond_true, cond_false, Bool.not_eq_eq_eq_not, Bool.not_true, Bool.not_false, decide_eq_true_eq, decide_eq_false_iff_not, Int.toNat_natCast, Nat.zero_add, Decidable.not_not, maxL] at *; omega
    refine ⟨i + 1, hlt, by omega, Weak.list [((5, 0, 0), .old (5, 0, 0), .row false 14 1 (fun _ => dCells (.rs (5, 9, 0) 7 0 (i + 1)))), ((5, 9, 0), .old (freshD (some 34)), insRow (cnss w (i + 1)) (i + 1))] rfl (by rfl) ?_ ?_⟩
    · ((repeat' first | exact TLes.nil | refine TLes.cons (TLe.eq rfl) ?_ | refine TLes.cons (TLe.nilL rfl ?_) ?_ | refine TLes.cons (TLe.rsL rfl ?_) ?_ | refine TLes.cons (TLe.int ?_) ?_ | refine TLes.cons (TLe.bool ?_) ?_); (all_goals first | rfl | ((try (simp only [underG, true_and, and_true, Bool.cond_true_left, Bool.cond_false_left, Bool.cond_true_right, Bool.cond_false_right, Bool.or_eq_true, Bool.and_eq_true, Bool.or_eq_false_iff, Bool.and_eq_false_iff, cond_true, cond_false, Bool.not_eq_eq_eq_not, Bool.not_true, Bool.not_false, decide_eq_true_eq, decide_eq_false_iff_not, Int.toNat_natCast, Nat.zero_add, Decidable.not_not, maxL] at *)); first | omega | (rw [wrap64 (by omega) (by omega)]; first | rfl | omega | (simp; done) | (simp; omega))) | skip))
    · refine .old rfl (BLe.rowW (Nat.le_refl _) (fun x hx => ?_)) (.old rfl (BLe.rowW (Nat.le_refl _) (fun x hx => ?_)) .nil)
      · match x, hx with
        | 0, _ => (repeat' ((conv => arg 1; whnf); (conv => arg 2; whnf); first | refine Wks.cons .refl ?_ | refine Wks.cons (.nsl rfl) ?_ | exact Wks.nil))
      · rw [cnss_succ]
        show Wks (appR i (fun x => encIns ((cnss w i).getD x default)) (fun k => rowOf 7 [iv 1, iv i, iv 0, iv 0, .int .u16 (w.getD (i : Int).toNat 0), iv 0, .nsl] (0 + k)) x) _
        refine app_row1W encIns default (cnss w i) (v := cns w i) (cnss_len w i).symm (fun _ _ => Wks.refl _) ?_ hx
        (repeat' ((conv => arg 1; whnf); (conv => arg 2; whnf); first | refine Wks.cons .refl ?_ | refine Wks.cons (.nsl rfl) ?_ | exact Wks.nil))
  refine AWp_loop (fun j : Nat => mkS [(1, inss l), (4, .bool false), (5, .bp (5, 0, 0) 0), (7, iv j)]
      [((5, 0, 0), .row false 14 1 (fun _ => dCells (.rs (5, 9, 0) 7 0 (8 + j)))), ((5, 9, 0), insRow (cnss w 8 ++ l.take j) (8 + j))])
    (fun j => j ≤ l.length ∧ ∀ k, k < j → okI (l.getD k default)) (fun j => l.length - j) 0 ⟨Nat.zero_le _, by simp⟩ ?_ ?_
  · have h8 : i = 8 := by simp only [underG, true_and, and_true, Bool.cond_true_left, Bool.cond_false_left, Bool.cond_true_right, Bool.cond_false_right, Bool.or_eq_true, Bool.and_eq_true, Bool.or_eq_false_iff, Bool.and_eq_false_iff, cond_true, cond_false, Bool.not_eq_eq_eq_not, Bool.not_true, Bool.not_false, decide_eq_true_eq, decide_eq_false_iff_not, Int.toNat_natCast, Nat.zero_add, Decidable.not_not, maxL] at *; omega
    subst h8
    refine Weak.list [((5, 0, 0), .old (5, 0, 0), .row false 14 1 (fun _ => dCells (.rs (5, 9, 0) 7 0 (8 + 0)))), ((5, 9, 0), .old (5, 9, 0), insRow (cnss w 8 ++ l.take 0) (8 + 0))] rfl (by rfl) ?_ ?_
    · ((repeat' first | exact TLes.nil | refine TLes.cons (TLe.eq rfl) ?_ | refine TLes.cons (TLe.nilL rfl ?_) ?_ | refine TLes.cons (TLe.rsL rfl ?_) ?_ | refine TLes.cons (TLe.int ?_) ?_ | refine TLes.cons (TLe.bool ?_) ?_); (all_goals first | rfl | ((try (simp only [underG, true_and, and_true, Bool.cond_true_left, Bool.cond_false_left, Bool.cond_true_right, Bool.cond_false_right, Bool.or_eq_true, Bool.and_eq_true, Bool.or_eq_false_iff, Bool.and_eq_false_iff, cond_true, cond_false, Bool.not_eq_eq_eq_not, Bool.not_true, Bool.not_false, decide_eq_true_eq, decide_eq_false_iff_not, Int.toNat_natCast, Nat.zero_add, Decidable.not_not, maxL] at *)); first | omega | (rw [wrap64 (by omega) (by omega)]; first | rfl | omega | (simp; done) | (simp; omega))) | skip))
    · refine .old rfl (BLe.refl _) (.old rfl (BLe.row rfl (fun x hx => ?_)) .nil)
      rw [List.take_zero, List.append_nil]; rfl
  rintro j ⟨hj, hok⟩
  ((repeat' ((fail_if_success (show AWp _ _ _ (Code.region 18 _ _) _ _)); first | refine AWp_seq ?_ | (refine AWp_reg tok (by rfl) ?_; conv => whnf) | (refine AWp_any tok mix (by rfl) ?_; conv => whnf) | refine AWp_block ?_ | (refine AWp_skip ?_; conv => whnf) | (refine AWp_exit ?_; conv => whnf) | (refine AWp_ret ?_; conv => whnf) | refine AWp_cond rfl (fun hb => ?_) (fun hb => ?_) | (refine @And.intro (underG _ _ _ _) _ ?_ ?_; rotate_left; (conv => whnf); rotate_right) | (refine fun (bn : Bool) (hbn : (0 < _ → bn = _)) => ?_; conv => whnf))); all_goals (try ((first | refine underG_none ?_ | (refine underG_some ?_; intro hgd; conv at hgd => whnf)); (first | refine And.intro (srcObl_rs rfl ?_) ?_ | refine And.intro srcObl_sl ?_ | refine And.intro srcObl_nsl ?_ | skip); (all_goals (try simp only [underG, true_and, and_true, Bool.cond_true_left, Bool.cond_false_left, Bool.cond_true_right, Bool.cond_false_right, Bool.or_eq_true, Bool.and_eq_true, Bool.or_eq_false_iff, Bool.and_eq_false_iff, cond_true, cond_false, Bool.not_eq_eq_eq_not, Bool.not_true, Bool.not_false, decide_eq_true_eq, decide_eq_false_iff_not, Int.toNat_natCast, Nat.zero_add, Decidable.not_not, maxL] at *)); all_goals omega)))
  · exact ⟨_, rfl, Rel.bool rfl⟩
  · have hlt : j < l.length := by simp only [underG, true_and, and_true, Bool.cond_true_left, Bool.cond_false_left, Bool.cond_true_right, Bool.cond_false_right, Bool.or_eq_true, Bool.and_eq_true, Bool.or_eq_false_iff, Bool.and_eq_false_iff, cond_true, cond_false, Bool.not_eq_eq_eq_not, Bool.not_true, Bool.not_false, decide_eq_true_eq, decide_eq_false_iff_not, Int.toNat_natCast, Nat.zero_add, Decidable.not_not, maxL] at *; omega
    have hget : l.getD (j : Int).toNat default = l.getD j default := by simp
    refine ⟨j + 1, ⟨hlt, fun k hk => ?_⟩, by omega, Weak.list [((5, 0, 0), .old (5, 0, 0), .row false 14 1 (fun _ => dCells (.rs (5, 9, 0) 7 0 (8 + (j + 1))))), ((5, 9, 0), .old (freshD (some 93)), insRow (cnss w 8 ++ l.take (j + 1)) (8 + (j + 1)))] rfl (by rfl) ?_ ?_⟩
    · by_cases e : k = j
      · subst e
        rw [hget] at hb
        simp only [okI]
        simp only [underG, true_and, and_true, Bool.cond_true_left, Bool.cond_false_left, Bool.cond_true_right, Bool.cond_false_right, Bool.or_eq_true, Bool.and_eq_true, Bool.or_eq_false_iff, Bool.and_eq_false_iff, cond_true, cond_false, Bool.not_eq_eq_eq_not, Bool.not_true, Bool.not_false, decide_eq_true_eq, decide_eq_false_iff_not, Int.toNat_natCast, Nat.zero_add, Decidable.not_not, maxL] at *
        omega
      · exact hok k (by omega)
    · ((repeat' first | exact TLes.nil | refine TLes.cons (TLe.eq rfl) ?_ | refine TLes.cons (TLe.nilL rfl ?_) ?_ | refine TLes.cons (TLe.rsL rfl ?_) ?_ | refine TLes.cons (TLe.int ?_) ?_ | refine TLes.cons (TLe.bool ?_) ?_); (all_goals first | rfl | ((try (simp only [underG, true_and, and_true, Bool.cond_true_left, Bool.cond_false_left, Bool.cond_true_right, Bool.cond_false_right, Bool.or_eq_true, Bool.and_eq_true, Bool.or_eq_false_iff, Bool.and_eq_false_iff, cond_true, cond_false, Bool.not_eq_eq_eq_not, Bool.not_true, Bool.not_false, decide_eq_true_eq, decide_eq_false_iff_not, Int.toNat_natCast, Nat.zero_add, Decidable.not_not, maxL] at *)); first | omega | (rw [wrap64 (by omega) (by omega)]; first | rfl | omega | (simp; done) | (simp; omega))) | skip))
    · refine .old rfl (BLe.rowW (Nat.le_refl _) (fun x hx => ?_)) (.old rfl (BLe.rowW (Nat.le_refl _) (fun x hx => ?_)) .nil)
      · match x, hx with
        | 0, _ => (repeat' ((conv => arg 1; whnf); (conv => arg 2; whnf); first | refine Wks.cons .refl ?_ | refine Wks.cons (.nsl rfl) ?_ | exact Wks.nil))
      · rw [take_succ_getD default hlt, ← List.append_assoc]
        show Wks (appR (8 + j) (fun x => encIns ((cnss w 8 ++ l.take j).getD x default)) (fun k => rowOf 7 (encIns (l.getD (j : Int).toNat default)) (0 + k)) x) _
        refine app_row1W encIns default (cnss w 8 ++ l.take j) (v := l.getD j default) (by simp [cnss_len]; omega) (fun _ _ => Wks.refl _) (Wks.of ?_) (by omega)
        rw [← hget]; rfl
  have hjl : j = l.length := by simp only [underG, true_and, and_true, Bool.cond_true_left, Bool.cond_false_left, Bool.cond_true_right, Bool.cond_false_right, Bool.or_eq_true, Bool.and_eq_true, Bool.or_eq_false_iff, Bool.and_eq_false_iff, cond_true, cond_false, Bool.not_eq_eq_eq_not, Bool.not_true, Bool.not_false, decide_eq_true_eq, decide_eq_false_iff_not, Int.toNat_natCast, Nat.zero_add, Decidable.not_not, maxL] at *; omega
  subst hjl
  have htk : l.take l.length = l := List.take_length
  refine AWp_weak (Weak.sem [((5, 0, 0), .old (5, 0, 0), .row false 14 1 (fun _ => encBlock (allB1 w l)))] (tl := [(4, .bool false), (5, .bp (5, 0, 0) 0)]) rfl rfl (.cons (FV.le rfl (.eq rfl)) (.cons (FV.le rfl (.eq rfl)) .nil)) (.old rfl (BF.cells (Nat.le_refl _) (fun x hx => ?_)) .nil)) ?_
  · match x, hx with
    | 0, _ =>
      conv => arg 3; whnf
      conv => arg 4; whnf
      refine .cons (FV.imm rfl) (.cons (FV.imm rfl) (.cons (FV.wk rfl (.nsl rfl)) (.cons (FV.imm rfl) (.cons (FV.imm rfl) (.cons (FV.frz rfl rfl (Nat.le_of_eq (Nat.zero_add _)) ?_ (fun x _ => ?_)) (.cons (FV.imm rfl) (.cons (FV.imm rfl) (.cons (FV.imm rfl) (.cons (FV.imm rfl) (.cons (FV.wk rfl (.nsl rfl)) (.cons (FV.imm rfl) (.cons (FV.imm rfl) (.cons (FV.imm rfl) .nil)))))))))))))
      · show 8 + l.length = (cnss w 8 ++ l).length
        rw [List.length_append, cnss_len]
      · show Wks (encIns ((cnss w 8 ++ l.take l.length).getD (0 + x) default)) (encIns ((cnss w 8 ++ l).getD x default))
        rw [htk, Nat.zero_add]; exact Wks.refl _
  have hlaw := foldAll_law w l (fun k hk => hok k hk)
  have hbl : (allB1 w l).ins.length = 8 + l.length := by show (cnss w 8 ++ l).length = _; rw [List.length_append, cnss_len]
  have hcl : (foldBlock (allB1 w l)).ins.length = (allB1 w l).ins.length := foldIns_len _ _
  have hcall := c_Block (allB1 w l)
  generalize foldBlock (allB1 w l) = c at hlaw hcl hcall
  generalize allB1 w l = B at hlaw hcl hbl hcall
  ((repeat' first | refine AWp_seq ?_ | (refine AWp_reg tok (by rfl) ?_; conv => whnf) | (refine AWp_any tok mix (by rfl) ?_; conv => whnf) | refine AWp_block ?_ | (refine AWp_skip ?_; conv => whnf) | (refine AWp_exit ?_; conv => whnf) | (refine AWp_ret ?_; conv => whnf) | refine AWp_cond rfl (fun hb => ?_) (fun hb => ?_) | (refine @And.intro (underG _ _ _ _) _ ?_ ?_; rotate_left; (conv => whnf); rotate_right) | (refine fun (bn : Bool) (hbn : (0 < _ → bn = _)) => ?_; conv => whnf)); all_goals (try ((first | refine underG_none ?_ | (refine underG_some ?_; intro hgd; conv at hgd => whnf)); (first | refine And.intro (srcObl_rs rfl ?_) ?_ | refine And.intro srcObl_sl ?_ | refine And.intro srcObl_nsl ?_ | skip); (all_goals (try simp only [underG, true_and, and_true, Bool.cond_true_left, Bool.cond_false_left, Bool.cond_true_right, Bool.cond_false_right, Bool.or_eq_true, Bool.and_eq_true, Bool.or_eq_false_iff, Bool.and_eq_false_iff, cond_true, cond_false, Bool.not_eq_eq_eq_not, Bool.not_true, Bool.not_false, decide_eq_true_eq, decide_eq_false_iff_not, Int.toNat_natCast, Nat.zero_add, Decidable.not_not, maxL] at *)); all_goals omega)))
  refine .inl ⟨_, _, _, uG (QC.fc hcall rfl), ?_⟩
  conv => whnf
  ((repeat' first | refine AWp_seq ?_ | (refine AWp_reg tok (by rfl) ?_; conv => whnf) | (refine AWp_any tok mix (by rfl) ?_; conv => whnf) | refine AWp_block ?_ | (refine AWp_skip ?_; conv => whnf) | (refine AWp_exit ?_; conv => whnf) | (refine AWp_ret ?_; conv => whnf) | refine AWp_cond rfl (fun hb => ?_) (fun hb => ?_) | (refine @And.intro (underG _ _ _ _) _ ?_ ?_; rotate_left; (conv => whnf); rotate_right) | (refine fun (bn : Bool) (hbn : (0 < _ → bn = _)) => ?_; conv => whnf)); all_goals (try ((first | refine underG_none ?_ | (refine underG_some ?_; intro hgd; conv at hgd => whnf)); (first | refine And.intro (srcObl_rs rfl ?_) ?_ | refine And.intro srcObl_sl ?_ | refine And.intro srcObl_nsl ?_ | skip); (all_goals (try simp only [underG, true_and, and_true, Bool.cond_true_left, Bool.cond_false_left, Bool.cond_true_right, Bool.cond_false_right, Bool.or_eq_true, Bool.and_eq_true, Bool.or_eq_false_iff, Bool.and_eq_false_iff, cond_true, cond_false, Bool.not_eq_eq_eq_not, Bool.not_true, Bool.not_false, decide_eq_true_eq, decide_eq_false_iff_not, Int.toNat_natCast, Nat.zero_add, Decidable.not_not, maxL] at *)); all_goals omega)))
  · exfalso; simp only [underG, true_and, and_true, Bool.cond_true_left, Bool.cond_false_left, Bool.cond_true_right, Bool.cond_false_right, Bool.or_eq_true, Bool.and_eq_true, Bool.or_eq_false_iff, Bool.and_eq_false_iff, cond_true, cond_false, Bool.not_eq_eq_eq_not, Bool.not_true, Bool.not_false, decide_eq_true_eq, decide_eq_false_iff_not, Int.toNat_natCast, Nat.zero_add, Decidable.not_not, maxL] at *; omega
  refine AWp_loop (fun i : Nat => mkS [(5, .bp (5, 0, 0) 0), (9, .bp (9, 0, 0) 0), (10, iv i)]
      [((5, 0, 0), .row false 14 1 (fun _ => encBlock B)), ((9, 0, 0), .row true 14 1 (fun _ => encBlock c))])
    (fun i => i ≤ B.ins.length) (fun i => B.ins.length - i) 0 (Nat.zero_le _) ?_ ?_
  · refine Weak.list [((5, 0, 0), .old (5, 0, 0), .row false 14 1 (fun _ => encBlock B)), ((9, 0, 0), .old (9, 0, 0), .row true 14 1 (fun _ => encBlock c))] rfl (by rfl) ?_ ?_
    · ((repeat' first | exact TLes.nil | refine TLes.cons (TLe.eq rfl) ?_ | refine TLes.cons (TLe.nilL rfl ?_) ?_ | refine TLes.cons (TLe.rsL rfl ?_) ?_ | refine TLes.cons (TLe.int ?_) ?_ | refine TLes.cons (TLe.bool ?_) ?_); (all_goals first | rfl | ((try (simp only [underG, true_and, and_true, Bool.cond_true_left, Bool.cond_false_left, Bool.cond_true_right, Bool.cond_false_right, Bool.or_eq_true, Bool.and_eq_true, Bool.or_eq_false_iff, Bool.and_eq_false_iff, cond_true, cond_false, Bool.not_eq_eq_eq_not, Bool.not_true, Bool.not_false, decide_eq_true_eq, decide_eq_false_iff_not, Int.toNat_natCast, Nat.zero_add, Decidable.not_not, maxL] at *)); first | omega | (rw [wrap64 (by omega) (by omega)]; first | rfl | omega | (simp; done) | (simp; omega))) | skip))
    · refine .old rfl (BLe.refl _) (.old rfl (BLe.rowW (Nat.le_refl _) (fun x hx => ?_)) .nil)
      match x, hx with
      | 0, _ => (repeat' ((conv => arg 1; whnf); (conv => arg 2; whnf); first | refine Wks.cons .refl ?_ | refine Wks.cons (.nsl rfl) ?_ | exact Wks.nil))
  intro k hk
  ((repeat' first | refine AWp_seq ?_ | (refine AWp_reg tok (by rfl) ?_; conv => whnf) | (refine AWp_any tok mix (by rfl) ?_; conv => whnf) | refine AWp_block ?_ | (refine AWp_skip ?_; conv => whnf) | (refine AWp_exit ?_; conv => whnf) | (refine AWp_ret ?_; conv => whnf) | refine AWp_cond rfl (fun hb => ?_) (fun hb => ?_) | (refine @And.intro (underG _ _ _ _) _ ?_ ?_; rotate_left; (conv => whnf); rotate_right) | (refine fun (bn : Bool) (hbn : (0 < _ → bn = _)) => ?_; conv => whnf)); all_goals (try ((first | refine underG_none ?_ | (refine underG_some ?_; intro hgd; conv at hgd => whnf)); (first | refine And.intro (srcObl_rs rfl ?_) ?_ | refine And.intro srcObl_sl ?_ | refine And.intro srcObl_nsl ?_ | skip); (all_goals (try simp only [underG, true_and, and_true, Bool.cond_true_left, Bool.cond_false_left, Bool.cond_true_right, Bool.cond_false_right, Bool.or_eq_true, Bool.and_eq_true, Bool.or_eq_false_iff, Bool.and_eq_false_iff, cond_true, cond_false, Bool.not_eq_eq_eq_not, Bool.not_true, Bool.not_false, decide_eq_true_eq, decide_eq_false_iff_not, Int.toNat_natCast, Nat.zero_add, Decidable.not_not, maxL] at *)); all_goals omega)))
  · exfalso
    have hlt : k < B.ins.length := by simp only [underG, true_and, and_true, Bool.cond_true_left, Bool.cond_false_left, Bool.cond_true_right, Bool.cond_false_right, Bool.or_eq_true, Bool.and_eq_true, Bool.or_eq_false_iff, Bool.and_eq_false_iff, cond_true, cond_false, Bool.not_eq_eq_eq_not, Bool.not_true, Bool.not_false, decide_eq_true_eq, decide_eq_false_iff_not, Int.toNat_natCast, Nat.zero_add, Decidable.not_not, maxL] at *; omega
    obtain ⟨e1, e2⟩ := hlaw.2 k hlt
    simp at e1 e2 hb
    simp [e1, e2] at hb
  · have hlt : k < B.ins.length := by simp only [underG, true_and, and_true, Bool.cond_true_left, Bool.cond_false_left, Bool.cond_true_right, Bool.cond_false_right, Bool.or_eq_true, Bool.and_eq_true, Bool.or_eq_false_iff, Bool.and_eq_false_iff, cond_true, cond_false, Bool.not_eq_eq_eq_not, Bool.not_true, Bool.not_false, decide_eq_true_eq, decide_eq_false_iff_not, Int.toNat_natCast, Nat.zero_add, Decidable.not_not, maxL] at *; omega
    refine ⟨k + 1, hlt, by omega, Weak.list [((5, 0, 0), .old (5, 0, 0), .row false 14 1 (fun _ => encBlock B)), ((9, 0, 0), .old (9, 0, 0), .row true 14 1 (fun _ => encBlock c))] rfl (by rfl) ?_ ?_⟩
    · ((repeat' first | exact TLes.nil | refine TLes.cons (TLe.eq rfl) ?_ | refine TLes.cons (TLe.nilL rfl ?_) ?_ | refine TLes.cons (TLe.rsL rfl ?_) ?_ | refine TLes.cons (TLe.int ?_) ?_ | refine TLes.cons (TLe.bool ?_) ?_); (all_goals first | rfl | ((try (simp only [underG, true_and, and_true, Bool.cond_true_left, Bool.cond_false_left, Bool.cond_true_right, Bool.cond_false_right, Bool.or_eq_true, Bool.and_eq_true, Bool.or_eq_false_iff, Bool.and_eq_false_iff, cond_true, cond_false, Bool.not_eq_eq_eq_not, Bool.not_true, Bool.not_false, decide_eq_true_eq, decide_eq_false_iff_not, Int.toNat_natCast, Nat.zero_add, Decidable.not_not, maxL] at *)); first | omega | (rw [wrap64 (by omega) (by omega)]; first | rfl | omega | (simp; done) | (simp; omega))) | skip))
    · exact .old rfl (BLe.refl _) (.old rfl (BLe.refl _) .nil)
  · exact ⟨_, rfl, Rel.bool rfl⟩
end Go.Proofs.Ytmkiahbnfmpieaa
namespace Go.Proofs.Ytmkiahbnfmpieaa
open Go Dv Go.ChangeShapes Go.WideShapes Go.ChangeAt Go.RowKit
open Go.Proofs.Ytmkiahbnfmpieaa
set_option maxRecDepth 100000
set_option linter.unusedVariables false
namespace foldAll
theorem own : ownKnob Try.prog.godebug = none := by kernel_rfl
theorem contract (H : Type) (enc : TypeId × Value → H) (W : World) (base : Nat) (args : Array Value) (ds gs : List (DataW H)) (before : List MemPlace) (hk : Rows.uptoSmall H (ds ++ gs) = true)
    (hval : ∀ (j : Nat) t v, Try.f5.params[j]? = some t → args[j]? = some v → Value.okWide Try.prog W .any base t v)
    (hW : DataW.Whole enc Try.prog Try.f5.params.toList Rows.foldAllSpec.vars false W args.toList ds gs before) :
    Calls Try.prog 5 args W fun e W' => ∃ v, e = .returned v ∧ Rows.foldAllSpec.post enc Try.prog Try.f5 false true false false W args v W' := by
  have hsm := small_of hk
  have hW' := hW
  obtain ⟨p, q, hA0, hV, rfl, hfz, hnd⟩ := hW
  have hA : DataW.TrodAll enc Try.prog W 0 (fun _ => true) true Try.f5.params.toList args.toList ds p := hA0
  rw [Try.params5] at hA hval
  obtain ⟨v0, vs0, d0, ds0, p0, q0, hargs, rfl, rfl, h0, r0⟩ := trodAll_cons hA
  obtain ⟨v1, vs1, d1, ds1, p1, q1, rfl, rfl, rfl, h1, r1⟩ := trodAll_cons r0
  obtain ⟨rfl, rfl, rfl⟩ := trodAll_nil r1
  obtain rfl : args = #[v0, v1] := by cases args; simp_all
  obtain ⟨x0, hx0⟩ := arg_slice Try.underlying22 (hval 0 _ v0 rfl rfl) h0 rd_u16s (hsm d0 (by simp))
  obtain ⟨x1, hx1⟩ := arg_slice Try.underlying25 (hval 1 _ v1 rfl rfl) h1 rd_inss (hsm d1 (by simp))
  obtain ⟨rfl, rfl⟩ := trodVars_none hV
  refine law_contract (tb := 4) (by decide +kernel) (by rw [Try.params5]; decide +kernel) rfl (by kernel_rfl) Try.underlying4 hW' ⟨rfl, rfl, rfl⟩ (FC.calls (c_FoldAll x0 x1) ?_)
  simp only [Vs]
  exact ⟨_, _, rfl, hx0, _, _, rfl, hx1, rfl⟩
theorem lifted (os : Os) (started : os.Started) (H : Type) (enc : TypeId × Value → H) (F : Stop.Interp) :
    ReturnsInHanded {} Try.checked os 5 .any ((Rows.OpenSpec.upto Rows.foldAllSpec).pre6 enc Try.prog Try.f5 Rows.foldAllUptoRow.domain false) (((Rows.OpenSpec.upto Rows.foldAllSpec).at F).post enc Try.prog Try.f5 false true false false) := by
  refine returnsInHanded_of_cond (C := Try.checked) (s := Rows.OpenSpec.upto Rows.foldAllSpec) (k := Rows.uptoSmall) rfl own started (by kernel_rfl) Try.func5
    (OpenSpec.witness (enc := enc) (C := Try.checked) (s := Rows.OpenSpec.upto Rows.foldAllSpec) (k := Rows.uptoSmall) rfl false ⟨#[], #[.slice none 0 0, .slice none 0 0], []⟩ 8 (by kernel_rfl) (by kernel_rfl) (by kernel_rfl)
      (x := ([.nil, .nil], [], [])) (by kernel_rfl) rfl (by kernel_rfl)) ?_
  intro W base args ds gs before hval hW _ hk _
  exact contract H enc W base args ds gs before hk hval hW
theorem over : Rows.foldAllUptoRow.holds Try.pinned (Rows.OpenSpec.upto Rows.foldAllSpec) :=
  OpenClaim.holds_of_cond 5 Try.f5 rfl rfl rfl rfl rfl rfl rfl ⟨rfl, rfl, rfl, rfl, rfl⟩ rfl rfl rfl rfl rfl (by kernel_rfl) Try.func5 (by kernel_rfl)
    (of_decide_eq_true (by kernel_rfl)) (by unfold Func.isWrapper; first | (rw [if_pos (by decide +kernel)]; kernel_rfl) | (rw [if_neg (by decide +kernel)]; exact ⟨rfl, rfl⟩))
    (fun os started H enc _ F => lifted os started H enc F)
end foldAll
theorem foldAll_holds : Rows.FoldAllUptoSaid := foldAll.over
end Go.Proofs.Ytmkiahbnfmpieaa
