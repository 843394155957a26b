/- Whatever a module, the words told to it, and the steps: what calm.Module calms may be, throws out of the same functions, stays if calmed again, leaves no invoke of one that does not throw but in a full block, and does the same in at most twice as many steps, as davitref06 runs both. -/
import Derived.Test.YtoelbgjpmpoolaaGreatDvc3
import Derived.Test.YtoelbgjpmpoolaaGreatLawCalmKeeps1
import Derived.RangeFuncGives
import Derived.Maps.AppendAt
import Derived.Shelf.Abstract
import Derived.WalkKit
import Derived.OwnWalkIn
import Derived.TacticsInMore
import Derived.RegionIn
import Derived.LoopNIn
import Derived.LoopIn
set_option linter.unusedVariables false
set_option linter.unusedSimpArgs false
set_option linter.unnecessarySimpa false
namespace Go.Proofs.YtoelbgjpmpoolaaGreat
open Go Dv
set_option maxRecDepth 10000
set_option linter.unusedSimpArgs false
def encL (m : Zam) (f : Func) : List AV := Zan m ++ Za3 f
theorem c_IdxInt {g : FuncId} {cap : List AV} {p : Int → Bool} (hi : Zbo cap = true) (hg : ∀ k, FC Tryz.prog g (iv k :: cap) (.bool (p k))) (l : List Int) : FC Tryz.prog 169 [ints l, .fn g cap] (iv (idxG p l)) := by
  refine Zao tok Tryz.func169 rfl (by decide +kernel) (Nat.le_of_ble_eq_true rfl) ?_
  refine Zap 0 (fun hl => ?_)
  have hl0 : l.length ≤ maxL := hl.1
  (repeat' first | refine Zad ?_ | (refine Zab tok (by rfl) ?_; conv => whnf) | refine Zai ?_)
  refine Zau (fun i : Nat => mkS [(0, ints l), (1, .fn g cap), (7, iv l.length), (8, iv i)] [])
    (fun i => i ≤ l.length ∧ ∀ j, j < i → p (l.getD j 0) = false) (fun i => l.length - i) 0 ⟨Nat.zero_le _, by simp⟩ ?_ ?_
  · refine Weak.list [] rfl (by rfl) ?_ .nil
    ((repeat' first | exact TLes.nil | refine TLes.cons (TLe.eq rfl) ?_ | refine TLes.cons (TLe.fn (by assumption)) ?_); skip)
  rintro i ⟨hi2, hc⟩
  ((repeat' first | refine Zad ?_ | (refine Zab tok (by rfl) ?_; conv => whnf) | refine Zai ?_ | (refine Zag ?_; conv => whnf) | (refine Zav ?_; conv => whnf) | (refine Zah ?_; conv => whnf) | (refine (Zbs _ _).mpr ?_; conv => whnf) | refine Zaf rfl (fun hb => ?_) (fun hb => ?_) | (refine @And.intro (Zaa _ _ _ _) _ ?_ ?_; rotate_left; (conv => whnf); rotate_right)); all_goals (try ((guard_target = Zaa _ _ _ _); refine Zae ?_; (all_goals (try simp only [Zaa, kzz, kz11, kz12, maxL, Zac] at *)); all_goals omega)))
  · have hlt : i < l.length := by simp only [Zaa, kzz, kz11, kz12, maxL, Zac] at *; omega
    refine .inl ⟨_, _, _, uG (QC.fc (hg _) (Zfc (xs := [_]) rfl hi)), ?_⟩
    conv => whnf
    (repeat' first | refine Zad ?_ | (refine Zab tok (by rfl) ?_; conv => whnf) | (refine Zag ?_; conv => whnf) | (refine Zah ?_; conv => whnf) | refine Zaf rfl (fun hb => ?_) (fun hb => ?_))
    · refine ⟨_, rfl, Rel.int ?_⟩
      exact (idxG_at 0 hlt hc (by simpa using hb)).symm
    · refine ⟨i + 1, ⟨hlt, fun j hj => ?_⟩, by omega, ?_⟩
      · by_cases e : j = i
        · subst e; simpa using hb
        · exact hc j (by omega)
      refine Weak.list [] rfl (by rfl) ?_ .nil
      ((repeat' first | exact TLes.nil | refine TLes.cons (TLe.eq rfl) ?_ | refine TLes.cons (TLe.int ?_) ?_ | refine TLes.cons (TLe.fn (by assumption)) ?_); (all_goals first | ((try (simp only [Zaa, kzz, kz11, kz12, maxL, Zac] at *)); exact Zak (by omega) (by omega)) | skip))
  · refine ⟨_, rfl, Rel.int ?_⟩
    exact (idxG_none 0 (fun j hj => hc j (by simp only [Zaa, kzz, kz11, kz12, maxL, Zac] at *; omega))).symm
theorem c_HasInt {g : FuncId} {cap : List AV} {p : Int → Bool} (hi : Zbo cap = true) (hg : ∀ k, FC Tryz.prog g (iv k :: cap) (.bool (p k))) (l : List Int) : FC Tryz.prog 206 [ints l, .fn g cap] (.bool (l.any p)) := by
  refine Zao tok Tryz.func206 rfl (by decide +kernel) (Nat.le_of_ble_eq_true rfl) ?_
  (repeat' first | refine Zad ?_ | (refine Zab tok (by rfl) ?_; conv => whnf) | (refine (Zbs _ _).mpr ?_; conv => whnf))
  refine .inl ⟨_, _, _, uG (QC.fc (c_IdxInt hi hg l) (show Zbo [ints l, AV.fn g cap] = true from by simp [Zbo, immD, ints, hi])), ?_⟩
  conv => whnf
  (repeat' (refine Zah ?_; conv => whnf))
  refine ⟨_, rfl, Rel.bool ?_⟩
  rw [← idxG_any]
theorem c_place (m : Zam) (f : Func) (n : Int) : FC Tryz.prog 183 [.agg (encL m f), iv n] (.bool (inn n f.regs)) := by
  refine Zao tok Tryz.func183 rfl (by decide +kernel) (Nat.le_of_ble_eq_true rfl) ?_
  (repeat' first | refine Zad ?_ | (refine Zab tok (by rfl) ?_; conv => whnf) | (refine Zah ?_; conv => whnf))
  exact ⟨_, rfl, Rel.imm rfl⟩
theorem c_lgoal (m : Zam) (f : Func) (n : Int) : FC Tryz.prog 185 [.agg (encL m f), iv n] (.bool (goalB f n)) := by
  refine Zao tok Tryz.func185 rfl (by decide +kernel) (Nat.le_of_ble_eq_true rfl) ?_
  ((repeat' first | refine Zad ?_ | (refine Zab tok (by rfl) ?_; conv => whnf) | (refine Zah ?_; conv => whnf) | (refine @And.intro (Zaa _ _ _ _) _ ?_ ?_; rotate_left; (conv => whnf); rotate_right)); all_goals (try ((guard_target = Zaa _ _ _ _); ((refine Za1 ?_; intro hgd; (conv at hgd => whnf))); (all_goals (try simp only [Zaa, kzz, kz11, kz12, maxL, Zac] at *)); all_goals omega)))
  exact ⟨_, rfl, Rel.imm rfl⟩
def landB (f : Func) (n : Int) : Bool := bif inn n f.blocks.length then (f.blocks.getD n.toNat default).landing else false
theorem c_landing (m : Zam) (f : Func) (n : Int) : FC Tryz.prog 187 [.agg (encL m f), iv n] (.bool (landB f n)) := by
  refine Zao tok Tryz.func187 rfl (by decide +kernel) (Nat.le_of_ble_eq_true rfl) ?_
  ((repeat' first | refine Zad ?_ | (refine Zab tok (by rfl) ?_; conv => whnf) | (refine Zah ?_; conv => whnf) | (refine @And.intro (Zaa _ _ _ _) _ ?_ ?_; rotate_left; (conv => whnf); rotate_right)); all_goals (try ((guard_target = Zaa _ _ _ _); ((refine Za1 ?_; intro hgd; (conv at hgd => whnf))); (all_goals (try simp only [Zaa, kzz, kz11, kz12, maxL, Zac] at *)); all_goals omega)))
  exact ⟨_, rfl, Rel.imm rfl⟩
theorem c_call1 (m : Zam) (f : Func) (k : Int) : FC Tryz.prog 207 [iv k, .ip (encL m f)] (.bool (!inn k f.regs)) := by
  refine Zao tok Tryz.func207 rfl (by decide +kernel) (Nat.le_of_ble_eq_true rfl) ?_
  (repeat' first | refine Zad ?_ | (refine Zab tok (by rfl) ?_; conv => whnf))
  refine .inl ⟨_, _, _, uG (QC.fc (c_place m f k) rfl), ?_⟩
  conv => whnf
  (repeat' (refine Zah ?_; conv => whnf))
  exact ⟨_, rfl, Rel.imm rfl⟩
theorem c_lcall (m : Zam) (f : Func) (n : Int) (l : List Int) : FC Tryz.prog 186 [.agg (encL m f), iv n, ints l] (.bool (Zeh m f n l)) := by
  refine Zao tok Tryz.func186 rfl (by decide +kernel) (Nat.le_of_ble_eq_true rfl) ?_
  ((repeat' first | refine Zad ?_ | (refine Zab tok (by rfl) ?_; conv => whnf) | (refine Zag ?_; conv => whnf) | (refine Zah ?_; conv => whnf) | refine Zaf rfl (fun hb => ?_) (fun hb => ?_) | (refine @And.intro (Zaa _ _ _ _) _ ?_ ?_; rotate_left; (conv => whnf); rotate_right)); all_goals (try ((guard_target = Zaa _ _ _ _); ((refine Za1 ?_; intro hgd; (conv at hgd => whnf))); (all_goals (try simp only [Zaa, kzz, kz11, kz12, maxL, Zac] at *)); all_goals omega)))
  · refine ⟨_, rfl, Rel.bool ?_⟩
    unfold Zeh inn
    by_cases h0 : n < 0
    · rw [decide_eq_false (show ¬ 0 ≤ n by omega)]; rfl
    · by_cases h1 : (m.funcs.length : Int) ≤ n
      · rw [decide_eq_false (show ¬ n < (m.funcs.length : Int) by omega)]; cases decide (0 ≤ n) <;> rfl
      · rw [decide_eq_false h0, decide_eq_false h1] at hb
        simp only [cond_false, Bool.not_eq_eq_eq_not, Bool.not_true] at hb
        rw [hb]; cases decide (0 ≤ n) <;> cases decide (n < (m.funcs.length : Int)) <;> rfl
  have hh := c_HasInt (g := 207) (cap := [.ip (encL m f)]) (p := fun k => !inn k f.regs) rfl (fun k => c_call1 m f k) l
  refine .inl ⟨_, _, _, uG (QC.sc (rd := [Zc2 (some 3)]) hh (.cons (.imm rfl) (.cons (.fn (.cons (.ip rfl (List.mem_singleton.2 rfl) (by decide) (Ress.imms rfl)) .nil)) .nil)) rfl), ?_⟩
  conv => whnf
  (repeat' (refine Zah ?_; conv => whnf))
  refine ⟨_, rfl, Rel.bool ?_⟩
  have h0 : ¬ n < 0 := by intro h0; rw [decide_eq_true h0] at hb; cases hb
  rw [decide_eq_false h0] at hb
  have h1 : ¬ (m.funcs.length : Int) ≤ n := by intro h1; rw [decide_eq_true h1] at hb; cases hb
  rw [decide_eq_false h1] at hb
  simp only [cond_false, Bool.not_eq_eq_eq_not, Bool.not_false] at hb
  unfold Zeh
  rw [show inn n m.funcs.length = true from (Zac _ _).2 ⟨by omega, by omega⟩, hb]
  simp only [cond_true]
  rw [List.not_any_eq_all_not]
  simp
end Go.Proofs.YtoelbgjpmpoolaaGreat
namespace Go.Proofs.YtoelbgjpmpoolaaGreat
open Go Dv
set_option maxRecDepth 10000
set_option linter.unusedSimpArgs false
theorem c_EqualI (l k : List Int) : FC Tryz.prog 208 [ints l, ints k] (.bool (decide (l = k))) := by
  refine Zao tok Tryz.func208 rfl (by decide +kernel) (Nat.le_of_ble_eq_true rfl) ?_
  refine Zap 0 (fun hl => ?_)
  have hl0 : l.length ≤ maxL := hl.1
  (repeat' first | refine Zad ?_ | (refine Zab tok (by rfl) ?_; conv => whnf) | refine Zai ?_ | (refine Zag ?_; conv => whnf) | (refine Zah ?_; conv => whnf) | refine Zaf rfl (fun hb => ?_) (fun hb => ?_))
  · refine ⟨_, rfl, Rel.bool ?_⟩
    simp only [Zaa, kzz, kz11, kz12, maxL, Zac] at *
    symm; rw [decide_eq_false_iff_not]
    intro e; rw [e] at hb; exact hb rfl
  have hlen : l.length = k.length := by simp only [Zaa, kzz, kz11, kz12, maxL, Zac] at *; omega
  refine Zau (fun i : Nat => mkS [(0, ints l), (1, ints k), (4, .bool false), (12, iv l.length), (13, iv i)] []) (fun i => i ≤ l.length ∧ ∀ j, j < i → l.getD j 0 = k.getD j 0) (fun i => l.length - i) 0 ⟨Nat.zero_le _, by simp⟩ ?_ ?_
  · refine Weak.list [] rfl (by rfl) ?_ .nil
    ((repeat' first | exact TLes.nil | refine TLes.cons (TLe.eq rfl) ?_); skip)
  rintro i ⟨hi, hc⟩
  ((repeat' first | refine Zad ?_ | (refine Zab tok (by rfl) ?_; conv => whnf) | (refine Za0 tok mix (by rfl) ?_; conv => whnf) | refine Zai ?_ | (refine Zag ?_; conv => whnf) | (refine Zav ?_; conv => whnf) | (refine Zah ?_; conv => whnf) | refine Zaf rfl (fun hb => ?_) (fun hb => ?_) | (refine @And.intro (Zaa _ _ _ _) _ ?_ ?_; rotate_left; (conv => whnf); rotate_right)); all_goals (try ((guard_target = Zaa _ _ _ _); refine Zae ?_; (all_goals (try simp only [Zaa, kzz, kz11, kz12, maxL, Zac] at *)); all_goals omega)))
  all_goals simp only [Zaa, kzz, kz11, kz12, maxL, Zac] at *
  · refine ⟨_, rfl, Rel.bool ?_⟩
    symm; rw [decide_eq_false_iff_not]
    intro e; subst e; exact hb rfl
  · refine ⟨i + 1, ⟨by omega, fun j hj => ?_⟩, by omega, ?_⟩
    · by_cases e : j = i
      · subst e; exact hb
      · exact hc j (by omega)
    refine Weak.list [] rfl (by rfl) ?_ .nil
    ((repeat' first | exact TLes.nil | refine TLes.cons (TLe.eq rfl) ?_ | refine TLes.cons (TLe.int ?_) ?_); (all_goals first | (exact Zak (by omega) (by omega)) | skip))
  · refine ⟨_, rfl, Rel.bool ?_⟩
    symm; rw [decide_eq_true_eq]
    exact Zbk 0 hlen (fun j hj => hc j (by omega))
theorem c_EqualU (l k : List Int) : FC Tryz.prog 202 [u16s l, u16s k] (.bool (decide (l = k))) := by
  refine Zao tok Tryz.func202 rfl (by decide +kernel) (Nat.le_of_ble_eq_true rfl) ?_
  refine Zap 0 (fun hl => ?_)
  have hl0 : l.length ≤ maxL := hl.1
  (repeat' first | refine Zad ?_ | (refine Zab tok (by rfl) ?_; conv => whnf) | refine Zai ?_ | (refine Zag ?_; conv => whnf) | (refine Zah ?_; conv => whnf) | refine Zaf rfl (fun hb => ?_) (fun hb => ?_))
  · refine ⟨_, rfl, Rel.bool ?_⟩
    simp only [Zaa, kzz, kz11, kz12, maxL, Zac] at *
    symm; rw [decide_eq_false_iff_not]
    intro e; rw [e] at hb; exact hb rfl
  have hlen : l.length = k.length := by simp only [Zaa, kzz, kz11, kz12, maxL, Zac] at *; omega
  refine Zau (fun i : Nat => mkS [(0, u16s l), (1, u16s k), (4, .bool false), (12, iv l.length), (13, iv i)] []) (fun i => i ≤ l.length ∧ ∀ j, j < i → l.getD j 0 = k.getD j 0) (fun i => l.length - i) 0 ⟨Nat.zero_le _, by simp⟩ ?_ ?_
  · refine Weak.list [] rfl (by rfl) ?_ .nil
    ((repeat' first | exact TLes.nil | refine TLes.cons (TLe.eq rfl) ?_); skip)
  rintro i ⟨hi, hc⟩
  ((repeat' first | refine Zad ?_ | (refine Zab tok (by rfl) ?_; conv => whnf) | (refine Za0 tok mix (by rfl) ?_; conv => whnf) | refine Zai ?_ | (refine Zag ?_; conv => whnf) | (refine Zav ?_; conv => whnf) | (refine Zah ?_; conv => whnf) | refine Zaf rfl (fun hb => ?_) (fun hb => ?_) | (refine @And.intro (Zaa _ _ _ _) _ ?_ ?_; rotate_left; (conv => whnf); rotate_right)); all_goals (try ((guard_target = Zaa _ _ _ _); refine Zae ?_; (all_goals (try simp only [Zaa, kzz, kz11, kz12, maxL, Zac] at *)); all_goals omega)))
  all_goals simp only [Zaa, kzz, kz11, kz12, maxL, Zac] at *
  · refine ⟨_, rfl, Rel.bool ?_⟩
    symm; rw [decide_eq_false_iff_not]
    intro e; subst e; exact hb rfl
  · refine ⟨i + 1, ⟨by omega, fun j hj => ?_⟩, by omega, ?_⟩
    · by_cases e : j = i
      · subst e; exact hb
      · exact hc j (by omega)
    refine Weak.list [] rfl (by rfl) ?_ .nil
    ((repeat' first | exact TLes.nil | refine TLes.cons (TLe.eq rfl) ?_ | refine TLes.cons (TLe.int ?_) ?_); (all_goals first | (exact Zak (by omega) (by omega)) | skip))
  · refine ⟨_, rfl, Rel.bool ?_⟩
    symm; rw [decide_eq_true_eq]
    exact Zbk 0 hlen (fun j hj => hc j (by omega))
theorem c_sameIns (x y : Ins) : FC Tryz.prog 189 [.agg (Zbc x), .agg (Zbc y)] (.bool (decide (x = y))) := by
  refine Zao tok Tryz.func189 rfl (by decide +kernel) (Nat.le_of_ble_eq_true rfl) ?_
  (repeat' first | refine Zad ?_ | (refine Zab tok (by rfl) ?_; conv => whnf))
  refine .inl ⟨_, _, _, uG (QC.fc (c_EqualI x.args y.args) rfl), ?_⟩
  conv => whnf
  (repeat' (refine Zah ?_; conv => whnf))
  refine ⟨_, rfl, Rel.bool ?_⟩
  obtain ⟨a1, a2, a3, a4, a5, a6, a7⟩ := x
  obtain ⟨b1, b2, b3, b4, b5, b6, b7⟩ := y
  rw [Bool.eq_iff_iff]
  simp [and_assoc]
theorem c_sameEnd (x y : End) : FC Tryz.prog 188 [.agg (Zdi x), .agg (Zdi y)] (.bool (decide (x = y))) := by
  refine Zao tok Tryz.func188 rfl (by decide +kernel) (Nat.le_of_ble_eq_true rfl) ?_
  (repeat' first | refine Zad ?_ | (refine Zab tok (by rfl) ?_; conv => whnf))
  refine .inl ⟨_, _, _, uG (QC.fc (c_EqualI x.args y.args) rfl), ?_⟩
  conv => whnf
  (repeat' (refine Zah ?_; conv => whnf))
  refine ⟨_, rfl, Rel.bool ?_⟩
  obtain ⟨a1, a2, a3, a4, a5, a6, a7, a8⟩ := x
  obtain ⟨b1, b2, b3, b4, b5, b6, b7, b8⟩ := y
  rw [Bool.eq_iff_iff]
  simp [and_assoc]
theorem c_samePad (x y : Pad) : FC Tryz.prog 180 [.agg (Zcy x), .agg (Zcy y)] (.bool (decide (x = y))) := by
  refine Zao tok Tryz.func180 rfl (by decide +kernel) (Nat.le_of_ble_eq_true rfl) ?_
  (repeat' first | refine Zad ?_ | (refine Zab tok (by rfl) ?_; conv => whnf))
  refine .inl ⟨_, _, _, uG (QC.fc (c_EqualU x.catch_ y.catch_) rfl), ?_⟩
  conv => whnf
  (repeat' (refine Zah ?_; conv => whnf))
  refine ⟨_, rfl, Rel.bool ?_⟩
  obtain ⟨a1, a2, a3, a4⟩ := x
  obtain ⟨b1, b2, b3, b4⟩ := y
  rw [Bool.eq_iff_iff]
  simp [and_assoc]
end Go.Proofs.YtoelbgjpmpoolaaGreat
namespace Go.Proofs.YtoelbgjpmpoolaaGreat
open Go Dv
set_option maxRecDepth 10000
set_option linter.unusedSimpArgs false
theorem ins_eq (u x : Ins) : u = x ↔ x.op = u.op ∧ x.dst = u.dst ∧ x.a = u.a ∧ x.b = u.b ∧ x.k = u.k ∧ x.f = u.f ∧ x.args = u.args := by
  rw [eq_comm (a := u)]; cases u; cases x; simp
set_option maxHeartbeats 4000000 in
theorem c_lins (m : Zam) (f : Func) (x : Ins) : FC Tryz.prog 141 [.agg (encL m f), .agg (Zbc x)] (.bool (decide (InsP m f x))) := by
  refine Zao tok Tryz.func141 rfl (by decide +kernel) (Nat.le_of_ble_eq_true rfl) ?_
  (repeat' ((fail_if_success (show AWp _ _ _ (Code.region 3 _ _) _ _)); first | refine Zad ?_ | (refine Zab tok (by rfl) ?_; conv => whnf)))
  refine Zab tok (by rfl) ?_
  conv => whnf
  refine Zdx (fun q : Ins × Bool => mkS [(2, .bp (2, 0, 0) 0), (3, .bp (3, 0, 0) 0), (4, .bool false), (5, .bp (5, 0, 0) 0), (6, .bool q.2)] [((2, 0, 0), Zal (encL m f)), ((3, 0, 0), Zal (Zbc x)), ((5, 0, 0), .row true 7 1 (fun _ => Zbc q.1))]) (fun q => (q.2 && decide (q.1 = x)) = decide (InsP m f x)) ?_ ?_
  · (repeat' first | refine Zad ?_ | (refine Zab tok (by rfl) ?_; conv => whnf) | (refine Za0 tok mix (by rfl) ?_; conv => whnf) | refine Zai ?_ | (refine Zag ?_; conv => whnf) | (refine Zah ?_; conv => whnf) | refine Zaf rfl (fun hb => ?_) (fun hb => ?_))
    all_goals (try (exfalso; simp only [decide_eq_true_eq, decide_eq_false_iff_not] at *; omega))
    all_goals (repeat' first | (refine .inl ⟨_, _, _, uG (QC.fc (c_place m f x.dst) rfl), ?_⟩; conv => whnf) | (refine .inl ⟨_, _, _, uG (QC.fc (c_place m f x.a) rfl), ?_⟩; conv => whnf) | (refine .inl ⟨_, _, _, uG (QC.fc (c_place m f x.b) rfl), ?_⟩; conv => whnf) | (refine .inl ⟨_, _, _, uG (QC.fc (c_lcall m f x.f x.args) rfl), ?_⟩; conv => whnf))
    skip
    all_goals (have hop := hb; simp only [decide_eq_true_eq, decide_eq_false_iff_not] at hop)
    all_goals (try (first | (refine ⟨(⟨x.op, x.dst, 0, 0, x.k, 0, []⟩, inn x.dst f.regs), ?hp, Weak.list [((2, 0, 0), .old (2, 0, 0), Zal (encL m f)), ((3, 0, 0), .old (3, 0, 0), Zal (Zbc x)), ((5, 0, 0), .old (5, 0, 0), .row true 7 1 (fun _ => Zbc ⟨x.op, x.dst, 0, 0, x.k, 0, []⟩))] rfl (by rfl) (.cons (.eq rfl) (.cons (.eq rfl) (.cons (.eq rfl) (.cons (.eq rfl) (.cons (.eq rfl) .nil))))) (.old rfl (BLe.refl _) (.old rfl (BLe.refl _) (.old rfl (BLe.rowW (Nat.le_refl _) (fun z hz => ?row)) .nil)))⟩; (case row => (match z, hz with | 0, _ => (repeat' ((conv => arg 1; whnf); (conv => arg 2; whnf); first | refine Wks.cons .refl ?_ | refine Wks.cons (.nsl rfl) ?_ | exact Wks.nil)))); (case hp => (rw [Bool.eq_iff_iff]; simp [InsP, ins_eq, hop, and_assoc, and_comm, and_left_comm]; done))) | (refine ⟨(⟨x.op, x.dst, x.a, 0, 0, 0, []⟩, bif inn x.dst f.regs then inn x.a f.regs else false), ?hp, Weak.list [((2, 0, 0), .old (2, 0, 0), Zal (encL m f)), ((3, 0, 0), .old (3, 0, 0), Zal (Zbc x)), ((5, 0, 0), .old (5, 0, 0), .row true 7 1 (fun _ => Zbc ⟨x.op, x.dst, x.a, 0, 0, 0, []⟩))] rfl (by rfl) (.cons (.eq rfl) (.cons (.eq rfl) (.cons (.eq rfl) (.cons (.eq rfl) (.cons (.eq rfl) .nil))))) (.old rfl (BLe.refl _) (.old rfl (BLe.refl _) (.old rfl (BLe.rowW (Nat.le_refl _) (fun z hz => ?row)) .nil)))⟩; (case row => (match z, hz with | 0, _ => (repeat' ((conv => arg 1; whnf); (conv => arg 2; whnf); first | refine Wks.cons .refl ?_ | refine Wks.cons (.nsl rfl) ?_ | exact Wks.nil)))); (case hp => (rw [Bool.eq_iff_iff]; simp [InsP, ins_eq, hop, and_assoc, and_comm, and_left_comm]; done))) | (refine ⟨(⟨x.op, x.dst, x.a, x.b, 0, 0, []⟩, bif bif inn x.dst f.regs then inn x.a f.regs else false then inn x.b f.regs else false), ?hp, Weak.list [((2, 0, 0), .old (2, 0, 0), Zal (encL m f)), ((3, 0, 0), .old (3, 0, 0), Zal (Zbc x)), ((5, 0, 0), .old (5, 0, 0), .row true 7 1 (fun _ => Zbc ⟨x.op, x.dst, x.a, x.b, 0, 0, []⟩))] rfl (by rfl) (.cons (.eq rfl) (.cons (.eq rfl) (.cons (.eq rfl) (.cons (.eq rfl) (.cons (.eq rfl) .nil))))) (.old rfl (BLe.refl _) (.old rfl (BLe.refl _) (.old rfl (BLe.rowW (Nat.le_refl _) (fun z hz => ?row)) .nil)))⟩; (case row => (match z, hz with | 0, _ => (repeat' ((conv => arg 1; whnf); (conv => arg 2; whnf); first | refine Wks.cons .refl ?_ | refine Wks.cons (.nsl rfl) ?_ | exact Wks.nil)))); (case hp => (rw [Bool.eq_iff_iff]; simp [InsP, ins_eq, hop, and_assoc, and_comm, and_left_comm]; done))) | (refine ⟨(⟨x.op, 0, x.a, x.b, 0, 0, []⟩, bif inn x.a f.regs then inn x.b f.regs else false), ?hp, Weak.list [((2, 0, 0), .old (2, 0, 0), Zal (encL m f)), ((3, 0, 0), .old (3, 0, 0), Zal (Zbc x)), ((5, 0, 0), .old (5, 0, 0), .row true 7 1 (fun _ => Zbc ⟨x.op, 0, x.a, x.b, 0, 0, []⟩))] rfl (by rfl) (.cons (.eq rfl) (.cons (.eq rfl) (.cons (.eq rfl) (.cons (.eq rfl) (.cons (.eq rfl) .nil))))) (.old rfl (BLe.refl _) (.old rfl (BLe.refl _) (.old rfl (BLe.rowW (Nat.le_refl _) (fun z hz => ?row)) .nil)))⟩; (case row => (match z, hz with | 0, _ => (repeat' ((conv => arg 1; whnf); (conv => arg 2; whnf); first | refine Wks.cons .refl ?_ | refine Wks.cons (.nsl rfl) ?_ | exact Wks.nil)))); (case hp => (rw [Bool.eq_iff_iff]; simp [InsP, ins_eq, hop, and_assoc, and_comm, and_left_comm]; done))) | (refine ⟨(⟨x.op, x.dst, 0, 0, 0, x.f, x.args⟩, bif inn x.dst f.regs then Zeh m f x.f x.args else false), ?hp, Weak.list [((2, 0, 0), .old (2, 0, 0), Zal (encL m f)), ((3, 0, 0), .old (3, 0, 0), Zal (Zbc x)), ((5, 0, 0), .old (5, 0, 0), .row true 7 1 (fun _ => Zbc ⟨x.op, x.dst, 0, 0, 0, x.f, x.args⟩))] rfl (by rfl) (.cons (.eq rfl) (.cons (.eq rfl) (.cons (.eq rfl) (.cons (.eq rfl) (.cons (.eq rfl) .nil))))) (.old rfl (BLe.refl _) (.old rfl (BLe.refl _) (.old rfl (BLe.rowW (Nat.le_refl _) (fun z hz => ?row)) .nil)))⟩; (case row => (match z, hz with | 0, _ => (repeat' ((conv => arg 1; whnf); (conv => arg 2; whnf); first | refine Wks.cons .refl ?_ | exact Wks.nil)))); (case hp => (rw [Bool.eq_iff_iff]; simp [InsP, ins_eq, hop, and_assoc, and_comm, and_left_comm]; done))) | (refine ⟨(⟨x.op, 0, x.a, 0, 0, 0, []⟩, inn x.a f.regs), ?hp, Weak.list [((2, 0, 0), .old (2, 0, 0), Zal (encL m f)), ((3, 0, 0), .old (3, 0, 0), Zal (Zbc x)), ((5, 0, 0), .old (5, 0, 0), .row true 7 1 (fun _ => Zbc ⟨x.op, 0, x.a, 0, 0, 0, []⟩))] rfl (by rfl) (.cons (.eq rfl) (.cons (.eq rfl) (.cons (.eq rfl) (.cons (.eq rfl) (.cons (.eq rfl) .nil))))) (.old rfl (BLe.refl _) (.old rfl (BLe.refl _) (.old rfl (BLe.rowW (Nat.le_refl _) (fun z hz => ?row)) .nil)))⟩; (case row => (match z, hz with | 0, _ => (repeat' ((conv => arg 1; whnf); (conv => arg 2; whnf); first | refine Wks.cons .refl ?_ | refine Wks.cons (.nsl rfl) ?_ | exact Wks.nil)))); (case hp => (rw [Bool.eq_iff_iff]; simp [InsP, ins_eq, hop, and_assoc, and_comm, and_left_comm]; done))) | (refine ⟨(⟨x.op, x.dst, 0, 0, 0, 0, []⟩, inn x.dst f.regs), ?hp, Weak.list [((2, 0, 0), .old (2, 0, 0), Zal (encL m f)), ((3, 0, 0), .old (3, 0, 0), Zal (Zbc x)), ((5, 0, 0), .old (5, 0, 0), .row true 7 1 (fun _ => Zbc ⟨x.op, x.dst, 0, 0, 0, 0, []⟩))] rfl (by rfl) (.cons (.eq rfl) (.cons (.eq rfl) (.cons (.eq rfl) (.cons (.eq rfl) (.cons (.eq rfl) .nil))))) (.old rfl (BLe.refl _) (.old rfl (BLe.refl _) (.old rfl (BLe.rowW (Nat.le_refl _) (fun z hz => ?row)) .nil)))⟩; (case row => (match z, hz with | 0, _ => (repeat' ((conv => arg 1; whnf); (conv => arg 2; whnf); first | refine Wks.cons .refl ?_ | refine Wks.cons (.nsl rfl) ?_ | exact Wks.nil)))); (case hp => (rw [Bool.eq_iff_iff]; simp [InsP, ins_eq, hop, and_assoc, and_comm, and_left_comm]; done)))))
    refine ⟨_, rfl, Rel.bool ?_⟩
    simp only [decide_eq_true_eq, decide_eq_false_iff_not] at *
    symm; rw [decide_eq_false_iff_not]
    rintro (h | h | h | h | h | h | h) <;> omega
  rintro q hq τ hτ
  refine Zay hτ ?_
  conv => whnf
  (repeat' first | refine Zad ?_ | (refine Zab tok (by rfl) ?_; conv => whnf))
  refine .inl ⟨_, _, _, uG (QC.fc (c_sameIns q.1 x) rfl), ?_⟩
  conv => whnf
  (repeat' (refine Zah ?_; conv => whnf))
  refine ⟨_, rfl, Rel.bool ?_⟩
  rw [← hq]
  cases q.2 <;> rfl
end Go.Proofs.YtoelbgjpmpoolaaGreat
namespace Go.Proofs.YtoelbgjpmpoolaaGreat
open Go Dv
set_option maxRecDepth 10000
set_option linter.unusedSimpArgs false
theorem end_eq (u x : End) : u = x ↔ x.kind = u.kind ∧ x.a = u.a ∧ x.dst = u.dst ∧ x.f = u.f ∧ x.args = u.args ∧ x.to = u.to ∧ x.els = u.els ∧ x.pad = u.pad := by
  rw [eq_comm (a := u)]; cases u; cases x; simp
set_option maxHeartbeats 4000000 in
theorem c_lend (m : Zam) (f : Func) (x : End) : FC Tryz.prog 139 [.agg (encL m f), .agg (Zdi x)] (.bool (decide (EndP m f x))) := by
  refine Zao tok Tryz.func139 rfl (by decide +kernel) (Nat.le_of_ble_eq_true rfl) ?_
  (repeat' ((fail_if_success (show AWp _ _ _ (Code.region 3 _ _) _ _)); first | refine Zad ?_ | (refine Zab tok (by rfl) ?_; conv => whnf)))
  refine Zab tok (by rfl) ?_
  conv => whnf
  refine Zdx (fun q : End × Bool => mkS [(2, .bp (2, 0, 0) 0), (3, .bp (3, 0, 0) 0), (4, .bool false), (5, .bp (5, 0, 0) 0), (6, .bool q.2)] [((2, 0, 0), Zal (encL m f)), ((3, 0, 0), Zal (Zdi x)), ((5, 0, 0), .row true 8 1 (fun _ => Zdi q.1))]) (fun q => (q.2 && decide (q.1 = x)) = decide (EndP m f x)) ?_ ?_
  · (repeat' first | refine Zad ?_ | (refine Zab tok (by rfl) ?_; conv => whnf) | (refine Za0 tok mix (by rfl) ?_; conv => whnf) | refine Zai ?_ | (refine Zag ?_; conv => whnf) | (refine Zah ?_; conv => whnf) | refine Zaf rfl (fun hb => ?_) (fun hb => ?_))
    all_goals (try (exfalso; simp only [decide_eq_true_eq, decide_eq_false_iff_not] at *; omega))
    all_goals (repeat' first | (refine .inl ⟨_, _, _, uG (QC.fc (c_place m f x.dst) rfl), ?_⟩; conv => whnf) | (refine .inl ⟨_, _, _, uG (QC.fc (c_place m f x.a) rfl), ?_⟩; conv => whnf) | (refine .inl ⟨_, _, _, uG (QC.fc (c_lgoal m f x.to) rfl), ?_⟩; conv => whnf) | (refine .inl ⟨_, _, _, uG (QC.fc (c_lgoal m f x.els) rfl), ?_⟩; conv => whnf) | (refine .inl ⟨_, _, _, uG (QC.fc (c_landing m f x.pad) rfl), ?_⟩; conv => whnf) | (refine .inl ⟨_, _, _, uG (QC.fc (c_lcall m f x.f x.args) rfl), ?_⟩; conv => whnf))
    skip
    all_goals (have hop := hb; simp only [decide_eq_true_eq, decide_eq_false_iff_not] at hop)
    all_goals (try (first | (refine ⟨(⟨x.kind, x.a, 0, 0, [], 0, 0, 0⟩, inn x.a f.regs), ?hp, Weak.list [((2, 0, 0), .old (2, 0, 0), Zal (encL m f)), ((3, 0, 0), .old (3, 0, 0), Zal (Zdi x)), ((5, 0, 0), .old (5, 0, 0), .row true 8 1 (fun _ => Zdi ⟨x.kind, x.a, 0, 0, [], 0, 0, 0⟩))] rfl (by rfl) (.cons (.eq rfl) (.cons (.eq rfl) (.cons (.eq rfl) (.cons (.eq rfl) (.cons (.eq rfl) .nil))))) (.old rfl (BLe.refl _) (.old rfl (BLe.refl _) (.old rfl (BLe.rowW (Nat.le_refl _) (fun z hz => ?row)) .nil)))⟩; (case row => (match z, hz with | 0, _ => (repeat' ((conv => arg 1; whnf); (conv => arg 2; whnf); first | refine Wks.cons .refl ?_ | refine Wks.cons (.nsl rfl) ?_ | exact Wks.nil)))); (case hp => (rw [Bool.eq_iff_iff]; simp [EndP, end_eq, hop, landB, and_assoc, and_comm, and_left_comm]; done))) | (refine ⟨(⟨x.kind, 0, 0, 0, [], x.to, 0, 0⟩, goalB f x.to), ?hp, Weak.list [((2, 0, 0), .old (2, 0, 0), Zal (encL m f)), ((3, 0, 0), .old (3, 0, 0), Zal (Zdi x)), ((5, 0, 0), .old (5, 0, 0), .row true 8 1 (fun _ => Zdi ⟨x.kind, 0, 0, 0, [], x.to, 0, 0⟩))] rfl (by rfl) (.cons (.eq rfl) (.cons (.eq rfl) (.cons (.eq rfl) (.cons (.eq rfl) (.cons (.eq rfl) .nil))))) (.old rfl (BLe.refl _) (.old rfl (BLe.refl _) (.old rfl (BLe.rowW (Nat.le_refl _) (fun z hz => ?row)) .nil)))⟩; (case row => (match z, hz with | 0, _ => (repeat' ((conv => arg 1; whnf); (conv => arg 2; whnf); first | refine Wks.cons .refl ?_ | refine Wks.cons (.nsl rfl) ?_ | exact Wks.nil)))); (case hp => (rw [Bool.eq_iff_iff]; simp [EndP, end_eq, hop, landB, and_assoc, and_comm, and_left_comm]; done))) | (refine ⟨(⟨x.kind, x.a, 0, 0, [], x.to, x.els, 0⟩, bif bif inn x.a f.regs then goalB f x.to else false then goalB f x.els else false), ?hp, Weak.list [((2, 0, 0), .old (2, 0, 0), Zal (encL m f)), ((3, 0, 0), .old (3, 0, 0), Zal (Zdi x)), ((5, 0, 0), .old (5, 0, 0), .row true 8 1 (fun _ => Zdi ⟨x.kind, x.a, 0, 0, [], x.to, x.els, 0⟩))] rfl (by rfl) (.cons (.eq rfl) (.cons (.eq rfl) (.cons (.eq rfl) (.cons (.eq rfl) (.cons (.eq rfl) .nil))))) (.old rfl (BLe.refl _) (.old rfl (BLe.refl _) (.old rfl (BLe.rowW (Nat.le_refl _) (fun z hz => ?row)) .nil)))⟩; (case row => (match z, hz with | 0, _ => (repeat' ((conv => arg 1; whnf); (conv => arg 2; whnf); first | refine Wks.cons .refl ?_ | refine Wks.cons (.nsl rfl) ?_ | exact Wks.nil)))); (case hp => (rw [Bool.eq_iff_iff]; simp [EndP, end_eq, hop, landB, and_assoc, and_comm, and_left_comm]; done))) | (refine ⟨(⟨x.kind, 0, x.dst, x.f, x.args, x.to, 0, x.pad⟩, bif bif bif inn x.dst f.regs then Zeh m f x.f x.args else false then goalB f x.to else false then landB f x.pad else false), ?hp, Weak.list [((2, 0, 0), .old (2, 0, 0), Zal (encL m f)), ((3, 0, 0), .old (3, 0, 0), Zal (Zdi x)), ((5, 0, 0), .old (5, 0, 0), .row true 8 1 (fun _ => Zdi ⟨x.kind, 0, x.dst, x.f, x.args, x.to, 0, x.pad⟩))] rfl (by rfl) (.cons (.eq rfl) (.cons (.eq rfl) (.cons (.eq rfl) (.cons (.eq rfl) (.cons (.eq rfl) .nil))))) (.old rfl (BLe.refl _) (.old rfl (BLe.refl _) (.old rfl (BLe.rowW (Nat.le_refl _) (fun z hz => ?row)) .nil)))⟩; (case row => (match z, hz with | 0, _ => (repeat' ((conv => arg 1; whnf); (conv => arg 2; whnf); first | refine Wks.cons .refl ?_ | exact Wks.nil)))); (case hp => (rw [Bool.eq_iff_iff]; simp [EndP, end_eq, hop, landB, and_assoc, and_comm, and_left_comm]; done))) | (refine ⟨(⟨x.kind, 0, 0, 0, [], 0, 0, 0⟩, true), ?hp, Weak.list [((2, 0, 0), .old (2, 0, 0), Zal (encL m f)), ((3, 0, 0), .old (3, 0, 0), Zal (Zdi x)), ((5, 0, 0), .old (5, 0, 0), .row true 8 1 (fun _ => Zdi ⟨x.kind, 0, 0, 0, [], 0, 0, 0⟩))] rfl (by rfl) (.cons (.eq rfl) (.cons (.eq rfl) (.cons (.eq rfl) (.cons (.eq rfl) (.cons (.eq rfl) .nil))))) (.old rfl (BLe.refl _) (.old rfl (BLe.refl _) (.old rfl (BLe.rowW (Nat.le_refl _) (fun z hz => ?row)) .nil)))⟩; (case row => (match z, hz with | 0, _ => (repeat' ((conv => arg 1; whnf); (conv => arg 2; whnf); first | refine Wks.cons .refl ?_ | refine Wks.cons (.nsl rfl) ?_ | exact Wks.nil)))); (case hp => (rw [Bool.eq_iff_iff]; simp [EndP, end_eq, hop, landB, and_assoc, and_comm, and_left_comm]; done)))))
    refine ⟨_, rfl, Rel.bool ?_⟩
    simp only [decide_eq_true_eq, decide_eq_false_iff_not] at *
    symm; rw [decide_eq_false_iff_not]
    rintro (h | h | h | h | h) <;> omega
  rintro q hq τ hτ
  refine Zay hτ ?_
  conv => whnf
  (repeat' first | refine Zad ?_ | (refine Zab tok (by rfl) ?_; conv => whnf))
  refine .inl ⟨_, _, _, uG (QC.fc (c_sameEnd q.1 x) rfl), ?_⟩
  conv => whnf
  (repeat' (refine Zah ?_; conv => whnf))
  refine ⟨_, rfl, Rel.bool ?_⟩
  rw [← hq]
  cases q.2 <;> rfl
end Go.Proofs.YtoelbgjpmpoolaaGreat
namespace Go.Proofs.YtoelbgjpmpoolaaGreat
open Go Dv
set_option maxRecDepth 10000
set_option linter.unusedSimpArgs false
theorem c_IdxInsM {g : FuncId} {cap : List AV} {p : Ins → Bool} (hi : Zbo cap = true) (l : List Ins) (hg : ∀ i, i < l.length → FC Tryz.prog g (.agg (Zbc (l.getD i default)) :: cap) (.bool (p (l.getD i default)))) : FC Tryz.prog 147 [inss l, .fn g cap] (iv (idxG p l)) := by
  refine Zao tok Tryz.func147 rfl (by decide +kernel) (Nat.le_of_ble_eq_true rfl) ?_
  refine Zap 0 (fun hl => ?_)
  have hl0 : l.length ≤ maxL := hl.1
  (repeat' first | refine Zad ?_ | (refine Zab tok (by rfl) ?_; conv => whnf) | refine Zai ?_)
  refine Zau (fun i : Nat => mkS [(0, inss l), (1, .fn g cap), (7, iv l.length), (8, iv i)] [])
    (fun i => i ≤ l.length ∧ ∀ j, j < i → p (l.getD j default) = false) (fun i => l.length - i) 0 ⟨Nat.zero_le _, by simp⟩ ?_ ?_
  · refine Weak.list [] rfl (by rfl) ?_ .nil
    ((repeat' first | exact TLes.nil | refine TLes.cons (TLe.eq rfl) ?_ | refine TLes.cons (TLe.fn (by assumption)) ?_); skip)
  rintro i ⟨hi2, hc⟩
  ((repeat' first | refine Zad ?_ | (refine Zab tok (by rfl) ?_; conv => whnf) | refine Zai ?_ | (refine Zag ?_; conv => whnf) | (refine Zav ?_; conv => whnf) | (refine Zah ?_; conv => whnf) | (refine (Zbs _ _).mpr ?_; conv => whnf) | refine Zaf rfl (fun hb => ?_) (fun hb => ?_) | (refine @And.intro (Zaa _ _ _ _) _ ?_ ?_; rotate_left; (conv => whnf); rotate_right)); all_goals (try ((guard_target = Zaa _ _ _ _); refine Zae ?_; (all_goals (try simp only [Zaa, kzz, kz11, kz12, maxL, Zac] at *)); all_goals omega)))
  · have hlt : i < l.length := by simp only [Zaa, kzz, kz11, kz12, maxL, Zac] at *; omega
    refine .inl ⟨_, _, _, uG (QC.fc (hg (i : Int).toNat hlt) (Zfc (xs := [.agg (Zbc (l.getD (i : Int).toNat default))]) rfl hi)), ?_⟩
    conv => whnf
    (repeat' first | refine Zad ?_ | (refine Zab tok (by rfl) ?_; conv => whnf) | (refine Zag ?_; conv => whnf) | (refine Zah ?_; conv => whnf) | refine Zaf rfl (fun hb => ?_) (fun hb => ?_))
    · refine ⟨_, rfl, Rel.int ?_⟩
      exact (idxG_at default hlt hc (by simpa using hb)).symm
    · refine ⟨i + 1, ⟨hlt, fun j hj => ?_⟩, by omega, ?_⟩
      · by_cases e : j = i
        · subst e; simpa using hb
        · exact hc j (by omega)
      refine Weak.list [] rfl (by rfl) ?_ .nil
      ((repeat' first | exact TLes.nil | refine TLes.cons (TLe.eq rfl) ?_ | refine TLes.cons (TLe.int ?_) ?_ | refine TLes.cons (TLe.fn (by assumption)) ?_); (all_goals first | ((try (simp only [Zaa, kzz, kz11, kz12, maxL, Zac] at *)); exact Zak (by omega) (by omega)) | skip))
  · refine ⟨_, rfl, Rel.int ?_⟩
    exact (idxG_none default (fun j hj => hc j (by simp only [Zaa, kzz, kz11, kz12, maxL, Zac] at *; omega))).symm
theorem c_HasInsM {g : FuncId} {cap : List AV} {p : Ins → Bool} (hi : Zbo cap = true) (l : List Ins) (hg : ∀ i, i < l.length → FC Tryz.prog g (.agg (Zbc (l.getD i default)) :: cap) (.bool (p (l.getD i default)))) : FC Tryz.prog 100 [inss l, .fn g cap] (.bool (l.any p)) := by
  refine Zao tok Tryz.func100 rfl (by decide +kernel) (Nat.le_of_ble_eq_true rfl) ?_
  (repeat' first | refine Zad ?_ | (refine Zab tok (by rfl) ?_; conv => whnf) | (refine (Zbs _ _).mpr ?_; conv => whnf))
  refine .inl ⟨_, _, _, uG (QC.fc (c_IdxInsM hi l hg) (show Zbo [inss l, AV.fn g cap] = true from by simp [Zbo, immD, inss, hi])), ?_⟩
  conv => whnf
  (repeat' (refine Zah ?_; conv => whnf))
  refine ⟨_, rfl, Rel.bool ?_⟩
  rw [← idxG_any]
theorem c_IdxBlockM {g : FuncId} {cap : List AV} {p : Zbe → Bool} (hi : Zbo cap = true) (l : List Zbe) (hg : ∀ i, i < l.length → FC Tryz.prog g (.agg (Za5 (l.getD i default)) :: cap) (.bool (p (l.getD i default)))) : FC Tryz.prog 146 [Zbt l, .fn g cap] (iv (idxG p l)) := by
  refine Zao tok Tryz.func146 rfl (by decide +kernel) (Nat.le_of_ble_eq_true rfl) ?_
  refine Zap 0 (fun hl => ?_)
  have hl0 : l.length ≤ maxL := hl.1
  (repeat' first | refine Zad ?_ | (refine Zab tok (by rfl) ?_; conv => whnf) | refine Zai ?_)
  refine Zau (fun i : Nat => mkS [(0, Zbt l), (1, .fn g cap), (7, iv l.length), (8, iv i)] [])
    (fun i => i ≤ l.length ∧ ∀ j, j < i → p (l.getD j default) = false) (fun i => l.length - i) 0 ⟨Nat.zero_le _, by simp⟩ ?_ ?_
  · refine Weak.list [] rfl (by rfl) ?_ .nil
    ((repeat' first | exact TLes.nil | refine TLes.cons (TLe.eq rfl) ?_ | refine TLes.cons (TLe.fn (by assumption)) ?_); skip)
  rintro i ⟨hi2, hc⟩
  ((repeat' first | refine Zad ?_ | (refine Zab tok (by rfl) ?_; conv => whnf) | refine Zai ?_ | (refine Zag ?_; conv => whnf) | (refine Zav ?_; conv => whnf) | (refine Zah ?_; conv => whnf) | (refine (Zbs _ _).mpr ?_; conv => whnf) | refine Zaf rfl (fun hb => ?_) (fun hb => ?_) | (refine @And.intro (Zaa _ _ _ _) _ ?_ ?_; rotate_left; (conv => whnf); rotate_right)); all_goals (try ((guard_target = Zaa _ _ _ _); refine Zae ?_; (all_goals (try simp only [Zaa, kzz, kz11, kz12, maxL, Zac] at *)); all_goals omega)))
  · have hlt : i < l.length := by simp only [Zaa, kzz, kz11, kz12, maxL, Zac] at *; omega
    refine .inl ⟨_, _, _, uG (QC.fc (hg (i : Int).toNat hlt) (Zfc (xs := [.agg (Za5 (l.getD (i : Int).toNat default))]) rfl hi)), ?_⟩
    conv => whnf
    (repeat' first | refine Zad ?_ | (refine Zab tok (by rfl) ?_; conv => whnf) | (refine Zag ?_; conv => whnf) | (refine Zah ?_; conv => whnf) | refine Zaf rfl (fun hb => ?_) (fun hb => ?_))
    · refine ⟨_, rfl, Rel.int ?_⟩
      exact (idxG_at default hlt hc (by simpa using hb)).symm
    · refine ⟨i + 1, ⟨hlt, fun j hj => ?_⟩, by omega, ?_⟩
      · by_cases e : j = i
        · subst e; simpa using hb
        · exact hc j (by omega)
      refine Weak.list [] rfl (by rfl) ?_ .nil
      ((repeat' first | exact TLes.nil | refine TLes.cons (TLe.eq rfl) ?_ | refine TLes.cons (TLe.int ?_) ?_ | refine TLes.cons (TLe.fn (by assumption)) ?_); (all_goals first | ((try (simp only [Zaa, kzz, kz11, kz12, maxL, Zac] at *)); exact Zak (by omega) (by omega)) | skip))
  · refine ⟨_, rfl, Rel.int ?_⟩
    exact (idxG_none default (fun j hj => hc j (by simp only [Zaa, kzz, kz11, kz12, maxL, Zac] at *; omega))).symm
theorem c_HasBlockM {g : FuncId} {cap : List AV} {p : Zbe → Bool} (hi : Zbo cap = true) (l : List Zbe) (hg : ∀ i, i < l.length → FC Tryz.prog g (.agg (Za5 (l.getD i default)) :: cap) (.bool (p (l.getD i default)))) : FC Tryz.prog 98 [Zbt l, .fn g cap] (.bool (l.any p)) := by
  refine Zao tok Tryz.func98 rfl (by decide +kernel) (Nat.le_of_ble_eq_true rfl) ?_
  (repeat' first | refine Zad ?_ | (refine Zab tok (by rfl) ?_; conv => whnf) | (refine (Zbs _ _).mpr ?_; conv => whnf))
  refine .inl ⟨_, _, _, uG (QC.fc (c_IdxBlockM hi l hg) (show Zbo [Zbt l, AV.fn g cap] = true from by simp [Zbo, immD, Zbt, hi])), ?_⟩
  conv => whnf
  (repeat' (refine Zah ?_; conv => whnf))
  refine ⟨_, rfl, Rel.bool ?_⟩
  rw [← idxG_any]
theorem c_IdxFuncM {g : FuncId} {cap : List AV} {p : Func → Bool} (hi : Zbo cap = true) (l : List Func) (hg : ∀ i, i < l.length → FC Tryz.prog g (.agg (Za3 (l.getD i default)) :: cap) (.bool (p (l.getD i default)))) : FC Tryz.prog 90 [funcss l, .fn g cap] (iv (idxG p l)) := by
  refine Zao tok Tryz.func90 rfl (by decide +kernel) (Nat.le_of_ble_eq_true rfl) ?_
  refine Zap 0 (fun hl => ?_)
  have hl0 : l.length ≤ maxL := hl.1
  (repeat' first | refine Zad ?_ | (refine Zab tok (by rfl) ?_; conv => whnf) | refine Zai ?_)
  refine Zau (fun i : Nat => mkS [(0, funcss l), (1, .fn g cap), (7, iv l.length), (8, iv i)] [])
    (fun i => i ≤ l.length ∧ ∀ j, j < i → p (l.getD j default) = false) (fun i => l.length - i) 0 ⟨Nat.zero_le _, by simp⟩ ?_ ?_
  · refine Weak.list [] rfl (by rfl) ?_ .nil
    ((repeat' first | exact TLes.nil | refine TLes.cons (TLe.eq rfl) ?_ | refine TLes.cons (TLe.fn (by assumption)) ?_); skip)
  rintro i ⟨hi2, hc⟩
  ((repeat' first | refine Zad ?_ | (refine Zab tok (by rfl) ?_; conv => whnf) | refine Zai ?_ | (refine Zag ?_; conv => whnf) | (refine Zav ?_; conv => whnf) | (refine Zah ?_; conv => whnf) | (refine (Zbs _ _).mpr ?_; conv => whnf) | refine Zaf rfl (fun hb => ?_) (fun hb => ?_) | (refine @And.intro (Zaa _ _ _ _) _ ?_ ?_; rotate_left; (conv => whnf); rotate_right)); all_goals (try ((guard_target = Zaa _ _ _ _); refine Zae ?_; (all_goals (try simp only [Zaa, kzz, kz11, kz12, maxL, Zac] at *)); all_goals omega)))
  · have hlt : i < l.length := by simp only [Zaa, kzz, kz11, kz12, maxL, Zac] at *; omega
    refine .inl ⟨_, _, _, uG (QC.fc (hg (i : Int).toNat hlt) (Zfc (xs := [.agg (Za3 (l.getD (i : Int).toNat default))]) rfl hi)), ?_⟩
    conv => whnf
    (repeat' first | refine Zad ?_ | (refine Zab tok (by rfl) ?_; conv => whnf) | (refine Zag ?_; conv => whnf) | (refine Zah ?_; conv => whnf) | refine Zaf rfl (fun hb => ?_) (fun hb => ?_))
    · refine ⟨_, rfl, Rel.int ?_⟩
      exact (idxG_at default hlt hc (by simpa using hb)).symm
    · refine ⟨i + 1, ⟨hlt, fun j hj => ?_⟩, by omega, ?_⟩
      · by_cases e : j = i
        · subst e; simpa using hb
        · exact hc j (by omega)
      refine Weak.list [] rfl (by rfl) ?_ .nil
      ((repeat' first | exact TLes.nil | refine TLes.cons (TLe.eq rfl) ?_ | refine TLes.cons (TLe.int ?_) ?_ | refine TLes.cons (TLe.fn (by assumption)) ?_); (all_goals first | ((try (simp only [Zaa, kzz, kz11, kz12, maxL, Zac] at *)); exact Zak (by omega) (by omega)) | skip))
  · refine ⟨_, rfl, Rel.int ?_⟩
    exact (idxG_none default (fun j hj => hc j (by simp only [Zaa, kzz, kz11, kz12, maxL, Zac] at *; omega))).symm
theorem c_HasFuncM {g : FuncId} {cap : List AV} {p : Func → Bool} (hi : Zbo cap = true) (l : List Func) (hg : ∀ i, i < l.length → FC Tryz.prog g (.agg (Za3 (l.getD i default)) :: cap) (.bool (p (l.getD i default)))) : FC Tryz.prog 51 [funcss l, .fn g cap] (.bool (l.any p)) := by
  refine Zao tok Tryz.func51 rfl (by decide +kernel) (Nat.le_of_ble_eq_true rfl) ?_
  (repeat' first | refine Zad ?_ | (refine Zab tok (by rfl) ?_; conv => whnf) | (refine (Zbs _ _).mpr ?_; conv => whnf))
  refine .inl ⟨_, _, _, uG (QC.fc (c_IdxFuncM hi l hg) (show Zbo [funcss l, AV.fn g cap] = true from by simp [Zbo, immD, funcss, hi])), ?_⟩
  conv => whnf
  (repeat' (refine Zah ?_; conv => whnf))
  refine ⟨_, rfl, Rel.bool ?_⟩
  rw [← idxG_any]
theorem c_HasIns {g : FuncId} {cap : List AV} {p : Ins → Bool} (hi : Zbo cap = true) (hg : ∀ x, FC Tryz.prog g (.agg (Zbc x) :: cap) (.bool (p x))) (l : List Ins) : FC Tryz.prog 100 [inss l, .fn g cap] (.bool (l.any p)) := c_HasInsM hi l (fun i _ => hg _)
theorem c_HasFunc {g : FuncId} {cap : List AV} {p : Func → Bool} (hi : Zbo cap = true) (hg : ∀ x, FC Tryz.prog g (.agg (Za3 x) :: cap) (.bool (p x))) (l : List Func) : FC Tryz.prog 51 [funcss l, .fn g cap] (.bool (l.any p)) := c_HasFuncM hi l (fun i _ => hg _)
end Go.Proofs.YtoelbgjpmpoolaaGreat
namespace Go.Proofs.YtoelbgjpmpoolaaGreat
open Go Dv
set_option maxRecDepth 10000
set_option linter.unusedSimpArgs false
theorem c_lblk1 (m : Zam) (f : Func) (x : Ins) : FC Tryz.prog 140 [.agg (Zbc x), .ip (encL m f)] (.bool (!decide (InsP m f x))) := by
  refine Zao tok Tryz.func140 rfl (by decide +kernel) (Nat.le_of_ble_eq_true rfl) ?_
  (repeat' first | refine Zad ?_ | (refine Zab tok (by rfl) ?_; conv => whnf))
  refine .inl ⟨_, _, _, uG (QC.fc (c_lins m f x) rfl), ?_⟩
  conv => whnf
  (repeat' (refine Zah ?_; conv => whnf))
  exact ⟨_, rfl, Rel.imm rfl⟩
def LPad : Prop := ∀ (m : Zam) (f : Func) (b : Zbe), FC Tryz.prog 138 [.agg (encL m f), .agg (Za5 b)] (.bool (decide (PadP f b)))
theorem c_lblock (hpad : LPad) (m : Zam) (f : Func) (n : Nat) (hn : n < f.blocks.length) : FC Tryz.prog 91 [.agg (encL m f), iv n] (.bool (blkB m f (f.blocks.getD n default))) := by
  refine Zao tok Tryz.func91 rfl (by decide +kernel) (Nat.le_of_ble_eq_true rfl) ?_
  ((repeat' ((fail_if_success (show AWp _ _ _ (Code.region 2 _ _) _ _)); first | refine Zad ?_ | (refine Zab tok (by rfl) ?_; conv => whnf) | (refine @And.intro (Zaa _ _ _ _) _ ?_ ?_; rotate_left; (conv => whnf); rotate_right))); all_goals (try ((guard_target = Zaa _ _ _ _); refine Zae ?_; all_goals omega)))
  have hget : f.blocks.getD (n : Int).toNat default = f.blocks.getD n default := by simp
  generalize f.blocks.getD n default = b at hget ⊢
  refine Zay (Weak.list (tl := [(2, .bp (2, 0, 0) 0), (4, .bool false), (5, .bp (5, 0, 0) 0)]) [((2, 0, 0), .old (2, 0, 0), Zal (encL m f)), ((5, 0, 0), .old (5, 0, 0), .row true 14 1 (fun _ => Za5 b))] rfl (by rfl) ?_ (.old rfl (BLe.refl _) (.old rfl (BLe.rowW (Nat.le_refl _) (fun z hz => ?_)) .nil))) ?_
  · ((repeat' first | exact TLes.nil | refine TLes.cons (TLe.eq rfl) ?_); skip)
  · match z, hz with
    | 0, _ => rw [← hget]; exact Wks.of rfl
  (repeat' (refine Zab tok (by rfl) ?_; conv => whnf))
  refine .inl ⟨_, _, _, uG (QC.fc (hpad m f b) rfl), ?_⟩
  conv => whnf
  skip
  refine .inl ⟨_, _, _, uG (QC.fc (c_lend m f b.fin) rfl), ?_⟩
  conv => whnf
  skip
  have hh := c_HasIns (g := 140) (cap := [.ip (encL m f)]) (p := fun x => !decide (InsP m f x)) rfl (fun x => c_lblk1 m f x) b.ins
  refine .inl ⟨_, _, _, uG (QC.sc (rd := [(2, 0, 0)]) hh (.cons (.imm rfl) (.cons (.fn (.cons (.ip rfl (List.mem_singleton.2 rfl) (by decide) (Ress.imms rfl)) .nil)) .nil)) rfl), ?_⟩
  conv => whnf
  (repeat' (refine Zah ?_; conv => whnf))
  refine ⟨_, rfl, Rel.bool ?_⟩
  unfold blkB
  rw [List.not_any_eq_all_not, Bool.eq_iff_iff]
  have hc : decide ((b.ins.length : Int) ≤ 64) = decide (b.ins.length ≤ 64) := by rw [decide_eq_decide]; omega
  rw [hc]
  simp [and_assoc]
end Go.Proofs.YtoelbgjpmpoolaaGreat
namespace Go.Proofs.YtoelbgjpmpoolaaGreat
open Go Dv
set_option maxRecDepth 10000
set_option linter.unusedSimpArgs false
theorem c_lFunc (hpad : LPad) (m : Zam) (f : Func) : FC Tryz.prog 53 [.agg (Zan m), .agg (Za3 f)] (.bool (Zed m f)) := by
  refine Zao tok Tryz.func53 rfl (by decide +kernel) (Nat.le_of_ble_eq_true rfl) ?_
  refine Zap 1 (fun hl => ?_)
  have hl0 : f.blocks.length ≤ maxL := hl.2.2.1.1
  ((repeat' first | refine Zad ?_ | (refine Zab tok (by rfl) ?_; conv => whnf) | refine Zai ?_ | (refine Zag ?_; conv => whnf) | (refine Zah ?_; conv => whnf) | refine Zaf rfl (fun hb => ?_) (fun hb => ?_) | (refine @And.intro (Zaa _ _ _ _) _ ?_ ?_; rotate_left; (conv => whnf); rotate_right)); all_goals (try ((guard_target = Zaa _ _ _ _); ((refine Za1 ?_; intro hgd; (conv at hgd => whnf))); (all_goals (try simp only [Zaa, kzz, kz11, kz12, maxL, Zac] at *)); all_goals omega)))
  · refine ⟨_, rfl, Rel.bool ?_⟩
    rw [show Int.toNat 0 = 0 from rfl] at hb
    unfold Zed
    have hF : decide (FunP f) = false := by
      rw [decide_eq_false_iff_not]; intro h; unfold FunP at h
      rw [h.2.2.2.2.2.2] at hb; simp [-List.length_eq_zero_iff] at hb; omega
    rw [hF]; rfl
  have hF : FunP f := by
    rw [show Int.toNat 0 = 0 from rfl] at hb
    unfold FunP
    cases hland : (f.blocks.getD 0 default).landing with
    | true => rw [hland] at hb; simp at hb
    | false => rw [hland] at hb; simp [-List.length_eq_zero_iff] at hb; refine ⟨?_, ?_, ?_, ?_, ?_, ?_, rfl⟩ <;> omega
  clear hb
  refine Zau (fun i : Nat => mkS [(4, .bool false), (5, .bp (5, 0, 0) 0), (51, iv f.blocks.length), (52, iv i)] [((5, 0, 0), .row true 4 1 (fun _ => encL m f))])
    (fun i => i ≤ f.blocks.length ∧ ∀ j, j < i → blkB m f (f.blocks.getD j default) = true) (fun i => f.blocks.length - i) 0 ⟨Nat.zero_le _, by simp⟩ ?_ ?_
  · refine Weak.list [((5, 0, 0), .old (5, 0, 0), .row true 4 1 (fun _ => encL m f))] rfl (by rfl) ?_ (.old rfl (BLe.rowW (Nat.le_refl _) (fun z hz => ?_)) .nil)
    · ((repeat' first | exact TLes.nil | refine TLes.cons (TLe.eq rfl) ?_); skip)
    · match z, hz with
      | 0, _ => exact Wks.of rfl
  rintro i ⟨hi, hc⟩
  (repeat' first | refine Zad ?_ | (refine Zab tok (by rfl) ?_; conv => whnf) | refine Zai ?_ | (refine Zag ?_; conv => whnf) | (refine Zav ?_; conv => whnf) | (refine Zah ?_; conv => whnf) | refine Zaf rfl (fun hb => ?_) (fun hb => ?_))
  · have hlt : i < f.blocks.length := by simp only [Zaa, kzz, kz11, kz12, maxL, Zac] at *; omega
    refine .inl ⟨_, _, _, uG (QC.fc (c_lblock hpad m f i hlt) rfl), ?_⟩
    conv => whnf
    (repeat' first | refine Zad ?_ | (refine Zab tok (by rfl) ?_; conv => whnf) | (refine Zag ?_; conv => whnf) | (refine Zah ?_; conv => whnf) | refine Zaf rfl (fun hb => ?_) (fun hb => ?_))
    · refine ⟨_, rfl, Rel.bool ?_⟩
      unfold Zed
      rw [all_no default hlt (p := blkB m f) (by simpa using hb)]
      simp
    · refine ⟨i + 1, ⟨hlt, fun j hj => ?_⟩, by omega, ?_⟩
      · by_cases e : j = i
        · subst e; simpa using hb
        · exact hc j (by omega)
      refine Weak.list [((5, 0, 0), .old (5, 0, 0), .row true 4 1 (fun _ => encL m f))] rfl (by rfl) ?_ (.old rfl (BLe.refl _) .nil)
      ((repeat' first | exact TLes.nil | refine TLes.cons (TLe.eq rfl) ?_ | refine TLes.cons (TLe.int ?_) ?_); (all_goals first | ((try (simp only [Zaa, kzz, kz11, kz12, maxL, Zac] at *)); exact Zak (by omega) (by omega)) | skip))
  · refine ⟨_, rfl, Rel.bool ?_⟩
    unfold Zed
    rw [decide_eq_true hF, all_yes default (fun j hj => hc j (by simp only [Zaa, kzz, kz11, kz12, maxL, Zac] at *; omega))]; rfl
theorem c_lRight1 (hpad : LPad) (m : Zam) (f : Func) : FC Tryz.prog 52 [.agg (Za3 f), .ip (Zan m)] (.bool (!Zed m f)) := by
  refine Zao tok Tryz.func52 rfl (by decide +kernel) (Nat.le_of_ble_eq_true rfl) ?_
  (repeat' first | refine Zad ?_ | (refine Zab tok (by rfl) ?_; conv => whnf))
  refine .inl ⟨_, _, _, uG (QC.fc (c_lFunc hpad m f) rfl), ?_⟩
  conv => whnf
  (repeat' (refine Zah ?_; conv => whnf))
  exact ⟨_, rfl, Rel.imm rfl⟩
theorem c_lRight (hpad : LPad) (m : Zam) : FC Tryz.prog 15 [.agg (Zan m)] (.bool (Za6 m)) := by
  refine Zao tok Tryz.func15 rfl (by decide +kernel) (Nat.le_of_ble_eq_true rfl) ?_
  refine Zap 0 (fun hl => ?_)
  have hl0 : m.funcs.length ≤ maxL := hl.1.1
  ((repeat' first | refine Zad ?_ | (refine Zab tok (by rfl) ?_; conv => whnf) | (refine Zag ?_; conv => whnf) | (refine Zah ?_; conv => whnf) | refine Zaf rfl (fun hb => ?_) (fun hb => ?_) | (refine @And.intro (Zaa _ _ _ _) _ ?_ ?_; rotate_left; (conv => whnf); rotate_right)); all_goals (try ((guard_target = Zaa _ _ _ _); ((refine Za1 ?_; intro hgd; (conv at hgd => whnf))); (all_goals (try simp only [Zaa, kzz, kz11, kz12, maxL, Zac] at *)); all_goals omega)))
  · refine ⟨_, rfl, Rel.bool ?_⟩
    rw [show Int.toNat 0 = 0 from rfl] at hb
    unfold Za6
    rw [decide_eq_false]
    · rfl
    · rintro ⟨h1, h2, h3⟩
      rw [h3] at hb; simp [-List.length_eq_zero_iff] at hb; omega
  have hF : 1 ≤ m.funcs.length ∧ m.funcs.length ≤ 16 ∧ (m.funcs.getD 0 default).params = 0 := by
    rw [show Int.toNat 0 = 0 from rfl] at hb
    simp only [Bool.cond_true_left, Bool.or_eq_false_iff] at hb
    refine ⟨?_, ?_, by simpa using hb.2⟩ <;> simp only [Zaa, kzz, kz11, kz12, maxL, Zac] at * <;> omega
  clear hb
  refine .inl ⟨_, _, _, uG (QC.sc (rd := [(1, 0, 0)]) (c_HasFunc (g := 52) (cap := [.ip (Zan m)]) (p := fun f => !Zed m f) rfl (fun f => c_lRight1 hpad m f) m.funcs) (.cons (.imm rfl) (.cons (.fn (.cons (.ip rfl (List.mem_singleton.2 rfl) (by decide) (Ress.imms rfl)) .nil)) .nil)) rfl), ?_⟩
  conv => whnf
  (repeat' (refine Zah ?_; conv => whnf))
  refine ⟨_, rfl, Rel.bool ?_⟩
  unfold Za6
  rw [List.not_any_eq_all_not, decide_eq_true hF]
  simp
end Go.Proofs.YtoelbgjpmpoolaaGreat
namespace Go.Proofs.YtoelbgjpmpoolaaGreat
open Go Dv Go.RowKit Go.Maps Go.Sort Go.Shelf
set_option linter.unusedSimpArgs false
@[go_sem, reducible] def encU (k : Int) : Value := .int .u16 k
def SeqU (F : Fence) (n : Nat) (g : Nat) (lb : Array Value) (S : List Int → Prop) (N : Nat) (w : World) : Prop :=
  ∀ (l : Nat) (J : List Int → World → Prop) (W : World), RowKit.Below w.heap.size w W → (∀ pre W', J pre W' → RowKit.Below w.heap.size w W') →
    (∀ pre x W', J pre W' → pre.length < N → YieldAt F (n - 1) Tryz.prog l #[encU x] W' fun e W2 => e = .returned (.bool true) ∧ J (pre ++ [x]) W2 ∧ KeepsWalks W' W2) → J [] W →
    CallsIn F n Tryz.prog g (#[.func (.yield l) #[] #[]] ++ lb) W fun e W' => (∃ v, e = .returned v) ∧ ∃ ss, S ss ∧ J ss W'
def Sq.apAssign : Code := (Code.region 2 #[{ dst := some 5, op := Op.assign (Operand.tmp 7), type := 50, pos := "iter.go:51", after := #[], guard := none }] false)
def Sq.apBody : Code := (Code.block 1 (Code.region 3 #[{ dst := some 8, op := Op.load 25 (Operand.tmp 2), type := 25, pos := "iter.go:52", after := #[], guard := none }, { dst := some 9, op := Op.move (Operand.tmp 5), type := 50, pos := "iter.go:52", after := #[], guard := none }, { dst := some 10, op := Op.buildSlice 25 1 #[(0, Operand.tmp 9)], type := 25, pos := "iter.go:52", after := #[{ on := 1, ground := Ground.data }], guard := none }, { dst := some 11, op := Op.call { callee := Callee.builtin Builtin.append, args := #[Operand.tmp 8, Operand.tmp 10], argTypes := #[25, 25] }, type := 25, pos := "iter.go:52", after := #[{ on := 0, ground := Ground.data }, { on := 2, ground := Ground.data }], guard := none }, { dst := none, op := Op.store 25 (Operand.tmp 2) (Operand.tmp 11), type := 0, pos := "iter.go:52", after := #[{ on := 3, ground := Ground.data }, { on := 3, ground := Ground.chain }, { on := 0, ground := Ground.phase }, { on := 1, ground := Ground.phase }, { on := 2, ground := Ground.phase }, { on := 3, ground := Ground.phase }], guard := none }] false))
def Sq.apRec (fn : FuncId) (sv : Value) (Bs D : Nat) (st : LoopState) (pend : Option Code) : Loop :=
  { state := st, pending := pend, fn, tmps := #[.slice none 0 0, sv, .pointer (some ⟨Bs, 0, none⟩), undef, .slice none 0 0, undef, sv, undef, undef, undef, undef, undef, undef], params := #[7], assign := Sq.apAssign, body := Sq.apBody, defers := D }
structure Sq.ApAt (w0 : World) (fn : FuncId) (sv : Value) (Bs l D : Nat) (ss : List Int) (W : World) : Prop where
  box : ∃ v, W.heap[Bs]? = some (.cells #[v] 25 (0, 0)) ∧ W.ownsRow w0.heap.size 50 1 v ss.length (ss.map encU) ∧ (v = .slice none 0 0 ↔ ss = [])
  L : W.heap[l]? = some (.loop (Sq.apRec fn sv Bs D .ready none))
  K : W.heap[D]? = some (.deferred (some []))
  below : Below w0.heap.size w0 W
theorem Zcl (W : World) (l : Nat) (o : Obj) : W.grownBy (W.putObj l o) (some l) :=
  ⟨rfl, rfl, rfl, by simp, fun k _ hk => World.putObj_heap_other (fun e => hk (by rw [e]))⟩
theorem grownBy_setCell0 (W : World) (b : Nat) (v : Value) : W.grownBy (W.setCell ⟨b, 0, none⟩ v) (some b) :=
  ⟨rfl, rfl, rfl, (KeepsWalks.setCell W _ v).size, fun k _ hk => Below.heap_setCell _ _ _ k (fun e => hk (by rw [e]))⟩
theorem Zek {W : World} {base : Nat} {e : TypeId} {size : Nat} {v : Value} {k : Nat} {xs : List Value} (h : W.ownsRow base e size v k xs) {j : Nat} {o : Obj} (hj : W.heap[j]? = some o) (hno : ∀ cur, o ≠ .cells cur e (0, 0)) :
    v.ownBlock = none ∨ v.ownBlock ≠ some j := by
  rcases h.2 with ⟨rfl, _⟩ | ⟨g, cap, cur, rfl, _, hgb, _⟩
  · exact .inl rfl
  · refine .inr fun e' => ?_
    have : g = j := by simpa [Value.ownBlock] using e'
    subst this; rw [hgb] at hj; cases hj; exact hno cur rfl
theorem cell_of_box {W : World} {B : Nat} {v : Value} {t : TypeId} (h : W.heap[B]? = some (.cells #[v] t (0, 0))) : W.cell? ⟨B, 0, none⟩ = some v ∧ W.frozen? ⟨B, 0, none⟩ = false := by
  constructor <;> simp [World.cell?, World.frozen?, h]
theorem heap_setCell_box {W : World} {B : Nat} {v : Value} {t : TypeId} (v' : Value) (h : W.heap[B]? = some (.cells #[v] t (0, 0))) : (W.setCell ⟨B, 0, none⟩ v').heap[B]? = some (.cells #[v'] t (0, 0)) := by
  obtain ⟨hlt, hk⟩ := Array.getElem?_eq_some_iff.1 h
  show (W.heap.modify B _)[B]? = _
  rw [Array.getElem?_eq_getElem (by rw [Array.size_modify]; exact hlt), Array.getElem_modify_self, hk]
  rfl
theorem ownsRow_not_walk {W : World} {base : Nat} {e : TypeId} {size : Nat} {v : Value} {k : Nat} {xs : List Value} (h : W.ownsRow base e size v k xs) : ∀ (j : Nat) (o : Obj), v.ownBlock = some j → W.heap[j]? = some o → o.isWalk = false := by
  intro j o hj ho
  rcases h.2 with ⟨rfl, _⟩ | ⟨g, cap, cur, rfl, _, hgb, _⟩
  · simp [Value.ownBlock] at hj
  · have : g = j := by simpa [Value.ownBlock] using hj
    subst this; rw [hgb] at ho; cases ho; rfl
theorem Sq.infoU : (Tryz.prog.info? 50).map (fun i => (i.zero, i.size, i.bytes)) = some (some (.int .u16 0), 1, 2) := by kernel_rfl
set_option maxRecDepth 100000 in
set_option maxHeartbeats 2000000 in
theorem Sq.apYield (F : Fence) (m : Nat) (w0 : World) (fn : FuncId) (hfn : F.fn fn) (sv : Value) (Bs l D : Nat) (hBl : Bs ≠ l) (hDl : D ≠ l) (hDB : D ≠ Bs) (h0B : w0.heap.size ≤ Bs) (h0l : w0.heap.size ≤ l)
    (N : Nat) (hN : N ≤ maxLen) (hNb : N * 2 ≤ 140737488355328) (ss : List Int) (x : Int) (W : World) (h : Sq.ApAt w0 fn sv Bs l D ss W) (hlen : ss.length < N) :
    YieldAt F m Tryz.prog l #[encU x] W fun e W' => e = .returned (.bool true) ∧ Sq.ApAt w0 fn sv Bs l D (ss ++ [x]) W' ∧ KeepsWalks W W' := by
  obtain ⟨i0, hi, hz0, hz1, hz2⟩ := info_parts Sq.infoU
  obtain ⟨v, hv, hrow, _⟩ := h.box
  refine ⟨fn, #[.slice none 0 0, sv, .pointer (some ⟨Bs, 0, none⟩), undef, .slice none 0 0, undef, sv, encU x, undef, undef, undef, undef, undef], Sq.apAssign, Sq.apBody, by simpa [Sq.apRec] using run_yield (P := Tryz.prog) (args := #[encU x]) h.L rfl, roundIn_of_wpIn hfn ?_⟩
  have hl : l < W.heap.size := (Array.getElem?_eq_some_iff.1 h.L).1
  have hbr := run_beginRound (P := Tryz.prog) h.L rfl
  obtain ⟨W2, hW2⟩ : ∃ W2, W.putObj l (.loop { Sq.apRec fn sv Bs D .ready none with state := .busy }) = W2 := ⟨_, rfl⟩
  rw [hW2] at hbr
  have hg2 : W.grownBy W2 (some l) := by rw [← hW2]; exact Zcl _ _ _
  have hk2 : KeepsWalks W W2 := by rw [← hW2]; exact KeepsWalks.putObj _ h.L rfl
  have hv2 : W2.heap[Bs]? = some (.cells #[v] 25 (0, 0)) := by rw [← hW2]; exact (World.putObj_heap_other hBl).trans hv
  have hK2 : W2.heap[D]? = some (.deferred (some [])) := by rw [← hW2]; exact (World.putObj_heap_other hDl).trans h.K
  have hL2 : W2.heap[l]? = some (.loop { Sq.apRec fn sv Bs D .ready none with state := .busy }) := by rw [← hW2]; exact World.putObj_heap_same hl
  have hrow2 : W2.ownsRow w0.heap.size 50 1 v ss.length (ss.map encU) := hrow.kept hg2 (Zek hrow h.L (fun cur e => by cases e))
  have hb2 : Below w0.heap.size w0 W2 := h.below.grown hg2 h.below.size (fun k e => by cases e; exact h0l)
  obtain ⟨hc2, hf2⟩ := cell_of_box hv2
  have hBlt : Bs < W2.heap.size := (Array.getElem?_eq_some_iff.1 hv2).1
  have hl2 : l < W2.heap.size := (Array.getElem?_eq_some_iff.1 hL2).1
  have hDlt : D < W2.heap.size := (Array.getElem?_eq_some_iff.1 hK2).1
  have ne_of : ∀ {j : Nat} {o : Obj}, W2.heap[j]? = some o → (∀ cur, o ≠ .cells cur 50 (0, 0)) → some j ≠ v.ownBlock := fun hj hno => by
    rcases Zek hrow2 hj hno with e | e
    · rw [e]; simp
    · exact fun e' => e e'.symm
  clear hW2
  unfold Sq.apAssign
  gi_wp2_with (rw [Oper.semAt_eq _ _ _ (fun c h => by cases h)]; go_simp; try go_bits)
  unfold Sq.apBody
  gi_wp2_with (first
    | (gi_at_builtin; refine wpListIn_append_own _ rfl _ _ 25 rfl w0.heap.size 50 i0 (.int .u16 0) 1 2 Tryz.underlying25 hi hz0 hz1 hz2 rfl (by decide) _ _ _ rfl (hrow2.alloc _) ⟨W2.heap.size, 0, none⟩ 1 1 [encU x] rfl rfl (cell_one_new _ _ _) (by simp [Value.oneCell', encU]) (by omega) (by omega) (by have := hb2.size; simp; omega) ?_; intro v' w3 hown' hg3 hnil3
       have hv3 : w3.heap[Bs]? = some (.cells #[v] 25 (0, 0)) := (hg3.block Bs (by simp; omega) (ne_of hv2 (fun cur e => by cases e))).trans ((Below.heap_alloc _ _ Bs hBlt).trans hv2)
       obtain ⟨hc3, hf3⟩ := cell_of_box hv3
       obtain ⟨g', cap', cur', rfl, hbase', hgb', hr1, hr2, hr3, hr4⟩ : ∃ g' cap' cur', v' = .slice (some ⟨g', 0, none⟩) (ss.length + 1) cap' ∧ w0.heap.size ≤ g' ∧ w3.heap[g']? = some (.cells cur' 50 (0, 0)) ∧ ss.length + 1 ≤ cap' ∧ cap' ≤ maxLen ∧ cur'.size = cap' * 1 ∧ cur'.toList.take ((ss.length + 1) * 1) = ss.map encU ++ [encU x] := by
         rcases hown'.2 with ⟨_, h0⟩ | h'
         · exact absurd h0 (by omega)
         · exact h'
       go_frame)
    | (rw [Oper.semAt_eq _ _ _ (fun c h => by cases h)]; go_simp; try go_bits))
  have hg3' : (W2.alloc (.cells #[encU x] 50)).grownBy w3 v.ownBlock := hg3
  have hL3 : w3.heap[l]? = some (.loop { Sq.apRec fn sv Bs D .ready none with state := .busy }) := (hg3'.block l (by simp; omega) (ne_of hL2 (fun cur e => by cases e))).trans ((Below.heap_alloc _ _ l hl2).trans hL2)
  have hK3 : w3.heap[D]? = some (.deferred (some [])) := (hg3'.block D (by simp; omega) (ne_of hK2 (fun cur e => by cases e))).trans ((Below.heap_alloc _ _ D hDlt).trans hK2)
  obtain ⟨w4, hw4⟩ : ∃ w4, w3.setCell ⟨Bs, 0, none⟩ (.slice (some ⟨g', 0, none⟩) (ss.length + 1) cap') = w4 := ⟨_, rfl⟩
  rw [hw4]
  have hg4 : w3.grownBy w4 (some Bs) := by rw [← hw4]; exact grownBy_setCell0 _ _ _
  have hv4 : w4.heap[Bs]? = some (.cells #[.slice (some ⟨g', 0, none⟩) (ss.length + 1) cap'] 25 (0, 0)) := by rw [← hw4]; exact heap_setCell_box _ hv3
  have hL4 : w4.heap[l]? = some (.loop { Sq.apRec fn sv Bs D .ready none with state := .busy }) := (hg4.block l (Array.getElem?_eq_some_iff.1 hL3).1 (fun e => hBl (by cases e; rfl))).trans hL3
  have hK4 : w4.heap[D]? = some (.deferred (some [])) := (hg4.block D (Array.getElem?_eq_some_iff.1 hK3).1 (fun e => hDB (by cases e; rfl))).trans hK3
  have hrow4 := hown'.kept hg4 (Zek hown' hv3 (fun cur e => by cases e))
  have hl4 : l < w4.heap.size := (Array.getElem?_eq_some_iff.1 hL4).1
  have hb3 : Below w0.heap.size w0 w3 := (hb2.alloc hb2.size _).grown hg3' (by have := hb2.size; simp; omega) (fun k e => (hrow2.lt k e).1)
  have hb4 : Below w0.heap.size w0 w4 := hb3.grown hg4 hb3.size (fun k e => by cases e; exact h0B)
  have hk4 : KeepsWalks W w4 := ((hk2.trans (KeepsWalks.alloc _ _)).trans (KeepsWalks.of_grownBy hg3' (ownsRow_not_walk (hrow2.alloc _)))).trans (by rw [← hw4]; exact KeepsWalks.setCell _ _ _)
  clear hw4
  refine ⟨_, _, run_endRound none hL4, rfl, ⟨⟨_, (World.putObj_heap_other hBl).trans hv4, ?_, by simp⟩, World.putObj_heap_same hl4, (World.putObj_heap_other hDl).trans hK4, hb4.grown (Zcl _ _ _) hb4.size (fun k e => by cases e; exact h0l)⟩, hk4.trans (KeepsWalks.putObj _ hL4 rfl)⟩
  have := hrow4.kept (Zcl w4 l (.loop { { Sq.apRec fn sv Bs D .ready none with state := .busy } with state := if (none : Option Code).isNone then .ready else .done, pending := none })) (Zek hrow4 hL4 (fun cur e => by cases e))
  simpa using this
set_option maxRecDepth 100000 in
set_option maxHeartbeats 2000000 in
theorem Sq.appendSeq_in (F : Fence) (n : Nat) (h11 : F.fn 221) (hro : F.round = none) (hn : 2 ≤ n) (g : Nat) (lb : Array Value) (hFg : F.fn g) (eg : ∀ args w, (callFunc g args).run Tryz.prog w = .ok (.enter g args) w)
    (S : List Int → Prop) (N : Nat) (hN : N ≤ maxLen) (hNb : N * 2 ≤ 140737488355328) (w : World) (hseq : SeqU F (n - 1) g lb S N w) :
    CallsIn F n Tryz.prog 221 #[.slice none 0 0, .func (.func g) #[] lb] w fun e w' => ∃ (v : Value) (ss : List Int), e = .returned v ∧ S ss ∧ w'.ownsRow w.heap.size 50 1 v ss.length (ss.map encU) ∧ (v = .slice none 0 0 ↔ ss = []) ∧ Below w.heap.size w w' := by
  have h1 : 1 ≤ n := by omega
  refine callsIn_of_wp_marks Tryz.func221 rfl h11 ?_ hro
  simp only [Tryz.ntmps221, List.size_toArray, List.length_cons, List.length_nil, Nat.reduceAdd, Nat.reduceSub, Array.replicate_succ, Array.replicate_zero, List.push_toArray, List.append_toArray, List.nil_append, List.cons_append]
  gi_wp2
  refine wpIn_rangeFunc ?_
  intro fn hfn
  rw [hro]
  obtain ⟨W0, hW0⟩ : ∃ W0, w.alloc (.cells #[.slice none 0 0] 25) = W0 := ⟨_, rfl⟩
  have hs0 : W0.heap.size = w.heap.size + 1 := by rw [← hW0]; simp
  have hv0 : W0.heap[w.heap.size]? = some (.cells #[.slice none 0 0] 25 (0, 0)) := by rw [← hW0]; exact World.alloc_heap_new w _
  have hb0 : Below w.heap.size w W0 := by rw [← hW0]; exact (Below.refl _ w).alloc (Nat.le_refl _) _
  rw [hW0]
  obtain ⟨W1, hW1⟩ : ∃ W1, (W0.alloc (.deferred (some []))).alloc (.loop (Sq.apRec fn (.func (.func g) #[] lb) w.heap.size W0.heap.size .ready none)) = W1 := ⟨_, rfl⟩
  have hold : ∀ k, k < W0.heap.size → W1.heap[k]? = W0.heap[k]? := fun k hk => by
    rw [← hW1]; exact (Below.heap_alloc _ _ k (by simp; omega)).trans (Below.heap_alloc _ _ k hk)
  have hb1 : Below w.heap.size w W1 := by rw [← hW1]; exact (hb0.alloc hb0.size _).alloc (by have := hb0.size; simp; omega) _
  have hs1 : W1.heap.size = W0.heap.size + 2 := by rw [← hW1]; simp
  have hM : Sq.ApAt w fn (.func (.func g) #[] lb) w.heap.size (W0.heap.size + 1) W0.heap.size [] W1 :=
    ⟨⟨_, (hold w.heap.size (by omega)).trans hv0, ⟨rfl, .inl ⟨rfl, rfl⟩⟩, by simp⟩,
     by rw [← hW1]; have := World.alloc_heap_new (W0.alloc (.deferred (some []))) (.loop (Sq.apRec fn (.func (.func g) #[] lb) w.heap.size W0.heap.size .ready none)); rwa [World.size_alloc] at this,
     by rw [← hW1]; exact (Below.heap_alloc _ _ _ (by simp)).trans (World.alloc_heap_new W0 _), hb1⟩
  refine ⟨W0.heap.size + 1, [{ target := .collected W0.heap.size, args := #[] }], W1, { target := .fn (.func g) lb, args := #[.func (.yield (W0.heap.size + 1)) #[] #[]] }, W1, g,
    #[.func (.yield (W0.heap.size + 1)) #[] #[]] ++ lb, W1, ?_, ?_, ?_, ?_, fun _ => h1, ?_⟩
  · rw [← hW1]; exact run_enterLoop_outer _ _ _ _ _
  · simp [resolve, go_sem]
  · intro f' hf'; simp [Target.leads] at hf'; subst hf'; exact hFg
  · simp [invoke, go_sem, eg]
  · refine (hseq (W0.heap.size + 1) (Sq.ApAt w fn (.func (.func g) #[] lb) w.heap.size (W0.heap.size + 1) W0.heap.size) W1 hb1 (fun _ _ h => h.below)
      (fun pre x W hJ hl => Sq.apYield F (n - 1 - 1) w fn hfn _ w.heap.size (W0.heap.size + 1) W0.heap.size (by omega) (by omega) (by omega) (Nat.le_refl _) (by omega) N hN hNb pre x W hJ hl) hM).mono ?_
    rintro e W2 ⟨⟨v0, rfl⟩, ss, hS, h2⟩
    obtain ⟨v, hv, hrow, hnil⟩ := h2.box
    have hend := run_endLoop (P := Tryz.prog) h2.L (by simp [Sq.apRec])
    obtain ⟨W3, hW3⟩ : ∃ W3, W2.putObj (W0.heap.size + 1) (.loop { Sq.apRec fn (.func (.func g) #[] lb) w.heap.size W0.heap.size .ready none with state := .exhausted }) = W3 := ⟨_, rfl⟩
    rw [hW3] at hend
    have hg3 : W2.grownBy W3 (some (W0.heap.size + 1)) := by rw [← hW3]; exact Zcl _ _ _
    have hv3 : W3.heap[w.heap.size]? = some (.cells #[v] 25 (0, 0)) := by rw [← hW3]; exact (World.putObj_heap_other (by omega)).trans hv
    have hK3 : W3.heap[W0.heap.size]? = some (.deferred (some [])) := by rw [← hW3]; exact (World.putObj_heap_other (by omega)).trans h2.K
    have hrow3 := hrow.kept hg3 (Zek hrow h2.L (fun cur e => by cases e))
    have hb3 : Below w.heap.size w W3 := h2.below.grown hg3 h2.below.size (fun k e => by cases e; omega)
    obtain ⟨hc3, hf3⟩ := cell_of_box hv3
    clear hW3
    refine ⟨none, W3, hend, ?_⟩
    gi_wp2
    rw [← hs0]
    refine ⟨by simp, .inl ⟨_, _, rfl, run_takeDeferred hK3, ?_⟩⟩
    exact ⟨_, results_tmp rfl _ _ _, v, ss, rfl, hS, hrow3.kept (Zcl _ _ _) (Zek hrow3 hK3 (fun cur e => by cases e)), hnil, hb3.grown (Zcl _ _ _) hb3.size (fun k e => by cases e; omega)⟩
end Go.Proofs.YtoelbgjpmpoolaaGreat
namespace Go.Proofs.YtoelbgjpmpoolaaGreat
open Go Dv Go.RowKit Go.Maps Go.Sort Go.Shelf
attribute [local go_sem] Oper.semAt_some
set_option maxRecDepth 100000 in
set_option maxHeartbeats 2000000 in
theorem Sq.values1_in (F : Fence) (n : Nat) (h7 : F.fn 205) (hro : F.round = none) (hn : 1 ≤ n) (Bs bo b off cap : Nat) (zs : List Int) (hreach : zs.length * 2 ≤ 140737488351232) (w : World) (hBs0 : Bs < w.heap.size) (hb : b < w.heap.size)
    (hBs : w.cell? ⟨Bs, bo, none⟩ = some (.slice (some ⟨b, off, none⟩) zs.length cap)) (hc : ∀ j, j < zs.length → w.cell? ⟨b, off + j, none⟩ = some (.int .u16 (zs[j]?.getD 0))) :
    SeqU F n 205 #[.pointer (some ⟨Bs, bo, none⟩)] (fun ss => ss = zs) zs.length w := by
  intro l J W hW hJB hY h0
  have hBsW := (hW.cell (p := ⟨Bs, bo, none⟩) hBs0).trans hBs
  have hcW : ∀ W', RowKit.Below w.heap.size w W' → ∀ k, k < zs.length → W'.cell? ⟨b, off + k, none⟩ = some (.int .u16 (zs[k]?.getD 0)) := fun W' h k hk => (h.cell (p := ⟨b, off + k, none⟩) hb).trans (hc k hk)
  refine callsIn_of_wp Tryz.func205 rfl h7 ?_ hro
  simp only [Tryz.ntmps205, List.size_toArray, List.length_cons, List.length_nil, Nat.reduceAdd, Nat.reduceSub, Array.replicate_succ, Array.replicate_zero, List.push_toArray, List.append_toArray, List.nil_append, List.cons_append]
  gi_wp2
  gi_loopw [7] (fun i wr => ∃ k : Nat, k ≤ zs.length ∧ i = .int .i64 k ∧ J (zs.take k) wr)
    (fun i _ => zs.length - (intOf i).toNat)
  case atStart => exact ⟨0, Nat.zero_le _, rfl, by simpa using h0⟩
  case round =>
    obtain ⟨k, hk, rfl, hJs⟩ := hrel
    by_cases hlt : k < zs.length
    · have hcx' := hcW wr (hJB _ _ hJs) k hlt
      have hJx : ∀ W', J (zs.take k ++ [zs[k]?.getD 0]) W' → J (zs.take (k + 1)) W' := fun W' h => by rw [List.take_add_one]; simpa [List.getElem?_eq_getElem hlt] using h
      generalize zs[k]?.getD 0 = x at hcx' hJx
      obtain ⟨fn, tmps, assign, body, hy, hR⟩ := hY _ x wr hJs (by rw [List.length_take]; omega)
      unfold encU at hy
      gi_wp2
      refine hR.mono ?_
      rintro e W3 ⟨rfl, hJ3, _⟩
      gi_wp2
      go_roundw
      case rel => exact ⟨k + 1, by omega, by simp, hJx _ hJ3⟩
      case measure => simp [intOf]; omega
    · obtain rfl : k = zs.length := by omega
      gi_wp2
      go_end0
      exact ⟨⟨_, rfl⟩, _, rfl, by simpa using hJs⟩
set_option maxRecDepth 100000 in
set_option maxHeartbeats 1000000 in
theorem Sq.values1_nil (F : Fence) (n : Nat) (h7 : F.fn 205) (hro : F.round = none) (Bs bo cap : Nat) (p : Option Addr) (w : World) (hBs0 : Bs < w.heap.size)
    (hBs : w.cell? ⟨Bs, bo, none⟩ = some (.slice p 0 cap)) :
    SeqU F n 205 #[.pointer (some ⟨Bs, bo, none⟩)] (fun ss => ss = []) 0 w := by
  intro l J W hW hJB hY h0
  have hBsW := (hW.cell (p := ⟨Bs, bo, none⟩) hBs0).trans hBs
  refine callsIn_of_wp Tryz.func205 rfl h7 ?_ hro
  simp only [Tryz.ntmps205, List.size_toArray, List.length_cons, List.length_nil, Nat.reduceAdd, Nat.reduceSub, Array.replicate_succ, Array.replicate_zero, List.push_toArray, List.append_toArray, List.nil_append, List.cons_append]
  gi_wp2
  gi_loopw [7] (fun i wr => i = .int .i64 0 ∧ J [] wr) (fun _ _ => 0)
  case atStart => exact ⟨rfl, h0⟩
  case round =>
    obtain ⟨rfl, hJs⟩ := hrel
    gi_wp2
    go_end0
    exact ⟨⟨_, rfl⟩, _, rfl, hJs⟩
end Go.Proofs.YtoelbgjpmpoolaaGreat
namespace Go.Proofs.YtoelbgjpmpoolaaGreat
open Go Dv Go.RowKit Go.Maps Go.Sort Go.Shelf
set_option linter.unusedSimpArgs false
theorem fr_below {w w' : World} (h : RowKit.Below w.heap.size w w') : Fr (fun _ => False) w w' :=
  ⟨h.os, h.tape, h.output, h.size, fun b hb _ => h.block b hb, fun a ha => by simp only [World.frozen?, h.block a.block ha]⟩
theorem c_AppendSeq (l : List Int) (hl : l.length ≤ maxL) : FO Tryz.prog 221 [.nsl, .fn 205 [.ip [u16s l]]] 1 l.length (fun i => [.int .u16 (l.getD i 0)]) := by
  refine ⟨⟨_, Tryz.func221, rfl, by decide +kernel⟩, fun X w vals hX hv => ?_⟩
  simp only [Vs, V, Vc, u16s] at hv
  obtain ⟨_, _, rfl, rfl, _, _, rfl, ⟨a, rfl, _, _, rfl, ⟨Bs, bo, rfl, hBs, hnX, ⟨v, hcell, _, p, c, rfl, hnc, _, hrow⟩, _⟩, rfl⟩, rfl⟩ := hv
  have hu : ∀ i, i < l.length → IntKind.u16.min ≤ l.getD i 0 ∧ l.getD i 0 ≤ IntKind.u16.max := fun i hi => by
    rcases hrow with h0 | ⟨b, o, _, _, _, hc⟩
    · omega
    · exact (hc i hi).2.1.choose_spec.2.2.2
  have key : ∃ N, SeqU Fence.wide 1 205 #[.pointer (some ⟨Bs, bo, none⟩)] (fun ss => ss = l) N w ∧ N ≤ maxLen ∧ N * 2 ≤ 140737488355328 := by
    rcases hrow with h0 | ⟨b, o, rfl, hb, _, hc⟩
    · have : l = [] := List.length_eq_zero_iff.1 h0
      subst this
      exact ⟨0, Sq.values1_nil Fence.wide 1 trivial rfl Bs bo c p w hBs hcell, by decide, by decide⟩
    · refine ⟨l.length, Sq.values1_in Fence.wide 1 trivial rfl (by omega) Bs bo b o c l (by simp only [maxL] at hl; omega) w hBs hb hcell (fun j hj => ?_), by simp only [maxL] at hl; simp only [maxLen]; omega, by simp only [maxL] at hl; omega⟩
      obtain ⟨_, ⟨v, h1, _, h2, _⟩, _⟩ := hc j hj
      rw [Nat.mul_one] at h1
      rw [h1, h2]; simp
  obtain ⟨N, hseq, hN, hN2⟩ := key
  refine (callsIn_wide.1 (Sq.appendSeq_in Fence.wide 2 trivial rfl (by omega) 205 #[.pointer (some ⟨Bs, bo, none⟩)] trivial (fun args w => run_callFunc ⟨_, Tryz.func205, rfl, by decide +kernel⟩ args w) (fun ss => ss = l) N hN hN2 w hseq)).mono ?_
  rintro e w' ⟨v, ss, rfl, rfl, hown, hnil, hb⟩
  refine ⟨v, rfl, fr_below hb, hl, ?_⟩
  rcases hown.2 with ⟨h1, h2⟩ | ⟨g, cap, cur, h1, h2, h3, h4, h5, h6, h7⟩
  · exact .inl ⟨h1, h2⟩
  · refine .inr ⟨_, g, cap, h1, h2, .inr rfl, cur, 50, h3, h4, h6, fun i hi => ⟨rfl, ?_⟩⟩
    simp only [Vc, V]
    have hg : cur[i]? = some (.int .u16 (ss.getD i 0)) := by
      have := congrArg (fun l => l[i]?) h7
      simp only [Nat.mul_one, List.getElem?_take, hi, if_true, List.getElem?_map] at this
      rw [← Array.getElem?_toList, this, List.getElem?_eq_getElem hi, List.getD_eq_getElem?_getD, List.getElem?_eq_getElem hi]; rfl
    refine ⟨⟨_, ?_, rfl, rfl, ?_⟩, trivial⟩
    · simp [World.cell?, h3, hg]
    · exact hu i hi
theorem Rel.bp {h : Zaq} {id : Dv.Id} {imm : Bool} {sz k : Nat} {f : Nat → List AV} {g : List AV} (hh : h id = some (.row imm sz k f)) (hk : 0 < k) (hm : Rels h (f 0) g) : Rel h (.bp id 0) (.ip g) := fun X ι w v s hv => by
  simp only [V] at hv ⊢
  cases hl : ι id with
  | none => simp [hl] at hv
  | some l =>
    cases l with
    | ghost => simp [hl] at hv
    | nil => simp [hl] at hv
    | «at» b c =>
      simp only [hl] at hv
      obtain ⟨arr, TT, hc, h4, h5, h6⟩ := s.rel id _ _ hh hl
      refine ⟨b, 0, hv, s.lt hl, s.apart id b c hl, ?_⟩
      obtain ⟨h7, h8⟩ := h6 0 hk
      have h9 := Zck imm _ _ _ h8
      rw [Nat.zero_mul] at h9
      obtain ⟨vs, hvl, hvc, hvV, hv1⟩ := Vc_read h9
      exact Vc_of_Vs (hm X ι w vs s hvV) hvc hv1
theorem c_Values (l : List Int) : FC Tryz.prog 182 [u16s l] (.fn 205 [.ip [u16s l]]) := by
  refine Zao tok Tryz.func182 rfl (by decide +kernel) (Nat.le_of_ble_eq_true rfl) ?_
  (repeat' first | refine Zad ?_ | (refine Zab tok (by rfl) ?_; conv => whnf) | (refine Zah ?_; conv => whnf))
  exact ⟨_, rfl, Rel.fn (Rels.cons (Rel.bp rfl Nat.zero_lt_one (Rels.imm rfl)) Rels.nil)⟩
theorem c_Collect (l : List Int) (hl : l.length ≤ maxL) : FO Tryz.prog 203 [.fn 205 [.ip [u16s l]]] 1 l.length (fun i => [.int .u16 (l.getD i 0)]) := by
  refine Zei tok Tryz.func203 rfl (by decide +kernel) (Nat.le_of_ble_eq_true rfl) ?_
  (repeat' first | refine Zad ?_ | (refine Zab tok (by rfl) ?_; conv => whnf))
  refine .inl ⟨_, _, _, uG (QC.fo (rd := []) (c_AppendSeq l hl) (Ress.imms rfl) (.inl rfl) rfl), ?_⟩
  conv => whnf
  (repeat' (refine Zah ?_; conv => whnf))
  exact ⟨_, rfl, .rs rfl (Nat.le_refl _) rfl (fun _ _ => rfl)⟩
theorem c_Sorted (l : List Int) (hl : l.length ≤ maxL) : FO Tryz.prog 181 [.fn 205 [.ip [u16s l]]] 1 l.length (fun i => [.int .u16 ((Zdm l).getD i 0)]) := by
  refine Zei tok Tryz.func181 rfl (by decide +kernel) (Nat.le_of_ble_eq_true rfl) ?_
  (repeat' first | refine Zad ?_ | (refine Zab tok (by rfl) ?_; conv => whnf))
  refine .inl ⟨_, _, _, uG (QC.fo (rd := []) (c_Collect l hl) (Ress.imms rfl) (.inl rfl) rfl), ?_⟩
  conv => whnf
  (repeat' first | refine Zad ?_ | (refine Zab tok (by rfl) ?_; conv => whnf))
  have hS := c_Sort l.length l.toArray (by simp)
  refine .inr ⟨_, _, _, uG (QH.of (dead := []) [(i0, .old (5, 0, 0), arow l.length l.toArray)] hS rfl (.old rfl (BLe.row rfl (fun x h2 => ?_)) .nil) (.cons (.eq rfl) .nil) [(i0, (5, 0, 0))] rfl (.cons (b' := .row true 1 l.length (fun i => [.int .u16 ((Zdm l).getD i 0)])) rfl (BLe.row rfl (fun x h2 => ?_)) .nil) rfl), ?_⟩
  · show [AV.int .u16 (l.getD x 0)] = [.int .u16 l.toArray[x]!]
    rw [bang_list]
  · show [AV.int .u16 (Go.Sort.sort ltInt l.toArray)[x]!] = [.int .u16 ((Zdm l).getD x 0)]
    rw [← bang_list]; simp [Zdm]
  conv => whnf
  (repeat' first | refine Zad ?_ | (refine Zab tok (by rfl) ?_; conv => whnf) | (refine Zah ?_; conv => whnf))
  exact ⟨_, rfl, .rs rfl (Nat.le_refl _) rfl (fun _ _ => rfl)⟩
end Go.Proofs.YtoelbgjpmpoolaaGreat
namespace Go.Proofs.YtoelbgjpmpoolaaGreat
open Go Dv
set_option maxRecDepth 10000
set_option linter.unusedSimpArgs false
theorem sorted_perm (l : List Int) : (Zdm l).Perm l := by rw [sorted_eq]; exact List.mergeSort_perm l _
theorem sorted_asc (l : List Int) : ∀ i j, i < j → j < (Zdm l).length → (Zdm l).getD i 0 ≤ (Zdm l).getD j 0 := by
  have h : (Zdm l).Pairwise (fun x y => decide (x ≤ y) = true) := by
    rw [sorted_eq]
    exact List.pairwise_mergeSort (fun a b c h1 h2 => by simp at *; omega) (fun a b => by simp; omega) l
  intro i j hij hj
  rw [List.pairwise_iff_getElem] at h
  have := h i j (by omega) hj hij
  rw [Zbr _ (by omega), Zbr _ hj]; simpa using this
theorem runs_sorted (l : List Int) : runs (Zdm l).toArray l.length = l.length ↔ l.Nodup := by
  have h := runs_all (sorted_asc l) l.length (by rw [sorted_len]; omega)
  rw [h, ← (sorted_perm l).nodup_iff]
  constructor
  · intro hh; exact nodup_getD (fun i hi k hk => hh i (by rw [sorted_len] at hi; exact hi) k hk)
  · intro hn x hx y hy he
    exact not_nodup (by rw [sorted_len]; exact hx) hy he hn
theorem c_lpad : LPad := by
  intro m f b
  refine Zao tok Tryz.func138 rfl (by decide +kernel) (Nat.le_of_ble_eq_true rfl) ?_
  refine Zap 1 (fun hl => ?_)
  have hl0 : b.pad.catch_.length ≤ maxL := hl.2.2.1.1
  (repeat' first | refine Zad ?_ | (refine Zab tok (by rfl) ?_; conv => whnf) | (refine Zag ?_; conv => whnf) | refine Zaf rfl (fun hb => ?_) (fun hb => ?_))
  · refine .inl ⟨_, _, _, uG (QC.sc (rd := []) (c_samePad b.pad ⟨0, [], false, false⟩) (.cons (.imm rfl) (.cons (.agg (.cons (.imm rfl) (.cons .nsl (.cons (.imm rfl) (.cons (.imm rfl) .nil))))) .nil)) rfl), ?_⟩
    conv => whnf
    (repeat' (refine Zah ?_; conv => whnf))
    refine ⟨_, rfl, Rel.bool ?_⟩
    rw [decide_eq_decide]
    obtain ⟨land, ⟨d, c, al, cl⟩, _, _⟩ := b
    simp at hb
    simp [PadP, hb, and_assoc]
  refine .inl ⟨_, _, _, uG (QC.fc (c_Values b.pad.catch_) rfl), ?_⟩
  conv => whnf
  skip
  refine .inl ⟨_, _, _, uG (QC.fo (rd := []) (c_Sorted b.pad.catch_ hl0) (Ress.imms rfl) (.inl rfl) rfl), ?_⟩
  conv => whnf
  (repeat' first | refine Zad ?_ | (refine Za0 tok mix (by rfl) ?_; conv => whnf))
  refine .inl ⟨_, _, _, uG (QC.fc (c_place m f b.pad.dst) rfl), ?_⟩
  conv => whnf
  skip
  have hC := c_Compact b.pad.catch_.length (Zdm b.pad.catch_).toArray (by simp [sorted_len])
  refine .inl ⟨_, _, _, uG (QC.turn (i := (18, 0, 0)) (rd := [(18, 0, 0)]) (b := .row true 1 0 (fun _ => [])) (List.mem_singleton.2 rfl) (fun h' hh => QH.of (dead := []) [(i0, .old (18, 0, 0), arow b.pad.catch_.length (Zdm b.pad.catch_).toArray)] hC rfl (.old (hh _ (List.mem_singleton.2 rfl)) (BLe.row rfl (fun x h2 => ?_)) .nil) (.cons (.eq rfl) .nil) [(i0, (18, 0, 0))] rfl (.cons (b' := .row true 1 0 (fun _ => [])) rfl (BLe.rowW (Nat.zero_le _) (fun x h2 => absurd h2 (Nat.not_lt_zero x))) .nil) rfl)), ?_⟩
  · show [AV.int .u16 ((Zdm b.pad.catch_).getD x 0)] = [.int .u16 (Zdm b.pad.catch_).toArray[x]!]
    rw [bang_list]
  conv => whnf
  (repeat' (refine Zah ?_; conv => whnf))
  refine ⟨_, rfl, Rel.bool ?_⟩
  have h1 := runs_sorted b.pad.catch_
  generalize runs (Zdm b.pad.catch_).toArray b.pad.catch_.length = rr at h1 ⊢
  have hland : b.landing = true := by simpa using hb
  rw [Bool.eq_iff_iff]
  have e1 : ((rr : Int) = (b.pad.catch_.length : Int)) ↔ b.pad.catch_.Nodup := by rw [← h1]; omega
  have e2 : ((b.pad.catch_.length : Int) ≤ 8) ↔ b.pad.catch_.length ≤ 8 := by omega
  have e3 : (0 : Int) < (b.pad.catch_.length : Int) ↔ b.pad.catch_ ≠ [] := by
    rw [← List.length_pos_iff]; omega
  simp only [cond_eq_ite, Bool.if_false_right, Bool.if_true_left, Bool.and_eq_true, Bool.or_eq_true, decide_eq_true_eq, e1, e2, e3, PadP, hland, Bool.decide_eq_true]
  simp
  constructor
  · rintro ⟨⟨⟨h2, h3⟩, h4⟩, h5⟩
    refine ⟨h3, h4, h2, ?_⟩
    rcases h5 with (h5 | h5) | h5 <;> simp [h5]
  · rintro ⟨h3, h4, h2, h5⟩
    refine ⟨⟨⟨h2, h3⟩, h4⟩, ?_⟩
    rcases h5 with h5 | h5 | h5 <;> simp [h5]
end Go.Proofs.YtoelbgjpmpoolaaGreat
namespace Go.Proofs.YtoelbgjpmpoolaaGreat
open Go Dv
def leL (a b : List Bool) : Prop := ∀ i, a.getD i false = true → b.getD i false = true
theorem leL.refl (a : List Bool) : leL a a := fun _ h => h
theorem leL.trans {a b c : List Bool} (h : leL a b) (k : leL b c) : leL a c := fun i e => k i (h i e)
def cnt (a : List Bool) : Nat := a.count true
theorem cnt_le {a : List Bool} : cnt a ≤ a.length := List.count_le_length
theorem cnt_mono : ∀ {a b : List Bool}, a.length = b.length → leL a b → cnt a ≤ cnt b ∧ (cnt b ≤ cnt a → a = b)
  | [], [], _, _ => ⟨Nat.le_refl _, fun _ => rfl⟩
  | x :: a, y :: b, hl, h => by
      have hl' : a.length = b.length := by simpa using hl
      have h' : leL a b := fun i e => by have := h (i + 1) (by simpa using e); simpa using this
      have h0 : x = true → y = true := fun e => by have := h 0 (by simpa using e); simpa using this
      obtain ⟨h1, h2⟩ := cnt_mono hl' h'
      unfold cnt at h1 h2 ⊢
      cases x <;> cases y
      · refine ⟨by simpa using h1, fun k => ?_⟩
        rw [h2 (by simpa using k)]
      · refine ⟨by simp; omega, fun k => ?_⟩
        simp at k; omega
      · exact absurd (h0 rfl) (by simp)
      · refine ⟨by simpa using h1, fun k => ?_⟩
        rw [h2 (by simpa using k)]
theorem set_get {a : List Bool} {n i : Nat} (hn : n < a.length) : (a.set n true).getD i false = (decide (n = i) || a.getD i false) := by
  rw [getD_set]
  by_cases h : n = i
  · subst h; simp [hn]
  · simp [h]
theorem leL_set (a : List Bool) (n : Nat) : leL a (a.set n true) := fun i h => by
  by_cases hn : n < a.length
  · rw [set_get hn, h]; simp
  · rw [List.set_eq_of_length_le (by omega)]; exact h
theorem cnt_set {a : List Bool} {n : Nat} (hn : n < a.length) (h : a.getD n false = false) : cnt a < cnt (a.set n true) := by
  rcases Nat.lt_or_ge (cnt a) (cnt (a.set n true)) with k | k
  · exact k
  · have := (cnt_mono (by simp) (leL_set a n)).2 k
    rw [this, set_get hn] at h; simp at h
section
variable (len : Nat) (D : Nat → List Bool → Bool)
def MonoD : Prop := ∀ n a b, leL a b → D n a = true → D n b = true
structure Closed (a : List Bool) : Prop where
  sz : a.length = len
  cl : ∀ n, n < len → D n a = true → a.getD n false = true
def Zd9 (a : List Bool) : Prop := ∀ c, Closed len D c → leL a c
def nxt (a : List Bool) : List Bool := (List.range len).map fun n => a.getD n false || D n a
def iterN : Nat → List Bool → List Bool
  | 0, a => a
  | k + 1, a => iterN k (nxt len D a)
def lfp : List Bool := iterN len D (len + 1) (List.replicate len false)
variable {len D}
theorem nxt_len (a : List Bool) : (nxt len D a).length = len := by simp [nxt]
theorem nxt_get (a : List Bool) {i : Nat} (hi : i < len) : (nxt len D a).getD i false = (a.getD i false || D i a) := by simp [nxt, List.getD_eq_getElem?_getD, hi]
theorem getD_ge {a : List Bool} {i : Nat} (h : a.length ≤ i) : a.getD i false = false := by simp [List.getD_eq_getElem?_getD, h]
theorem nxt_le {a : List Bool} (hl : a.length = len) : leL a (nxt len D a) := fun i h => by
  by_cases hi : i < len
  · rw [nxt_get a hi, h]; rfl
  · rw [getD_ge (by omega)] at h; cases h
theorem nxt_beneath (hD : MonoD D) {a : List Bool} (h : Zd9 len D a) : Zd9 len D (nxt len D a) := fun c hc i e => by
  by_cases hi : i < len
  · rw [nxt_get a hi, Bool.or_eq_true] at e
    rcases e with e | e
    · exact h c hc i e
    · exact hc.cl i hi (hD i a c (h c hc) e)
  · rw [getD_ge (by rw [nxt_len]; omega)] at e; cases e
theorem nxt_same {a : List Bool} (hl : a.length = len) (h : cnt (nxt len D a) ≤ cnt a) : Closed len D a := by
  have e := (cnt_mono (by rw [hl, nxt_len]) (nxt_le hl)).2 h
  refine ⟨hl, fun n hn hd => ?_⟩
  rw [e, nxt_get a hn, hd]; simp
theorem nxt_closed {a : List Bool} (h : Closed len D a) : nxt len D a = a := by
  refine Zbk false (by rw [nxt_len, h.sz]) (fun i hi => ?_)
  rw [nxt_len] at hi
  rw [nxt_get a hi]
  cases e : D i a with
  | false => simp
  | true => rw [h.cl i hi e]; rfl
theorem iterN_ok (hD : MonoD D) : ∀ (k : Nat) (a : List Bool), a.length = len → Zd9 len D a → (iterN len D k a).length = len ∧ Zd9 len D (iterN len D k a) ∧ (Closed len D (iterN len D k a) ∨ k + cnt a ≤ cnt (iterN len D k a))
  | 0, a, hl, hb => ⟨hl, hb, .inr (by simp [iterN])⟩
  | k + 1, a, hl, hb => by
      have ih := iterN_ok hD k (nxt len D a) (nxt_len a) (nxt_beneath hD hb)
      simp only [iterN]
      refine ⟨ih.1, ih.2.1, ?_⟩
      by_cases hc : cnt (nxt len D a) ≤ cnt a
      · have h0 := nxt_same hl hc
        left
        have : ∀ k, iterN len D k a = a := fun k => by
          induction k with
          | zero => rfl
          | succ k ih => rw [iterN, nxt_closed h0, ih]
        rw [nxt_closed h0, this k]; exact h0
      · rcases ih.2.2 with h | h
        · exact .inl h
        · right; omega
theorem lfp_ok (hD : MonoD D) : Closed len D (lfp len D) ∧ Zd9 len D (lfp len D) := by
  have h0 : Zd9 len D (List.replicate len false) := fun c _ i e => by
    exfalso; simp only [List.getD_eq_getElem?_getD, List.getElem?_replicate] at e; split at e <;> simp at e
  have := iterN_ok hD (len + 1) (List.replicate len false) (by simp) h0
  refine ⟨?_, this.2.1⟩
  rcases this.2.2 with h | h
  · exact h
  · have h2 : cnt (iterN len D (len + 1) (List.replicate len false)) ≤ (iterN len D (len + 1) (List.replicate len false)).length := cnt_le
    rw [this.1] at h2; omega
theorem lfp_uniq (hD : MonoD D) {a : List Bool} (h1 : Closed len D a) (h2 : Zd9 len D a) : a = lfp len D := by
  obtain ⟨h3, h4⟩ := lfp_ok hD (len := len)
  refine Zbk false (by rw [h1.sz, h3.sz]) (fun i _ => ?_)
  have e1 := h2 _ h3 i
  have e2 := h4 _ h1 i
  cases hx : a.getD i false <;> cases hy : (lfp len D).getD i false
  · rfl
  · rw [e2 hy] at hx; cases hx
  · rw [e1 hx] at hy; cases hy
  · rfl
end
end Go.Proofs.YtoelbgjpmpoolaaGreat
namespace Go.Proofs.YtoelbgjpmpoolaaGreat
open Go Dv
set_option maxRecDepth 10000
set_option linter.unusedSimpArgs false
def isAt (is : List Bool) (n : Int) : Bool := is.getD n.toNat false
def callsB (b : Zbe) (is : List Bool) : Bool := b.ins.any fun x => bif decide (x.op = 11) then isAt is x.f else false
def outB (f : Func) (b : Zbe) (is : List Bool) : Bool := decide (b.fin.kind = 5) || (decide (b.fin.kind = 6) || ((bif decide (b.fin.kind = 4) then bif isAt is b.fin.f then !(f.blocks.getD b.fin.pad.toNat default).pad.all else false else false) || callsB b is))
structure OkB (nf nb : Nat) (b : Zbe) : Prop where
  fn : b.fin.kind = 4 → 0 ≤ b.fin.f ∧ b.fin.f < nf
  pad : b.fin.kind = 4 → 0 ≤ b.fin.pad ∧ b.fin.pad < nb
  ins : ∀ i, i < b.ins.length → (b.ins.getD i default).op = 11 → 0 ≤ (b.ins.getD i default).f ∧ (b.ins.getD i default).f < nf
theorem all_at {α : Type} (d : α) {p : α → Bool} {l : List α} (h : l.all p = true) {i : Nat} (hi : i < l.length) : p (l.getD i d) = true := by
  rw [List.all_eq_true] at h; rw [Zbr d hi]; exact h _ (List.getElem_mem hi)
theorem args_in {m : Zam} {f : Func} {n : Int} {l : List Int} (h : Zeh m f n l = true) : 0 ≤ n ∧ n < m.funcs.length := by
  unfold Zeh at h
  cases h1 : inn n m.funcs.length with
  | true => exact (Zac _ _).1 h1
  | false => rw [h1] at h; simp at h
theorem right_funcs {m : Zam} (h : Za6 m = true) {n : Nat} (hn : n < m.funcs.length) : Zed m (m.funcs.getD n default) = true := by
  unfold Za6 at h; rw [Bool.and_eq_true] at h
  exact all_at default h.2 hn
theorem Zeu {m : Zam} {f : Func} (h : Zed m f = true) {i : Nat} (hi : i < f.blocks.length) : blkB m f (f.blocks.getD i default) = true := by
  unfold Zed at h; rw [Bool.and_eq_true] at h
  exact all_at default h.2 hi
theorem blk_ok {m : Zam} {f : Func} {b : Zbe} (h : blkB m f b = true) : OkB m.funcs.length f.blocks.length b := by
  unfold blkB at h; rw [Bool.and_eq_true, decide_eq_true_eq] at h
  obtain ⟨⟨_, _, he⟩, hi⟩ := h
  have k4 : b.fin.kind = 4 → Zeh m f b.fin.f b.fin.args = true ∧ inn b.fin.pad f.blocks.length = true := fun k => by
    rcases he with h | h | h | h | h
    · omega
    · omega
    · omega
    · exact ⟨h.2.2.2.1, h.2.2.2.2.2.2.1⟩
    · omega
  refine ⟨fun k => args_in (k4 k).1, fun k => (Zac _ _).1 (k4 k).2, fun i hi' k => ?_⟩
  have := all_at default hi hi'
  rw [decide_eq_true_eq] at this
  rcases this with h | h | h | h | h | h | h
  · omega
  · omega
  · omega
  · omega
  · exact args_in h.2.2.2.2.2
  · omega
  · omega
theorem c_called1 (x : Ins) (is : List Bool) (h : x.op = 11 → 0 ≤ x.f ∧ x.f < is.length) : FC Tryz.prog 101 [.agg (Zbc x), .ip [Zfk is]] (.bool (bif decide (x.op = 11) then isAt is x.f else false)) := by
  refine Zao tok Tryz.func101 rfl (by decide +kernel) (Nat.le_of_ble_eq_true rfl) ?_
  ((repeat' first | refine Zad ?_ | (refine Zab tok (by rfl) ?_; conv => whnf) | (refine Zah ?_; conv => whnf) | (refine @And.intro (Zaa _ _ _ _) _ ?_ ?_; rotate_left; (conv => whnf); rotate_right)); all_goals (try ((guard_target = Zaa _ _ _ _); ((refine Za1 ?_; intro hgd; (conv at hgd => whnf))); (all_goals (try simp only [Zaa, kzz, kz11, kz12, maxL, Zac] at *)); all_goals omega)))
  exact ⟨_, rfl, Rel.imm rfl⟩
theorem c_called (b : Zbe) (is : List Bool) {nf nb : Nat} (h : OkB nf nb b) (hn : is.length = nf) : FC Tryz.prog 58 [.agg (Za5 b), Zfk is] (.bool (callsB b is)) := by
  refine Zao tok Tryz.func58 rfl (by decide +kernel) (Nat.le_of_ble_eq_true rfl) ?_
  (repeat' first | refine Zad ?_ | (refine Zab tok (by rfl) ?_; conv => whnf))
  refine .inl ⟨_, _, _, uG (QC.sc (rd := [(3, 0, 0)]) (c_HasInsM (g := 101) (cap := [.ip [Zfk is]]) (p := fun x => bif decide (x.op = 11) then isAt is x.f else false) rfl b.ins (fun i hi => c_called1 _ is (by subst hn; exact h.ins i hi))) (.cons (.imm rfl) (.cons (.fn (.cons (.ip rfl (List.mem_singleton.2 rfl) (by decide) (Ress.imms rfl)) .nil)) .nil)) rfl), ?_⟩
  conv => whnf
  (repeat' (refine Zah ?_; conv => whnf))
  exact ⟨_, rfl, Rel.imm rfl⟩
theorem c_Out1 (f : Func) (b : Zbe) (is : List Bool) {nf : Nat} (h : OkB nf f.blocks.length b) (hn : is.length = nf) : FC Tryz.prog 57 [.agg (Za3 f), .agg (Za5 b), Zfk is] (.bool (outB f b is)) := by
  refine Zao tok Tryz.func57 rfl (by decide +kernel) (Nat.le_of_ble_eq_true rfl) ?_
  have h1 := h.fn
  have h2 := h.pad
  subst hn
  ((repeat' first | refine Zad ?_ | (refine Zab tok (by rfl) ?_; conv => whnf) | refine Zai ?_ | (refine Zag ?_; conv => whnf) | (refine Zah ?_; conv => whnf) | refine Zaf rfl (fun hb => ?_) (fun hb => ?_) | (refine @And.intro (Zaa _ _ _ _) _ ?_ ?_; rotate_left; (conv => whnf); rotate_right)); all_goals (try ((guard_target = Zaa _ _ _ _); (first | refine Zae ?_ | (refine Za1 ?_; intro hgd; (conv at hgd => whnf))); (all_goals (try simp only [Zaa, kzz, kz11, kz12, maxL, Zac] at *)); all_goals omega)))
  all_goals (try (refine .inl ⟨_, _, _, uG (QC.fc (c_called b is h rfl) rfl), ?_⟩; conv => whnf))
  (repeat' (refine Zah ?_; conv => whnf))
  all_goals (refine ⟨_, rfl, Rel.bool ?_⟩)
  all_goals (unfold outB isAt)
  all_goals first
    | (exfalso; simp only [decide_eq_true_eq, decide_eq_false_iff_not] at *; omega)
    | (rename_i k5 k6 k4; rw [k5, k6, k4]; simp only [cond_true]; rw [hb]; rfl)
    | (simp only [decide_eq_true_eq, decide_eq_false_iff_not] at *; simp [*]; done)
theorem c_spread1 {g : FuncId} {cap : List AV} {r : Bool} (f : Func) (b : Zbe) (is : List Bool) (hi : Zbo cap = true) (hg : FC Tryz.prog g (.agg (Za3 f) :: .agg (Za5 b) :: Zfk is :: cap) (.bool r)) : FC Tryz.prog 99 [.agg (Za5 b), .ip [.fn g cap], .ip (Za3 f), .ip [Zfk is]] (.bool r) := by
  refine Zao tok Tryz.func99 rfl (by decide +kernel) (Nat.le_of_ble_eq_true rfl) ?_
  (repeat' first | refine Zad ?_ | (refine Zab tok (by rfl) ?_; conv => whnf) | (refine (Zbs _ _).mpr ?_; conv => whnf))
  refine .inl ⟨_, _, _, uG (QC.fc hg (Zfc (xs := [.agg (Za3 f), .agg (Za5 b), Zfk is]) rfl hi)), ?_⟩
  conv => whnf
  (repeat' (refine Zah ?_; conv => whnf))
  exact ⟨_, rfl, Rel.imm rfl⟩
def Zd0 (does : Func → Zbe → List Bool → Bool) (m : Zam) (n : Nat) (is : List Bool) : Bool := (m.funcs.getD n default).blocks.any fun b => does (m.funcs.getD n default) b is
def spreadL (does : Func → Zbe → List Bool → Bool) (m : Zam) : List Bool := if Za6 m = true then lfp m.funcs.length (Zd0 does m) else []
theorem c_spread {g : FuncId} {cap : List AV} (does : Func → Zbe → List Bool → Bool) (m : Zam) (hi : Zbo cap = true)
    (hg : Za6 m = true → ∀ n, n < m.funcs.length → ∀ i, i < (m.funcs.getD n default).blocks.length → ∀ is : List Bool, is.length = m.funcs.length →
      FC Tryz.prog g (.agg (Za3 (m.funcs.getD n default)) :: .agg (Za5 ((m.funcs.getD n default).blocks.getD i default)) :: Zfk is :: cap) (.bool (does (m.funcs.getD n default) ((m.funcs.getD n default).blocks.getD i default) is)))
    (hmono : ∀ f b, ∀ is js, leL is js → does f b is = true → does f b js = true) :
    FO Tryz.prog 56 [.agg (Zan m), .fn g cap] 1 (spreadL does m).length (fun i => [.bool ((spreadL does m).getD i false)]) := by
  refine Zei tok Tryz.func56 rfl (by decide +kernel) (Nat.le_of_ble_eq_true rfl) ?_
  refine Zap 0 (fun hl => ?_)
  have hl0 : m.funcs.length ≤ maxL := hl.1.1
  (repeat' first | refine Zad ?_ | (refine Zab tok (by rfl) ?_; conv => whnf) | (refine (Zbs _ _).mpr ?_; conv => whnf))
  refine .inl ⟨_, _, _, uG (QC.fc (c_lRight c_lpad m) rfl), ?_⟩
  conv => whnf
  ((repeat' first | refine Zad ?_ | (refine Zab tok (by rfl) ?_; conv => whnf) | refine Zai ?_ | (refine Zag ?_; conv => whnf) | (refine Zah ?_; conv => whnf) | refine Zaf rfl (fun hb => ?_) (fun hb => ?_) | (refine @And.intro (Zaa _ _ _ _) _ ?_ ?_; rotate_left; (conv => whnf); rotate_right)); all_goals (try ((guard_target = Zaa _ _ _ _); refine Zae ?_; (all_goals (try simp only [Zaa, kzz, kz11, kz12, maxL, Zac] at *)); all_goals omega)))
  · refine ⟨_, rfl, RelO.nsl' ?_⟩
    have : Za6 m = false := by simpa using hb
    simp [spreadL, this]
  have hr : Za6 m = true := by simpa using hb
  have hsp : spreadL does m = lfp m.funcs.length (Zd0 does m) := by simp [spreadL, hr]
  have hD : MonoD (Zd0 does m) := fun n a b h k => by
    unfold Zd0 at k ⊢
    rw [List.any_eq_true] at k ⊢
    obtain ⟨x, hx, hk⟩ := k
    exact ⟨x, hx, hmono _ _ _ _ h hk⟩
  rw [hsp]
  replace hg := hg hr
  generalize hDe : Zd0 does m = D at *
  clear hb
  refine Zau (fun q : Bool × List Bool => mkS [(2, .bp (2, 0, 0) 0), (3, .bp (3, 0, 0) 0), (5, .bp (5, 0, 0) 0), (6, .bool q.1)]
      [((2, 0, 0), Zal (Zan m)), ((3, 0, 0), Zal [.fn g cap]), ((5, 0, 0), .row false 1 1 (fun _ => [.rs (15, 0, 0) 1 0 m.funcs.length])), ((15, 0, 0), .row true 1 m.funcs.length (fun i => [.bool (q.2.getD i false)]))])
    (fun q => q.2.length = m.funcs.length ∧ Zd9 m.funcs.length D q.2 ∧ (q.1 = true ∨ Closed m.funcs.length D q.2)) (fun q => 2 * (m.funcs.length - cnt q.2) + (if q.1 = true then 1 else 0)) (true, List.replicate m.funcs.length false)
      ⟨by simp, fun c _ i e => by exfalso; simp only [List.getD_eq_getElem?_getD, List.getElem?_replicate] at e; split at e <;> simp at e, .inl rfl⟩ ?_ ?_
  · refine Weak.list [((2, 0, 0), .old (2, 0, 0), Zal (Zan m)), ((3, 0, 0), .old (3, 0, 0), Zal [.fn g cap]), ((5, 0, 0), .old (5, 0, 0), .row false 1 1 (fun _ => [.rs (15, 0, 0) 1 0 m.funcs.length])), ((15, 0, 0), .old (15, 0, 0), .row true 1 m.funcs.length (fun i => [.bool ((List.replicate m.funcs.length false).getD i false)]))] rfl (by rfl) ?_ (.old rfl (BLe.refl _) (.old rfl (BLe.boxI (by simp [Zbo, immD, hi])) (.old rfl (BLe.rowO rfl) (.old rfl (BLe.rowW (Nat.le_refl _) (fun z hz => ?_)) .nil))))
    · ((repeat' first | exact TLes.nil | refine TLes.cons (TLe.eq rfl) ?_); skip)
    · exact Wks.of (by simp [List.getD_eq_getElem?_getD, List.getElem?_replicate]; split <;> rfl)
  rintro ⟨more, is⟩ ⟨hlen, hbe, hmc⟩
  simp only at hlen hbe hmc ⊢
  (repeat' ((fail_if_success (show AWp _ _ _ (Code.region 8 _ _) _ _)); first | refine Zad ?_ | (refine Zab tok (by rfl) ?_; conv => whnf) | refine Zai ?_ | (refine Zag ?_; conv => whnf) | (refine Zav ?_; conv => whnf) | (refine Zah ?_; conv => whnf) | refine Zaf rfl (fun hb => ?_) (fun hb => ?_)))
  · have hm : more = true := hb
    subst hm
    refine Zau (fun q : Nat × Bool × List Bool => mkS [(2, .bp (2, 0, 0) 0), (3, .bp (3, 0, 0) 0), (5, .bp (5, 0, 0) 0), (6, .bool q.2.1), (18, funcss m.funcs), (19, iv m.funcs.length), (20, iv q.1)]
        [((2, 0, 0), Zal (Zan m)), ((3, 0, 0), Zal [.fn g cap]), ((5, 0, 0), .row false 1 1 (fun _ => [.rs (15, 0, 0) 1 0 m.funcs.length])), ((15, 0, 0), .row true 1 m.funcs.length (fun i => [.bool (q.2.2.getD i false)]))])
      (fun q => q.1 ≤ m.funcs.length ∧ q.2.2.length = m.funcs.length ∧ Zd9 m.funcs.length D q.2.2 ∧ ((q.2.1 = true ∧ cnt is < cnt q.2.2) ∨ (q.2.1 = false ∧ q.2.2 = is ∧ ∀ j, j < q.1 → D j is = true → is.getD j false = true)))
      (fun q => m.funcs.length - q.1) (0, false, is) ⟨Nat.zero_le _, hlen, hbe, .inr ⟨rfl, rfl, fun j hj => absurd hj (Nat.not_lt_zero j)⟩⟩ ?_ ?_
    · refine Weak.list [((2, 0, 0), .old (2, 0, 0), Zal (Zan m)), ((3, 0, 0), .old (3, 0, 0), Zal [.fn g cap]), ((5, 0, 0), .old (5, 0, 0), .row false 1 1 (fun _ => [.rs (15, 0, 0) 1 0 m.funcs.length])), ((15, 0, 0), .old (15, 0, 0), .row true 1 m.funcs.length (fun i => [.bool (is.getD i false)]))] rfl (by rfl) ?_ (.old rfl (BLe.refl _) (.old rfl (BLe.boxI (by simp [Zbo, immD, hi])) (.old rfl (BLe.refl _) (.old rfl (BLe.refl _) .nil))))
      ((repeat' first | exact TLes.nil | refine TLes.cons (TLe.eq rfl) ?_); skip)
    rintro ⟨n, mo, js⟩ ⟨hn, hl2, hb2, hcase⟩
    simp only at hn hl2 hb2 hcase ⊢
    ((repeat' ((fail_if_success (show AWp _ _ _ (Code.region 11 _ _) _ _)); first | refine Zad ?_ | (refine Zab tok (by rfl) ?_; conv => whnf) | refine Zai ?_ | (refine Zag ?_; conv => whnf) | (refine Zav ?_; conv => whnf) | refine Zaf rfl (fun hb => ?_) (fun hb => ?_) | (refine @And.intro (Zaa _ _ _ _) _ ?_ ?_; rotate_left; (conv => whnf); rotate_right))); all_goals (try ((guard_target = Zaa _ _ _ _); refine Zae ?_; (all_goals (try simp only [Zaa, kzz, kz11, kz12, maxL, Zac] at *)); all_goals omega)))
    · have hlt : n < m.funcs.length := by simp only [decide_eq_true_eq] at hb; omega
      have hnn : (n : Int).toNat = n := Int.toNat_natCast n
      have hrule : Zd0 does m n js = D n js := by rw [← hDe]
      refine .inl ⟨_, _, _, uG (QC.sc (rd := [(3, 0, 0), (8, 0, 0), (5, 0, 0), (15, 0, 0)]) (r := .bool (Zd0 does m n js)) (c_HasBlockM (g := 99) (cap := [.ip [.fn g cap], .ip (Za3 (m.funcs.getD n default)), .ip [Zfk js]]) (p := fun b => does (m.funcs.getD n default) b js) rfl (m.funcs.getD n default).blocks (fun i hi2 => c_spread1 _ _ js hi (hg n hlt i hi2 js hl2))) ?_ rfl), ?_⟩
      · refine .cons (.imm rfl) (.cons (.fn (.cons (.ip rfl (Zcx.1 rfl) Nat.zero_lt_one (Ress.imms (by simp [Zbo, immD, hi]))) (.cons (.ip rfl (Zcx.1 rfl) Nat.zero_lt_one (Ress.imms rfl)) (.cons (.ip rfl (Zcx.1 rfl) Nat.zero_lt_one (.cons (.row rfl (Zcx.1 rfl) rfl hl2.symm (fun _ _ => rfl)) .nil)) .nil)))) .nil)
      conv => whnf
      rw [hrule]
      ((repeat' first | (refine Zab tok (by rfl) ?_; conv => whnf) | (refine Zag ?_; conv => whnf) | refine Zaf rfl (fun hb => ?_) (fun hb => ?_) | (refine @And.intro (Zaa _ _ _ _) _ ?_ ?_; rotate_left; (conv => whnf); rotate_right)); all_goals (try ((guard_target = Zaa _ _ _ _); refine Zae ?_; (all_goals (try simp only [Zaa, kzz, kz11, kz12, maxL, Zac] at *)); all_goals omega)))
      · have hz : js.getD n false = false ∧ D n js = true := by
          rw [hnn, Nat.zero_add] at hb
          cases h1 : js.getD n false <;> cases h2 : D n js <;> rw [h1, h2] at hb <;> simp at hb ⊢
        refine ⟨(n + 1, true, js.set n true), ⟨by simp; omega, by simp [hl2], fun c hc i e => ?_, .inl ⟨rfl, ?_⟩⟩, by simp; omega, ?_⟩
        · simp only at e
          rw [set_get (by omega), Bool.or_eq_true] at e
          rcases e with e | e
          · have : n = i := by simpa using e
            subst this
            exact hc.cl n hlt (hD n js c (hb2 c hc) hz.2)
          · exact hb2 c hc i e
        · have := cnt_set (a := js) (n := n) (by omega) hz.1
          rcases hcase with h | h
          · simp only; omega
          · rw [h.2.1] at this; simp only; rw [h.2.1]; exact this
        refine Weak.list [((2, 0, 0), .old (2, 0, 0), Zal (Zan m)), ((3, 0, 0), .old (3, 0, 0), Zal [.fn g cap]), ((5, 0, 0), .old (5, 0, 0), .row false 1 1 (fun _ => [.rs (15, 0, 0) 1 0 m.funcs.length])), ((15, 0, 0), .old (15, 0, 0), .row true 1 m.funcs.length (fun i => [.bool ((js.set n true).getD i false)]))] rfl (by rfl) ?_ (.old rfl (BLe.refl _) (.old rfl (BLe.boxI (by simp [Zbo, immD, hi])) (.old rfl (BLe.refl _) (.old rfl (BLe.rowW (Nat.le_refl _) (fun z hz2 => Wks.of ?_)) .nil))))
        · ((repeat' first | exact TLes.nil | refine TLes.cons (TLe.eq rfl) ?_ | refine TLes.cons (TLe.int ?_) ?_); (all_goals first | ((try (simp only [Zaa, kzz, kz11, kz12, maxL, Zac] at *)); exact Zak (by omega) (by omega)) | skip))
        · exact upd_row' (fun b => [AV.bool b]) false js (by omega) (by simp) rfl z
      · refine ⟨(n + 1, mo, js), ⟨by simp; omega, hl2, hb2, ?_⟩, by simp; omega, ?_⟩
        · rcases hcase with h | ⟨h1, h2, h3⟩
          · exact .inl h
          · refine .inr ⟨h1, h2, fun j hj hd => ?_⟩
            by_cases e : j = n
            · subst e
              rw [hnn, Nat.zero_add, h2, hd] at hb
              cases h4 : is.getD j false with
              | true => rfl
              | false => rw [h4] at hb; simp at hb
            · exact h3 j (by simp at hj; omega) hd
        refine Weak.list [((2, 0, 0), .old (2, 0, 0), Zal (Zan m)), ((3, 0, 0), .old (3, 0, 0), Zal [.fn g cap]), ((5, 0, 0), .old (5, 0, 0), .row false 1 1 (fun _ => [.rs (15, 0, 0) 1 0 m.funcs.length])), ((15, 0, 0), .old (15, 0, 0), .row true 1 m.funcs.length (fun i => [.bool (js.getD i false)]))] rfl (by rfl) ?_ (.old rfl (BLe.refl _) (.old rfl (BLe.boxI (by simp [Zbo, immD, hi])) (.old rfl (BLe.refl _) (.old rfl (BLe.refl _) .nil))))
        ((repeat' first | exact TLes.nil | refine TLes.cons (TLe.eq rfl) ?_ | refine TLes.cons (TLe.int ?_) ?_); (all_goals first | ((try (simp only [Zaa, kzz, kz11, kz12, maxL, Zac] at *)); exact Zak (by omega) (by omega)) | skip))
    · have hn2 : n = m.funcs.length := by simp only [decide_eq_false_iff_not] at hb; omega
      refine ⟨(mo, js), ⟨hl2, hb2, ?_⟩, ?_, ?_⟩
      · rcases hcase with h | ⟨h1, h2, h3⟩
        · exact .inl h.1
        · exact .inr ⟨hl2, fun j hj hd => by simp only at hd ⊢; rw [h2] at hd ⊢; exact h3 j (by omega) hd⟩
      · have hle := cnt_le (a := js)
        rcases hcase with ⟨h1, h2⟩ | ⟨h1, h2, h3⟩
        · simp only [h1, if_true]; omega
        · simp only [h1, h2]; simp
      refine Weak.list [((2, 0, 0), .old (2, 0, 0), Zal (Zan m)), ((3, 0, 0), .old (3, 0, 0), Zal [.fn g cap]), ((5, 0, 0), .old (5, 0, 0), .row false 1 1 (fun _ => [.rs (15, 0, 0) 1 0 m.funcs.length])), ((15, 0, 0), .old (15, 0, 0), .row true 1 m.funcs.length (fun i => [.bool (js.getD i false)]))] rfl (by rfl) ?_ (.old rfl (BLe.refl _) (.old rfl (BLe.boxI (by simp [Zbo, immD, hi])) (.old rfl (BLe.refl _) (.old rfl (BLe.refl _) .nil))))
      ((repeat' first | exact TLes.nil | refine TLes.cons (TLe.eq rfl) ?_); skip)
  · have hm : more = false := by simpa using hb
    have hcl : Closed m.funcs.length D is := by rcases hmc with h | h; (rw [hm] at h; cases h); exact h
    have he := lfp_uniq hD hcl hbe
    skip
    refine ⟨_, rfl, .rs rfl (Nat.le_refl _) ?_ (fun _ _ => ?_)⟩
    · rw [← he, hlen]
    · rw [← he]
end Go.Proofs.YtoelbgjpmpoolaaGreat
namespace Go.Proofs.YtoelbgjpmpoolaaGreat
open Go Dv
set_option maxRecDepth 10000
set_option linter.unusedSimpArgs false
theorem Zc8 {m : Zam} (h : Za6 m = true) {n : Nat} (hn : n < m.funcs.length) : Zed m (m.funcs.getD n default) = true := by
  unfold Za6 at h; rw [Bool.and_eq_true] at h
  exact List.all_eq_true.1 h.2 _ (Zb4 default hn)
theorem okF_fun {m : Zam} {f : Za9} (hr : Za6 m = true) (h : OkF m f) : Zed m (Zcp m f) = true := Zc8 hr (by have := h.f0; have := h.f1; omega)
theorem okF_blk {m : Zam} {f : Za9} (hr : Za6 m = true) (h : OkF m f) {q : Int} (q0 : 0 ≤ q) (q1 : q < (Zcp m f).blocks.length) : blkB m (Zcp m f) ((Zcp m f).blocks.getD q.toNat default) = true := Zeu (okF_fun hr h) (by omega)
theorem Zfw {m : Zam} {f : Za9} (hr : Za6 m = true) (h : OkF m f) : (Za2 m f).ins.length ≤ 64 ∧ EndP m (Zcp m f) (Za2 m f).fin := by
  have := okF_blk hr h h.b0 h.b1
  unfold blkB at this
  rw [Bool.and_eq_true, decide_eq_true_eq] at this
  exact ⟨this.1.1, this.1.2.2⟩
theorem okF_pad {m : Zam} {f : Za9} (hr : Za6 m = true) (h : OkF m f) (hk : (Za2 m f).fin.kind = 4) :
    (0 ≤ (Za2 m f).fin.pad ∧ (Za2 m f).fin.pad < (Zcp m f).blocks.length) ∧ ((Zcp m f).blocks.getD (Za2 m f).fin.pad.toNat default).landing = true ∧
    0 ≤ ((Zcp m f).blocks.getD (Za2 m f).fin.pad.toNat default).pad.dst ∧ ((Zcp m f).blocks.getD (Za2 m f).fin.pad.toNat default).pad.dst < f.regs.length := by
  have he := (Zfw hr h).2
  have h4 : inn (Za2 m f).fin.pad (Zcp m f).blocks.length = true ∧ ((Zcp m f).blocks.getD (Za2 m f).fin.pad.toNat default).landing = true := by
    rcases he with h | h | h | h | h
    · omega
    · omega
    · omega
    · exact ⟨h.2.2.2.2.2.2.1, h.2.2.2.2.2.2.2⟩
    · omega
  obtain ⟨h5, h6⟩ := h4
  rw [Zac] at h5
  have hp := okF_blk hr h h5.1 h5.2
  unfold blkB at hp
  rw [Bool.and_eq_true, decide_eq_true_eq] at hp
  have hP := hp.1.2.1
  refine ⟨h5, h6, ?_⟩
  unfold PadP at hP
  rcases hP with h7 | h7
  · rw [h6] at h7; exact absurd h7.1 (by simp)
  · have := h7.2.2.2.1
    rw [Zac] at this
    rw [h.regs]; exact this
def Zdj (p : Nat → Bool) : Nat → Nat
  | 0 => 0
  | n + 1 => if p (n + 1) = true then n + 1 else Zdj p n
theorem Zfg {p : Nat → Bool} : ∀ {n : Nat}, (∃ i, i ≤ n ∧ p i = true) → p (Zdj p n) = true ∧ Zdj p n ≤ n
  | 0, ⟨i, hi, h⟩ => by have : i = 0 := by omega
                        subst this; exact ⟨h, Nat.le_refl _⟩
  | n + 1, ⟨i, hi, h⟩ => by
      unfold Zdj
      split
      · rename_i h2; exact ⟨h2, Nat.le_refl _⟩
      · rename_i h2
        have := Zfg (p := p) (n := n) ⟨i, by
          rcases Nat.lt_or_ge n i with h3 | h3
          · have : i = n + 1 := by omega
            subst this; exact absurd h h2
          · exact h3, h⟩
        exact ⟨this.1, by omega⟩
theorem downK_no {p : Nat → Bool} {n : Nat} (h : ∃ i, i ≤ n ∧ p i = true) (hn : ¬ p n = true) : 0 < n ∧ Zdj p n = Zdj p (n - 1) := by
  cases n with
  | zero => obtain ⟨i, hi, h⟩ := h; have : i = 0 := by omega
            subst this; exact absurd h hn
  | succ n => refine ⟨by omega, ?_⟩; show (if p (n + 1) = true then n + 1 else Zdj p n) = _; rw [if_neg hn]; rfl
theorem downK_yes {p : Nat → Bool} {n : Nat} (hn : p n = true) : Zdj p n = n := by
  cases n with
  | zero => rfl
  | succ n => show (if p (n + 1) = true then n + 1 else _) = _; rw [if_pos hn]
def Zbl (m : Zam) (l : List Za9) (w : Int) (c : Bool) (i : Nat) : Bool := Zfj m (l.getD i default) w c
def Zel (s : Mach) (k : Nat) : Mach := { s with stack := s.stack.take k }
def Zb7 (m : Zam) (s : Mach) (w : Int) : Mach :=
  let l := (popM s).stack
  if (List.range l.length).any (Zbl m l w false) = true then
    let k := Zdj (Zbl m l w true) (l.length - 1)
    Zb6 (Zel (popM s) (k + 1)) (landF m (l.getD k default) (Za2 m (l.getD k default)).fin.pad w)
  else endM (popM s) 2 w
theorem Zfi {m : Zam} {f : Za9} {w : Int} (h : Zfj m f w false = true) : Zfj m f w true = true := by
  unfold Zfj at h ⊢
  simp only [Bool.false_and, Bool.or_false, Bool.and_eq_true, Bool.true_and, Bool.or_eq_true] at h ⊢
  exact ⟨h.1, h.2.1, .inl h.2.2⟩
theorem wk_take {l : List Za9} {n k : Nat} (hn : n = k) (hk : k ≤ l.length) : Wk (.sl 5 n (fun i => (fun i => Zax (l.getD i default)) (Int.toNat 0 + i))) (frs (l.take k)) := by
  subst hn
  refine .sl (by simp; omega) (fun i hi => ?_)
  show Zax (l.getD (Int.toNat 0 + i) default) = Zax ((l.take n).getD i default)
  rw [show Int.toNat 0 + i = i from Nat.zero_add i, Zb2 _ hi]
set_option maxHeartbeats 4000000 in
theorem c_thrown (m : Zam) (s : Mach) (w : Int) (hr : Za6 m = true) (h : 0 < s.stack.length) (hF : ∀ i, i < s.stack.length → OkF m (s.stack.getD i default)) :
    FC Tryz.prog 109 [.agg (Zan m), .agg (Zas s), .int .u16 w] (.agg (Zas (Zb7 m s w))) := by
  refine Zao tok Tryz.func109 rfl (by decide +kernel) (Nat.le_of_ble_eq_true rfl) ?_
  refine Zap 1 (fun hl => ?_)
  have hl0 : s.stack.length ≤ maxL := hl.1.1
  have hmx : maxL = 4294967296 := rfl
  clear hl
  have hq : (IntKind.i64.wrap ((s.stack.length : Int) - 1)).toNat = s.stack.length - 1 := by rw [Zak (by omega) (by omega)]; omega
  have hpl := Zdd (s := s)
  have hF2 : ∀ i, i < (popM s).stack.length → OkF m ((popM s).stack.getD i default) := fun i hi => by
    rw [show (popM s).stack.getD i default = s.stack.getD i default from Zb2 _ (by omega)]
    exact hF i (by omega)
  have hC : ∀ i, i < (popM s).stack.length → ∀ f, f = (popM s).stack.getD i default → ∀ c, FC Tryz.prog 152 [.agg (Zan m), .agg (Zax f), .int .u16 w, .bool c] (.bool (Zbl m (popM s).stack w c i)) := fun i hi f e c => by
    rw [e]; exact c_catcher m _ w c (hF2 i hi) (fun hk => (okF_pad hr (hF2 i hi) hk).1)
  ((repeat' ((fail_if_success (show AWp _ _ _ (Code.region 2 _ _) _ _)); first | refine Zad ?_ | (refine Zab tok (by rfl) ?_; conv => whnf) | (refine @And.intro (Zaa _ _ _ _) _ ?_ ?_; rotate_left; (conv => whnf); rotate_right))); all_goals (try ((guard_target = Zaa _ _ _ _); refine Zae ?_; (all_goals (try simp only [Zaa, kzz, kz11, kz12, maxL, Zac] at *)); (all_goals (try (simp (disch := omega) only [Zak]))); all_goals omega)))
  (repeat' ((fail_if_success (show AWp _ _ _ (Code.region 3 _ _) _ _)); first | (refine Zab tok (by rfl) ?_; conv => whnf) | refine Zai ?_))
  refine Zau (fun i : Nat => mkS [(2, .int .u16 w), (3, .bp (3, 0, 0) 0), (4, .bp (4, 0, 0) 0), (6, .bp (6, 0, 0) 0), (7, iv i)] [((3, 0, 0), Zal (Zan m)), ((4, 0, 0), Zal (Zas (popM s))), ((6, 0, 0), Zal Zcs)]) (fun i => i ≤ (popM s).stack.length ∧ ∀ j, j < i → Zbl m (popM s).stack w false j = false) (fun i => (popM s).stack.length - i) 0 ⟨Nat.zero_le _, fun j h => absurd h (Nat.not_lt_zero j)⟩ ?_ ?_
  · refine Weak.list [((3, 0, 0), .old (3, 0, 0), Zal (Zan m)), ((4, 0, 0), .old (4, 0, 0), Zal (Zas (popM s))), ((6, 0, 0), .old (6, 0, 0), Zal Zcs)] rfl (by rfl) ?_ (.old rfl (BLe.refl _) (.old rfl (BLe.rowW (Nat.le_refl _) (ltS (.cons (wk_pop (by rw [hq]; simp)) (Wks.refl _)) lt0)) (.old rfl (BLe.refl _) .nil)))
    ((repeat' first | exact TLes.nil | refine TLes.cons (TLe.eq rfl) ?_); skip)
  rintro i ⟨hi, hno⟩
  (repeat' ((fail_if_success (show AWp _ _ _ (Code.region 5 _ _) _ _)); first | refine Zad ?_ | (refine Zab tok (by rfl) ?_; conv => whnf) | refine Zai ?_ | (refine Zag ?_; conv => whnf) | (refine Zav ?_; conv => whnf) | refine Zaf rfl (fun hb => ?_) (fun hb => ?_)))
  · have hlt : i < (popM s).stack.length := by simp only [decide_eq_true_eq] at hb; omega
    clear hb
    have hiz : (i : Int).toNat = i := by simp
    ((repeat' first | (refine Za0 tok mix (by rfl) ?_; conv => whnf) | (refine @And.intro (Zaa _ _ _ _) _ ?_ ?_; rotate_left; (conv => whnf); rotate_right)); all_goals (try ((guard_target = Zaa _ _ _ _); refine Zae ?_; (all_goals (try simp only [Zaa, kzz, kz11, kz12, maxL, Zac] at *)); all_goals omega)))
    refine .inl ⟨_, _, _, uG (QC.fc (hC i hlt ((popM s).stack.getD (i : Int).toNat default) (by rw [hiz]) false) rfl), ?_⟩
    conv => whnf
    (repeat' ((fail_if_success (show AWp _ _ _ (Code.region 6 _ _) _ _)); first | refine Zad ?_ | (refine Zab tok (by rfl) ?_; conv => whnf) | (refine Zag ?_; conv => whnf) | refine Zaf rfl (fun hb => ?_) (fun hb => ?_)))
    · have hex : ∃ j, j ≤ (popM s).stack.length - 1 ∧ Zbl m (popM s).stack w true j = true := ⟨i, by omega, Zfi hb⟩
      have hany : (List.range (popM s).stack.length).any (Zbl m (popM s).stack w false) = true := List.any_eq_true.2 ⟨i, List.mem_range.2 hlt, hb⟩
      clear hb
      have hgen : ∃ K, Zdj (Zbl m (popM s).stack w true) ((popM s).stack.length - 1) = K := ⟨_, rfl⟩
      obtain ⟨K, hK⟩ := hgen
      obtain ⟨hK1, hK2⟩ := Zfg hex
      rw [hK] at hK1 hK2
      have hT : Zb7 m s w = Zb6 (Zel (popM s) (K + 1)) (landF m ((popM s).stack.getD K default) (Za2 m ((popM s).stack.getD K default)).fin.pad w) := by
        unfold Zb7; rw [if_pos hany, hK]
      rw [hT]
      have hKl : K < (popM s).stack.length := by omega
      have hkOk := hF2 K hKl
      have hk4 : (Za2 m ((popM s).stack.getD K default)).fin.kind = 4 := by
        unfold Zbl Zfj at hK1
        simp only [Bool.and_eq_true, decide_eq_true_eq] at hK1
        exact hK1.2.1
      obtain ⟨⟨g1, g2⟩, g3, g4, g5⟩ := okF_pad hr hkOk hk4
      have hL := c_Land m ((popM s).stack.getD K default) (Za2 m ((popM s).stack.getD K default)).fin.pad w hkOk.f0 hkOk.f1 g1 g2 g3 ⟨g4, g5⟩
      have htl : (Zel (popM s) (K + 1)).stack.length = K + 1 := by simp [Zel]; omega
      have hwi := fun f => Ze4 (Zel (popM s) (K + 1)) f (by omega)
      have htk : (Zel (popM s) (K + 1)).stack.getD K default = (popM s).stack.getD K default := Zb2 _ (by omega)
      (repeat' ((fail_if_success (show AWp _ _ _ (Code.region 7 _ _) _ _)); first | refine Zad ?_ | (refine Zab tok (by rfl) ?_; conv => whnf) | refine Zai ?_))
      refine Zau (fun n : Nat => mkS [(2, .int .u16 w), (3, .bp (3, 0, 0) 0), (4, .bp (4, 0, 0) 0), (6, .bp (6, 0, 0) 0), (7, iv i), (8, iv n)] [((3, 0, 0), Zal (Zan m)), ((4, 0, 0), Zal (Zas (popM s))), ((6, 0, 0), Zal Zcs)]) (fun n => n ≤ (popM s).stack.length - 1 ∧ Zdj (Zbl m (popM s).stack w true) n = K ∧ ∃ j, j ≤ n ∧ Zbl m (popM s).stack w true j = true) (fun n => n) ((popM s).stack.length - 1) ⟨Nat.le_refl _, hK, hex⟩ ?_ ?_
      · refine Weak.list [((3, 0, 0), .old (3, 0, 0), Zal (Zan m)), ((4, 0, 0), .old (4, 0, 0), Zal (Zas (popM s))), ((6, 0, 0), .old (6, 0, 0), Zal Zcs)] rfl (by rfl) ?_ (.old rfl (BLe.refl _) (.old rfl (BLe.refl _) (.old rfl (BLe.refl _) .nil)))
        ((repeat' first | exact TLes.nil | refine TLes.cons (TLe.eq rfl) ?_ | refine TLes.cons (TLe.int ?_) ?_); (all_goals first | ((try (simp only [Zaa, kzz, kz11, kz12, maxL, Zac] at *)); (simp (disch := omega) only [Zak]; omega)) | skip))
      rintro n ⟨hn1, hn2, hn3⟩
      have hnz : (n : Int).toNat = n := by simp
      ((repeat' first | refine Zad ?_ | (refine Za0 tok mix (by rfl) ?_; conv => whnf) | (refine @And.intro (Zaa _ _ _ _) _ ?_ ?_; rotate_left; (conv => whnf); rotate_right)); all_goals (try ((guard_target = Zaa _ _ _ _); refine Zae ?_; (all_goals (try simp only [Zaa, kzz, kz11, kz12, maxL, Zac] at *)); all_goals omega)))
      refine .inl ⟨_, _, _, uG (QC.fc (hC n (by omega) ((popM s).stack.getD (n : Int).toNat default) (by rw [hnz]) true) rfl), ?_⟩
      conv => whnf
      (repeat' ((fail_if_success (show AWp _ _ _ (Code.region 8 _ _) _ _)); (fail_if_success (show AWp _ _ _ (Code.region 9 _ _) _ _)); first | refine Zad ?_ | refine Zai ?_ | (refine Zag ?_; conv => whnf) | (refine Zav ?_; conv => whnf) | refine Zaf rfl (fun hb => ?_) (fun hb => ?_)))
      · have hnp : ¬ Zbl m (popM s).stack w true n = true := by simpa using hb
        clear hb
        obtain ⟨e1, e2⟩ := downK_no hn3 hnp
        (repeat' (refine Zab tok (by rfl) ?_; conv => whnf))
        refine ⟨n - 1, ⟨by omega, by rw [← e2]; exact hn2, ?_⟩, by omega, ?_⟩
        · obtain ⟨j, j1, j2⟩ := hn3
          refine ⟨j, ?_, j2⟩
          rcases Nat.lt_or_ge j n with h3 | h3
          · omega
          · have : j = n := by omega
            subst this; exact absurd j2 hnp
        · refine Weak.list [((3, 0, 0), .old (3, 0, 0), Zal (Zan m)), ((4, 0, 0), .old (4, 0, 0), Zal (Zas (popM s))), ((6, 0, 0), .old (6, 0, 0), Zal Zcs)] rfl (by rfl) ?_ (.old rfl (BLe.refl _) (.old rfl (BLe.refl _) (.old rfl (BLe.refl _) .nil)))
          ((repeat' first | exact TLes.nil | refine TLes.cons (TLe.eq rfl) ?_ | refine TLes.cons (TLe.int ?_) ?_); (all_goals first | ((try (simp only [Zaa, kzz, kz11, kz12, maxL, Zac] at *)); (simp (disch := omega) only [Zak]; omega)) | skip))
      · have hnp : Zbl m (popM s).stack w true n = true := by simpa using hb
        clear hb
        have hnK : n = K := by rw [← hn2, downK_yes hnp]
        subst hnK
        have hw1 : IntKind.i64.wrap ((n : Int) + 1) = (n : Int) + 1 := Zak (by omega) (by omega)
        ((repeat' ((fail_if_success (show AWp _ _ _ (Code.region 10 _ _) _ _)); first | refine Zad ?_ | (refine Zab tok (by rfl) ?_; conv => whnf) | (refine @And.intro (Zaa _ _ _ _) _ ?_ ?_; rotate_left; (conv => whnf); rotate_right))); all_goals (try ((guard_target = Zaa _ _ _ _); refine Zae ?_; (all_goals (try simp only [Zaa, kzz, kz11, kz12, maxL, Zac] at *)); (all_goals (try (simp (disch := omega) only [Zak]))); all_goals omega)))
        refine Zay (Weak.list (tl := [(2, .int .u16 w), (3, .bp (3, 0, 0) 0), (4, .bp (4, 0, 0) 0), (6, .bp (6, 0, 0) 0), (7, iv i), (8, iv n)]) [((3, 0, 0), .old (3, 0, 0), Zal (Zan m)), ((4, 0, 0), .old (4, 0, 0), Zal (Zas (Zel (popM s) (n + 1)))), ((6, 0, 0), .old (6, 0, 0), Zal Zcs)] rfl (by rfl) ?_ (.old rfl (BLe.refl _) (.old rfl (BLe.rowW (Nat.le_refl _) (ltS (.cons (wk_take (by rw [hw1]; simp) (by omega)) (Wks.refl _)) lt0)) (.old rfl (BLe.refl _) .nil)))) ?_
        · ((repeat' first | exact TLes.nil | refine TLes.cons (TLe.eq rfl) ?_); skip)
        ((repeat' ((fail_if_success (show AWp _ _ _ (Code.region 11 _ _) _ _)); first | refine Zad ?_ | (refine Zab tok (by rfl) ?_; conv => whnf) | (refine @And.intro (Zaa _ _ _ _) _ ?_ ?_; rotate_left; (conv => whnf); rotate_right))); all_goals (try ((guard_target = Zaa _ _ _ _); refine Zae ?_; (all_goals (try simp only [Zaa, kzz, kz11, kz12, maxL, Zac] at *)); all_goals omega)))
        have hgen : ∃ t, (popM s).stack.getD n default = t := ⟨_, rfl⟩
        obtain ⟨t, hte⟩ := hgen
        rw [hte] at htk hL hkOk ⊢
        refine Zay (Weak.list (tl := [(2, .int .u16 w), (3, .bp (3, 0, 0) 0), (4, .bp (4, 0, 0) 0), (6, .bp (6, 0, 0) 0), (7, iv i), (8, iv n), (9, .bp (9, 0, 0) 0)]) [((3, 0, 0), .old (3, 0, 0), Zal (Zan m)), ((4, 0, 0), .old (4, 0, 0), Zal (Zas (Zel (popM s) (n + 1)))), ((6, 0, 0), .old (6, 0, 0), Zal Zcs), ((9, 0, 0), .old (9, 0, 0), .row true 5 1 (fun _ => Zax t))] rfl (by rfl) ?_ (.old rfl (BLe.refl _) (.old rfl (BLe.refl _) (.old rfl (BLe.refl _) (.old rfl (BLe.rowW (Nat.le_refl _) (ltS (Wks.of (by rw [← htk, hnz]; rfl)) lt0)) .nil))))) ?_
        · ((repeat' first | exact TLes.nil | refine TLes.cons (TLe.eq rfl) ?_); skip)
        have f0 := hkOk.f0
        have f1 := hkOk.f1
        have b0 := hkOk.b0
        have b1 : t.block < (m.funcs.getD t.f.toNat default).blocks.length := hkOk.b1
        ((repeat' first | (refine Za0 tok mix (by rfl) ?_; conv => whnf) | (refine @And.intro (Zaa _ _ _ _) _ ?_ ?_; rotate_left; (conv => whnf); rotate_right)); all_goals (try ((guard_target = Zaa _ _ _ _); refine Zae ?_; (all_goals (try simp only [Zaa, kzz, kz11, kz12, maxL, Zac] at *)); all_goals omega)))
        refine .inl ⟨_, _, _, uG (QC.fc hL rfl), ?_⟩
        conv => whnf
        (repeat' first | refine Zad ?_ | (refine Zab tok (by rfl) ?_; conv => whnf))
        refine .inl ⟨_, _, _, uG (QC.fc (hwi (landF m t (Za2 m t).fin.pad w)) rfl), ?_⟩
        conv => whnf
        (repeat' (refine Zah ?_; conv => whnf))
        exact ⟨_, rfl, Rel.agg (Rels.imm rfl)⟩
    · refine ⟨i + 1, ⟨hlt, fun j hj => ?_⟩, by omega, ?_⟩
      · by_cases e : j = i
        · rw [e]; exact hb
        · exact hno j (by omega)
      refine Weak.list [((3, 0, 0), .old (3, 0, 0), Zal (Zan m)), ((4, 0, 0), .old (4, 0, 0), Zal (Zas (popM s))), ((6, 0, 0), .old (6, 0, 0), Zal Zcs)] rfl (by rfl) ?_ (.old rfl (BLe.refl _) (.old rfl (BLe.refl _) (.old rfl (BLe.refl _) .nil)))
      ((repeat' first | exact TLes.nil | refine TLes.cons (TLe.eq rfl) ?_ | refine TLes.cons (TLe.int ?_) ?_); (all_goals first | ((try (simp only [Zaa, kzz, kz11, kz12, maxL, Zac] at *)); exact Zak (by omega) (by omega)) | skip))
  · have hil : i = (popM s).stack.length := by simp only [decide_eq_false_iff_not] at hb; omega
    clear hb
    subst hil
    have hT : Zb7 m s w = endM (popM s) 2 w := by
      unfold Zb7
      rw [if_neg (fun h => ?_)]
      rw [List.any_eq_true] at h
      obtain ⟨j, hj, h2⟩ := h
      rw [List.mem_range] at hj
      rw [hno j hj] at h2; cases h2
    rw [hT]
    skip
    refine .inl ⟨_, _, _, uG (QC.fc (c_ended (popM s) 2 w) rfl), ?_⟩
    conv => whnf
    (repeat' (refine Zah ?_; conv => whnf))
    exact ⟨_, rfl, Rel.agg (Rels.imm rfl)⟩
end Go.Proofs.YtoelbgjpmpoolaaGreat
namespace Go.Proofs.YtoelbgjpmpoolaaGreat
open Go Dv
set_option maxRecDepth 10000
set_option linter.unusedSimpArgs false
def goOn (f : Za9) : Za9 := { f with at_ := f.at_ + 1 }
def cellN (f : Za9) (x : Ins) : Nat := (f.regs.getD x.a.toNat 0).toNat
def insM (m : Zam) (s : Mach) (f : Za9) (x : Ins) : Mach :=
  if x.op = 11 then Zcj m s x.f x.args
  else if x.op ≤ 8 then (if (reckR f x).2 = true then Zb6 s (reckR f x).1 else endM s 3 0)
  else if x.op = 9 then (if 16 ≤ f.regs.getD x.a.toNat 0 then endM s 4 0 else Zb6 s (goOn (frW f x.dst (s.cells.getD (cellN f x) 0))))
  else if x.op = 10 then (if 16 ≤ f.regs.getD x.a.toNat 0 then endM s 4 0 else Zb6 { s with cells := s.cells.set (cellN f x) (f.regs.getD x.b.toNat 0) } (goOn f))
  else if x.op = 12 then Zb6 { s with events := s.events ++ [f.regs.getD x.a.toNat 0] } (goOn f)
  else if x.op = 13 then (if s.inputs.length = 0 then endM s 6 0 else Zb6 { s with inputs := s.inputs.drop 1, events := s.events ++ [s.inputs.getD 0 0 + 65536] } (goOn (frW f x.dst (s.inputs.getD 0 0))))
  else Zb6 s (goOn f)
def evM (s : Mach) (e : Int) : Mach := { s with events := s.events ++ [e] }
theorem appI {k z : Nat} {l : List Int} {v v' : Int} {F : Nat → List AV} (hk : k = l.length) (hz : z < l.length + 1) (hv : v' = v) (hF : ∀ i, i < l.length → F i = [iv (l.getD i 0)]) : appR k F (fun i => rowOf 1 [iv v'] (0 + i)) z = [iv ((l ++ [v]).getD z 0)] := by
  subst hk; subst hv
  unfold appR
  by_cases e : z < l.length
  · rw [show Nat.blt z l.length = true from by rw [Nat.blt_eq]; exact e, cond_true, hF z e]
    simp [List.getD_eq_getElem?_getD, List.getElem?_append_left e]
  · have e2 : z = l.length := by omega
    subst e2
    rw [show Nat.blt l.length l.length = false from by rw [Bool.eq_false_iff]; intro h; rw [Nat.blt_eq] at h; omega, cond_false, Nat.sub_self]
    have e4 : (l ++ [v']).getD l.length 0 = v' := by simp [List.getD_eq_getElem?_getD]
    rw [e4]; rfl
abbrev FCins (m : Zam) (s : Mach) (f : Za9) (x : Ins) : Prop := FC Tryz.prog 106 [.agg (Zan m), .agg (Zas s), .agg (Zax f), .agg (Zbc x)] (.agg (Zas (insM m s f x)))
theorem c_ins11 (m : Zam) (s : Mach) (f : Za9) (x : Ins) (ho : x.op = 11) (hc : FC Tryz.prog 108 [.agg (Zan m), .agg (Zas s), iv x.f, ints x.args] (.agg (Zas (Zcj m s x.f x.args)))) : FCins m s f x := by
  refine Zao tok Tryz.func106 rfl (by decide +kernel) (Nat.le_of_ble_eq_true rfl) ?_
  rw [show insM m s f x = Zcj m s x.f x.args from if_pos ho]
  (repeat' ((fail_if_success (show AWp _ _ _ (Code.region 2 _ _) _ _)); (fail_if_success (show AWp _ _ _ (Code.region 3 _ _) _ _)); first | refine Zad ?_ | (refine Zab tok (by rfl) ?_; conv => whnf) | (refine Zag ?_; conv => whnf) | refine Zaf rfl (fun hb => ?_) (fun hb => ?_)))
  · (repeat' (refine Zab tok (by rfl) ?_; conv => whnf))
    refine .inl ⟨_, _, _, uG (QC.fc hc rfl), ?_⟩
    conv => whnf
    (repeat' (refine Zah ?_; conv => whnf))
    exact ⟨_, rfl, Rel.agg (Rels.imm rfl)⟩
  · exfalso; rw [ho] at hb; cases hb
set_option maxHeartbeats 1000000 in
theorem c_ins8 (m : Zam) (s : Mach) (f : Za9) (x : Ins) (hs : 0 < s.stack.length) (h8 : x.op ≤ 8) (hc : FC Tryz.prog 149 [.agg (Zax f), .agg (Zbc x)] (.tup [.agg (Zax (reckR f x).1), .bool (reckR f x).2])) : FCins m s f x := by
  refine Zao tok Tryz.func106 rfl (by decide +kernel) (Nat.le_of_ble_eq_true rfl) ?_
  rw [show insM m s f x = (if (reckR f x).2 = true then Zb6 s (reckR f x).1 else endM s 3 0) from (if_neg (by omega)).trans (if_pos h8)]
  (repeat' ((fail_if_success (show AWp _ _ _ (Code.region 2 _ _) _ _)); (fail_if_success (show AWp _ _ _ (Code.region 4 _ _) _ _)); (fail_if_success (show AWp _ _ _ (Code.region 8 _ _) _ _)); first | refine Zad ?_ | (refine Zab tok (by rfl) ?_; conv => whnf) | (refine Zag ?_; conv => whnf) | refine Zaf rfl (fun hb => ?_) (fun hb => ?_)))
  · exfalso; simp at hb; omega
  · (repeat' (refine Zab tok (by rfl) ?_; conv => whnf))
    refine .inl ⟨_, _, _, uG (QC.fc hc rfl), ?_⟩
    conv => whnf
    (repeat' first | refine Zad ?_ | (refine Zab tok (by rfl) ?_; conv => whnf) | (refine Zag ?_; conv => whnf) | refine Zaf rfl (fun hb => ?_) (fun hb => ?_))
    · rw [if_neg (by simpa using hb)]
      refine .inl ⟨_, _, _, uG (QC.fc (c_ended s 3 0) rfl), ?_⟩
      conv => whnf
      (repeat' (refine Zah ?_; conv => whnf))
      exact ⟨_, rfl, Rel.agg (Rels.imm rfl)⟩
    · rw [if_pos (by simpa using hb)]
      refine .inl ⟨_, _, _, uG (QC.fc (Ze4 s (reckR f x).1 hs) rfl), ?_⟩
      conv => whnf
      (repeat' (refine Zah ?_; conv => whnf))
      exact ⟨_, rfl, Rel.agg (Rels.imm rfl)⟩
  · exfalso; simp at hb; omega
set_option maxHeartbeats 2000000 in
theorem c_ins12 (m : Zam) (s : Mach) (f : Za9) (x : Ins) (hs : 0 < s.stack.length) (ho : x.op = 12) (ha : 0 ≤ x.a ∧ x.a < f.regs.length) (h0 : 0 ≤ f.at_) (h1 : f.at_ < 1000000) (he : s.events.length < 1000000) : FCins m s f x := by
  refine Zao tok Tryz.func106 rfl (by decide +kernel) (Nat.le_of_ble_eq_true rfl) ?_
  refine Zap 2 (fun hl => ?_)
  have hreg : 0 ≤ f.regs.getD x.a.toNat 0 ∧ f.regs.getD x.a.toNat 0 ≤ 65535 := (hl.2.2.2.1.2 x.a.toNat (by omega)).1
  clear hl
  have hmx : maxL = 4294967296 := rfl
  (repeat' ((fail_if_success (show AWp _ _ _ (Code.region 2 _ _) _ _)); (fail_if_success (show AWp _ _ _ (Code.region 4 _ _) _ _)); (fail_if_success (show AWp _ _ _ (Code.region 9 _ _) _ _)); (fail_if_success (show AWp _ _ _ (Code.region 16 _ _) _ _)); (fail_if_success (show AWp _ _ _ (Code.region 18 _ _) _ _)); (fail_if_success (show AWp _ _ _ (Code.region 23 _ _) _ _)); first | refine Zad ?_ | (refine Zab tok (by rfl) ?_; conv => whnf) | (refine Zag ?_; conv => whnf) | refine Zaf rfl (fun hb => ?_) (fun hb => ?_)))
  all_goals (try (exfalso; rw [ho] at hb; cases hb; done))
  · have hM : insM m s f x = Zb6 (evM s (f.regs.getD x.a.toNat 0)) (goOn f) := by
      unfold insM
      rw [if_neg (by omega), if_neg (by omega), if_neg (by omega), if_neg (by omega), if_pos ho]; rfl
    rw [hM]
    refine AWp_soft tok mix (by rfl) [1, 2, 4, 5, 6, 7, 8, 9, 10, 13] 30 (by rfl) (by rfl) (by rfl) ?_
    conv => whnf
    repeat' first
      | (refine @And.intro (Zaa _ _ _ _) _ ?_ ?_; rotate_left; (conv => whnf); rotate_right)
      | (guard_target = And _ _; refine @And.intro (gOp _ _ _ _ _ _ _ _ _) _ (by (conv => whnf); exact ⟨rfl, rfl⟩) ?_; conv => whnf)
      | (guard_target = And _ _; refine And.intro ?_ ?_ <;> (conv => whnf))
    all_goals (try ((guard_target = Zaa _ _ _ _); refine Zae ?_; (first | refine And.intro (Zem rfl ?_) ?_ | refine And.intro Zc0 ?_ | skip); (all_goals (try simp only [Zaa, kzz, kz11, kz12, maxL, Zac] at *)); all_goals omega))
    all_goals (try rfl)
    all_goals
      refine Zay (Weak.fam (L := []) (tl := [(4, .bp (4, 0, 0) 0), (5, .bp (5, 0, 0) 0), (6, .bp (6, 0, 0) 0), (7, .bp (7, 0, 0) 0), (8, .bp (8, 0, 0) 0)]) (hl := [((4, 0, 0), Zal (Zan m)), ((5, 0, 0), Zal (Zas (evM s (f.regs.getD x.a.toNat 0)))), ((6, 0, 0), Zal (Zax f)), ((7, 0, 0), Zal (Zbc x)), ((8, 0, 0), Zal Zcs)]) (F := noH) [] rfl (fun c hc => by cases hc) ?_ ?_ noF (fun i hi => by cases hi)) ?_
      · exact .cons (.bp rfl rfl) (.cons (.bp rfl rfl) (.cons (.bp rfl rfl) (.cons (.bp rfl rfl) (.cons (.bp rfl rfl) .nil))))
      · refine .old rfl rfl (GB.one (GVs.imm rfl) (fun _ => rfl)) (.old rfl rfl (GB.one (.cons (.imm rfl) (.cons (.imm rfl) (.cons (.imm rfl) (.cons (.imm rfl) (.cons (.imm rfl) (.cons (.imm rfl) (.cons (.imm rfl) (.cons (.imm rfl) (.cons (.imm rfl) (.cons (.imm rfl) (.cons (.imm rfl) (.cons (.imm rfl) (.cons (.imm rfl) (.cons (.imm rfl) (.cons (.imm rfl) (.cons (.imm rfl) (.cons (.imm rfl) (.cons (.imm rfl) (.cons (.frz (hd_no rfl) rfl (Nat.le_of_eq (Nat.zero_add _)) ?_ (fun z hz => GVs.eqI rfl ?_) (fun _ _ => rfl)) (.cons (.imm rfl) (.cons (.imm rfl) .nil))))))))))))))))))))) (fun _ => rfl)) (.old rfl rfl (GB.one (GVs.imm rfl) (fun _ => rfl)) (.old rfl rfl (GB.one (GVs.imm rfl) (fun _ => rfl)) (.old rfl rfl (GB.one (GVs.imm rfl) (fun _ => rfl)) .nil))))
        · show 0 + s.events.length + 1 = (s.events ++ [_]).length
          simp
        · have hz2 : z < s.events.length + 1 := by rw [Nat.zero_add] at hz; exact hz
          rw [show 0 + z = z from Nat.zero_add z]
          simp only [allB, Zcc, Bool.true_and, Bool.and_true, Bool.and_self, cond_true]
          exact appI (Nat.zero_add _) hz2 (Zak (by omega) (by omega)) (fun i hi => rfl)
      (repeat' ((fail_if_success (show AWp _ _ _ (Code.region 18 _ _) _ _)); (fail_if_success (show AWp _ _ _ (Code.region 23 _ _) _ _)); first | refine Zad ?_ | (refine Zab tok (by rfl) ?_; conv => whnf) | (refine Zag ?_; conv => whnf) | refine Zaf rfl (fun hb => ?_) (fun hb => ?_)))
      · exfalso; rw [ho] at hb; cases hb
      clear hb
      (repeat' first | refine Zad ?_ | (refine Zab tok (by rfl) ?_; conv => whnf))
      rw [show goOn f = { f with at_ := IntKind.i64.wrap (f.at_ + 1) } from by unfold goOn; rw [Zak (by omega) (by omega)]]
      refine .inl ⟨_, _, _, uG (QC.fc (Ze4 (evM s (f.regs.getD x.a.toNat 0)) { f with at_ := IntKind.i64.wrap (f.at_ + 1) } hs) rfl), ?_⟩
      conv => whnf
      (repeat' (refine Zah ?_; conv => whnf))
      exact ⟨_, rfl, Rel.agg (Rels.imm rfl)⟩
  all_goals (exfalso; simp_all)
end Go.Proofs.YtoelbgjpmpoolaaGreat
namespace Go.Proofs.YtoelbgjpmpoolaaGreat
open Go Dv
set_option maxRecDepth 10000
set_option linter.unusedSimpArgs false
def inM (s : Mach) : Mach := { evM s (s.inputs.getD 0 0 + 65536) with inputs := s.inputs.drop 1 }
theorem wk_drop {l : List Int} {n : Nat} {F : Nat → List AV} (hl : ¬ l.length = 0) (hn : n = l.length - 1) (hF : ∀ i, F i = [.int .u16 (l.getD (1 + i) 0)]) : Wk (.sl 1 n F) (u16s (l.drop 1)) := by
  subst hn
  refine .sl (by simp) (fun i hi => ?_)
  rw [hF i, List.getD_eq_getElem?_getD, List.getD_eq_getElem?_getD, List.getElem?_drop]
set_option maxHeartbeats 4000000 in
theorem c_ins13 (m : Zam) (s : Mach) (f : Za9) (x : Ins) (hs : 0 < s.stack.length) (ho : x.op = 13) (hd : 0 ≤ x.dst ∧ x.dst < f.regs.length) (h0 : 0 ≤ f.at_) (h1 : f.at_ < 1000000) (he : s.events.length < 1000000) (hin : ∀ i, i < s.inputs.length → 0 ≤ s.inputs.getD i 0 ∧ s.inputs.getD i 0 ≤ 65535) (hil : s.inputs.length < 1000000) : FCins m s f x := by
  refine Zao tok Tryz.func106 rfl (by decide +kernel) (Nat.le_of_ble_eq_true rfl) ?_
  have hmx : maxL = 4294967296 := rfl
  have hM : insM m s f x = if s.inputs.length = 0 then endM s 6 0 else Zb6 (inM s) (goOn (frW f x.dst (s.inputs.getD 0 0))) := by
    unfold insM
    rw [if_neg (by omega), if_neg (by omega), if_neg (by omega), if_neg (by omega), if_neg (by omega), if_pos ho]; rfl
  rw [hM]
  (repeat' ((fail_if_success (show AWp _ _ _ (Code.region 2 _ _) _ _)); (fail_if_success (show AWp _ _ _ (Code.region 4 _ _) _ _)); (fail_if_success (show AWp _ _ _ (Code.region 9 _ _) _ _)); (fail_if_success (show AWp _ _ _ (Code.region 16 _ _) _ _)); (fail_if_success (show AWp _ _ _ (Code.region 18 _ _) _ _)); (fail_if_success (show AWp _ _ _ (Code.region 23 _ _) _ _)); first | refine Zad ?_ | (refine Zab tok (by rfl) ?_; conv => whnf) | (refine Zag ?_; conv => whnf) | refine Zaf rfl (fun hb => ?_) (fun hb => ?_)))
  all_goals (try (exfalso; simp_all; done))
  (repeat' ((fail_if_success (show AWp _ _ _ (Code.region 19 _ _) _ _)); (fail_if_success (show AWp _ _ _ (Code.region 20 _ _) _ _)); first | refine Zad ?_ | (refine Zab tok (by rfl) ?_; conv => whnf) | (refine Zag ?_; conv => whnf) | refine Zaf rfl (fun hb => ?_) (fun hb => ?_)))
  · have hz0 : s.inputs.length = 0 := by simp only [decide_eq_true_eq] at hb; omega
    rw [if_pos hz0]
    (repeat' (refine Zab tok (by rfl) ?_; conv => whnf))
    refine .inl ⟨_, _, _, uG (QC.fc (c_ended s 6 0) rfl), ?_⟩
    conv => whnf
    (repeat' (refine Zah ?_; conv => whnf))
    exact ⟨_, rfl, Rel.agg (Rels.imm rfl)⟩
  have hz0 : ¬ s.inputs.length = 0 := by simp only [decide_eq_false_iff_not] at hb; omega
  clear hb
  rw [if_neg hz0]
  have hw := hin 0 (by omega)
  ((repeat' first | (refine Za0 tok mix (by rfl) ?_; conv => whnf) | (refine @And.intro (Zaa _ _ _ _) _ ?_ ?_; rotate_left; (conv => whnf); rotate_right)); all_goals (try ((guard_target = Zaa _ _ _ _); refine Zae ?_; (all_goals (try simp only [Zaa, kzz, kz11, kz12, maxL, Zac] at *)); all_goals omega)))
  refine .inl ⟨_, _, _, uG (QC.fc (c_With f x.dst (s.inputs.getD 0 0) hd.1 hd.2) rfl), ?_⟩
  conv => whnf
  (repeat' ((fail_if_success (show AWp _ _ _ (Code.region 21 _ _) _ _)); refine Zad ?_))
  refine AWp_soft tok mix (by rfl) [1, 2, 4, 5, 6, 7, 8, 9, 12] 30 (by rfl) (by rfl) (by rfl) ?_
  conv => whnf
  repeat' first
    | (refine @And.intro (Zaa _ _ _ _) _ ?_ ?_; rotate_left; (conv => whnf); rotate_right)
    | (guard_target = And _ _; refine @And.intro (gOp _ _ _ _ _ _ _ _ _) _ (by (conv => whnf); exact ⟨rfl, rfl⟩) ?_; conv => whnf)
    | (guard_target = And _ _; refine And.intro ?_ ?_ <;> (conv => whnf))
  all_goals (try ((guard_target = Zaa _ _ _ _); refine Zae ?_; (first | refine And.intro (Zem rfl ?_) ?_ | refine And.intro Zc0 ?_ | skip); (all_goals (try simp only [Zaa, kzz, kz11, kz12, maxL, Zac] at *)); all_goals omega))
  all_goals (try rfl)
  all_goals
    refine Zay (Weak.fam (L := []) (tl := [(4, .bp (4, 0, 0) 0), (5, .bp (5, 0, 0) 0), (6, .bp (6, 0, 0) 0), (7, .bp (7, 0, 0) 0), (8, .bp (8, 0, 0) 0)]) (hl := [((4, 0, 0), Zal (Zan m)), ((5, 0, 0), Zal (Zas (evM s (s.inputs.getD 0 0 + 65536)))), ((6, 0, 0), Zal (Zax (frW f x.dst (s.inputs.getD 0 0)))), ((7, 0, 0), Zal (Zbc x)), ((8, 0, 0), Zal Zcs)]) (F := noH) [] rfl (fun c hc => by cases hc) ?_ ?_ noF (fun i hi => by cases hi)) ?_
    · exact .cons (.bp rfl rfl) (.cons (.bp rfl rfl) (.cons (.bp rfl rfl) (.cons (.bp rfl rfl) (.cons (.bp rfl rfl) .nil))))
    · refine .old rfl rfl (GB.one (GVs.imm rfl) (fun _ => rfl)) (.old rfl rfl (GB.one (.cons (.imm rfl) (.cons (.imm rfl) (.cons (.imm rfl) (.cons (.imm rfl) (.cons (.imm rfl) (.cons (.imm rfl) (.cons (.imm rfl) (.cons (.imm rfl) (.cons (.imm rfl) (.cons (.imm rfl) (.cons (.imm rfl) (.cons (.imm rfl) (.cons (.imm rfl) (.cons (.imm rfl) (.cons (.imm rfl) (.cons (.imm rfl) (.cons (.imm rfl) (.cons (.imm rfl) (.cons (.frz (hd_no rfl) rfl (Nat.le_of_eq (Nat.zero_add _)) ?_ (fun z hz => GVs.eqI rfl ?_) (fun _ _ => rfl)) (.cons (.imm rfl) (.cons (.imm rfl) .nil))))))))))))))))))))) (fun _ => rfl)) (.old rfl rfl (GB.one (GVs.imm rfl) (fun _ => rfl)) (.old rfl rfl (GB.one (GVs.imm rfl) (fun _ => rfl)) (.old rfl rfl (GB.one (GVs.imm rfl) (fun _ => rfl)) .nil))))
      · show 0 + s.events.length + 1 = (s.events ++ [_]).length
        simp
      · have hz2 : z < s.events.length + 1 := by rw [Nat.zero_add] at hz; exact hz
        rw [show 0 + z = z from Nat.zero_add z]
        simp only [allB, Zcc, Bool.true_and, Bool.and_true, Bool.and_self, cond_true]
        exact appI (Nat.zero_add _) hz2 (by
          show IntKind.i64.wrap (IntKind.i64.wrap (s.inputs.getD 0 0) + 65536) = _
          rw [Zak (x := s.inputs.getD 0 0) (by omega) (by omega), Zak (by omega) (by omega)]) (fun i hi => rfl)
    have hz3 : (evM s (s.inputs.getD 0 0 + 65536)).inputs.length = s.inputs.length := rfl
    have hz4 : (evM s (s.inputs.getD 0 0 + 65536)).inputs = s.inputs := rfl
    ((repeat' ((fail_if_success (show AWp _ _ _ (Code.region 23 _ _) _ _)); first | refine Zad ?_ | (refine Zab tok (by rfl) ?_; conv => whnf) | (refine @And.intro (Zaa _ _ _ _) _ ?_ ?_; rotate_left; (conv => whnf); rotate_right))); all_goals (try ((guard_target = Zaa _ _ _ _); refine Zae ?_; (all_goals (try simp only [Zaa, kzz, kz11, kz12, maxL, Zac] at *)); all_goals omega)))
    refine Zay (Weak.list (tl := [(4, .bp (4, 0, 0) 0), (5, .bp (5, 0, 0) 0), (6, .bp (6, 0, 0) 0), (7, .bp (7, 0, 0) 0), (8, .bp (8, 0, 0) 0)]) [((4, 0, 0), .old (4, 0, 0), Zal (Zan m)), ((5, 0, 0), .old (5, 0, 0), Zal (Zas (inM s))), ((6, 0, 0), .old (6, 0, 0), Zal (Zax (frW f x.dst (s.inputs.getD 0 0)))), ((7, 0, 0), .old (7, 0, 0), Zal (Zbc x)), ((8, 0, 0), .old (8, 0, 0), Zal Zcs)] rfl (by rfl) ?_ (.old rfl (BLe.refl _) (.old rfl (BLe.rowW (Nat.le_refl _) (ltS (.cons .refl (.cons .refl (.cons .refl (.cons .refl (.cons .refl (.cons .refl (.cons .refl (.cons .refl (.cons .refl (.cons .refl (.cons .refl (.cons .refl (.cons .refl (.cons .refl (.cons .refl (.cons .refl (.cons .refl (.cons (wk_drop hz0 (by simp [evM]) (fun i => rfl)) (.cons .refl (.cons .refl (.cons .refl .nil))))))))))))))))))))) lt0)) (.old rfl (BLe.refl _) (.old rfl (BLe.refl _) (.old rfl (BLe.refl _) .nil)))))) ?_
    · ((repeat' first | exact TLes.nil | refine TLes.cons (TLe.eq rfl) ?_); skip)
    (repeat' first | refine Zad ?_ | (refine Zab tok (by rfl) ?_; conv => whnf))
    rw [show goOn (frW f x.dst (s.inputs.getD 0 0)) = { frW f x.dst (s.inputs.getD 0 0) with at_ := IntKind.i64.wrap (f.at_ + 1) } from by unfold goOn; rw [show (frW f x.dst (s.inputs.getD 0 0)).at_ = f.at_ from rfl, Zak (by omega) (by omega)]]
    refine .inl ⟨_, _, _, uG (QC.fc (Ze4 (inM s) { frW f x.dst (s.inputs.getD 0 0) with at_ := IntKind.i64.wrap (f.at_ + 1) } hs) rfl), ?_⟩
    conv => whnf
    (repeat' (refine Zah ?_; conv => whnf))
    exact ⟨_, rfl, Rel.agg (Rels.imm rfl)⟩
end Go.Proofs.YtoelbgjpmpoolaaGreat
namespace Go.Proofs.YtoelbgjpmpoolaaGreat
open Go Dv
set_option maxRecDepth 10000
set_option linter.unusedSimpArgs false
set_option maxHeartbeats 4000000 in
theorem c_ins9 (m : Zam) (s : Mach) (f : Za9) (x : Ins) (hs : 0 < s.stack.length) (ho : x.op = 9) (hd : 0 ≤ x.dst ∧ x.dst < f.regs.length) (ha : 0 ≤ x.a ∧ x.a < f.regs.length) (h0 : 0 ≤ f.at_) (h1 : f.at_ < 1000000) : FCins m s f x := by
  refine Zao tok Tryz.func106 rfl (by decide +kernel) (Nat.le_of_ble_eq_true rfl) ?_
  refine Zap 2 (fun hl => ?_)
  have hreg : 0 ≤ f.regs.getD x.a.toNat 0 ∧ f.regs.getD x.a.toNat 0 ≤ 65535 := (hl.2.2.2.1.2 x.a.toNat (by omega)).1
  clear hl
  have hmx : maxL = 4294967296 := rfl
  have hgen : ∃ n, f.regs.getD x.a.toNat 0 = n := ⟨_, rfl⟩
  obtain ⟨n, hn⟩ := hgen
  have hM : insM m s f x = if 16 ≤ n then endM s 4 0 else Zb6 s (goOn (frW f x.dst (s.cells.getD n.toNat 0))) := by
    unfold insM cellN
    rw [if_neg (by omega), if_neg (by omega), if_pos ho, hn]
  rw [hM]
  rw [hn] at hreg
  have hw : IntKind.i64.wrap n = n := Zak (by omega) (by omega)
  (repeat' ((fail_if_success (show AWp _ _ _ (Code.region 2 _ _) _ _)); (fail_if_success (show AWp _ _ _ (Code.region 4 _ _) _ _)); (fail_if_success (show AWp _ _ _ (Code.region 9 _ _) _ _)); (fail_if_success (show AWp _ _ _ (Code.region 15 _ _) _ _)); first | refine Zad ?_ | (refine Zab tok (by rfl) ?_; conv => whnf) | (refine Zag ?_; conv => whnf) | refine Zaf rfl (fun hb => ?_) (fun hb => ?_)))
  all_goals (try (exfalso; simp_all; done))
  ((repeat' ((fail_if_success (show AWp _ _ _ (Code.region 11 _ _) _ _)); (fail_if_success (show AWp _ _ _ (Code.region 12 _ _) _ _)); first | refine Zad ?_ | (refine Zab tok (by rfl) ?_; conv => whnf) | (refine Zag ?_; conv => whnf) | refine Zaf rfl (fun hb => ?_) (fun hb => ?_) | (refine @And.intro (Zaa _ _ _ _) _ ?_ ?_; rotate_left; (conv => whnf); rotate_right))); all_goals (try ((guard_target = Zaa _ _ _ _); refine Zae ?_; (all_goals (try simp only [Zaa, kzz, kz11, kz12, maxL, Zac] at *)); all_goals omega)))
  · have h16 : 16 ≤ n := by rw [hn, hw] at hb; simpa using hb
    rw [if_pos h16]
    (repeat' (refine Zab tok (by rfl) ?_; conv => whnf))
    refine .inl ⟨_, _, _, uG (QC.fc (c_ended s 4 0) rfl), ?_⟩
    conv => whnf
    (repeat' (refine Zah ?_; conv => whnf))
    exact ⟨_, rfl, Rel.agg (Rels.imm rfl)⟩
  have h16 : ¬ 16 ≤ n := by rw [hn, hw] at hb; simpa using hb
  clear hb
  rw [if_neg h16]
  have hn' : IntKind.i64.wrap (f.regs.getD x.a.toNat 0) = n := by rw [hn]; exact hw
  refine Zay (Weak.list (tl := [(4, .bp (4, 0, 0) 0), (5, .bp (5, 0, 0) 0), (6, .bp (6, 0, 0) 0), (7, .bp (7, 0, 0) 0), (8, .bp (8, 0, 0) 0), (11, iv n)]) [((4, 0, 0), .old (4, 0, 0), Zal (Zan m)), ((5, 0, 0), .old (5, 0, 0), Zal (Zas s)), ((6, 0, 0), .old (6, 0, 0), Zal (Zax f)), ((7, 0, 0), .old (7, 0, 0), Zal (Zbc x)), ((8, 0, 0), .old (8, 0, 0), Zal Zcs)] rfl (by rfl) ?_ (.old rfl (BLe.refl _) (.old rfl (BLe.refl _) (.old rfl (BLe.refl _) (.old rfl (BLe.refl _) (.old rfl (BLe.refl _) .nil)))))) ?_
  · exact .cons (.eq rfl) (.cons (.eq rfl) (.cons (.eq rfl) (.cons (.eq rfl) (.cons (.eq rfl) (.cons (.int hn') .nil)))))
  (repeat' ((fail_if_success (show AWp _ _ _ (Code.region 13 _ _) _ _)); (fail_if_success (show AWp _ _ _ (Code.region 14 _ _) _ _)); first | (refine Zab tok (by rfl) ?_; conv => whnf) | refine Zaf rfl (fun hb => ?_) (fun hb => ?_)))
  · clear hb
    have hwi : ∀ (k : Nat) (l : List AV), l = Zax { frW f x.dst (s.cells.getD k 0) with at_ := IntKind.i64.wrap (f.at_ + 1) } → FC Tryz.prog 110 [.agg (Zas s), .agg l] (.agg (Zas (Zb6 s (goOn (frW f x.dst (s.cells.getD k 0)))))) := fun k l e => by
      rw [e, show goOn (frW f x.dst (s.cells.getD k 0)) = { frW f x.dst (s.cells.getD k 0) with at_ := IntKind.i64.wrap (f.at_ + 1) } from by unfold goOn; rw [show (frW f x.dst (s.cells.getD k 0)).at_ = f.at_ from rfl, Zak (by omega) (by omega)]]
      exact Ze4 s _ hs
    clear hM hn hw hn'
    rcases (show n = 0 ∨ n = 1 ∨ n = 2 ∨ n = 3 ∨ n = 4 ∨ n = 5 ∨ n = 6 ∨ n = 7 ∨ n = 8 ∨ n = 9 ∨ n = 10 ∨ n = 11 ∨ n = 12 ∨ n = 13 ∨ n = 14 ∨ n = 15 by omega) with e | e | e | e | e | e | e | e | e | e | e | e | e | e | e | e
    all_goals subst e
    all_goals ((repeat' first | (refine Za0 tok mix (by rfl) ?_; conv => whnf) | (refine @And.intro (Zaa _ _ _ _) _ ?_ ?_; rotate_left; (conv => whnf); rotate_right)); all_goals (try ((guard_target = Zaa _ _ _ _); refine Zae ?_; (all_goals (try simp only [Zaa, kzz, kz11, kz12, maxL, Zac] at *)); all_goals omega)))
    all_goals refine .inl ⟨_, _, _, uG (QC.fc (c_With f x.dst _ hd.1 hd.2) rfl), ?_⟩
    all_goals (conv => whnf)
    all_goals (repeat' ((fail_if_success (show AWp _ _ _ (Code.region 16 _ _) _ _)); (fail_if_success (show AWp _ _ _ (Code.region 18 _ _) _ _)); (fail_if_success (show AWp _ _ _ (Code.region 23 _ _) _ _)); first | refine Zad ?_ | (refine Zab tok (by rfl) ?_; conv => whnf) | (refine Zag ?_; conv => whnf) | refine Zaf rfl (fun hb => ?_) (fun hb => ?_)))
    all_goals (try (exfalso; rw [ho] at hb; cases hb; done))
    all_goals clear hb
    all_goals (repeat' first | refine Zad ?_ | (refine Zab tok (by rfl) ?_; conv => whnf))
    all_goals refine .inl ⟨_, _, _, uG (QC.fc (hwi _ _ rfl) rfl), ?_⟩
    all_goals (conv => whnf)
    all_goals (repeat' (refine Zah ?_; conv => whnf))
    all_goals exact ⟨_, rfl, Rel.agg (Rels.imm rfl)⟩
  · exfalso; rw [ho] at hb; cases hb
end Go.Proofs.YtoelbgjpmpoolaaGreat
namespace Go.Proofs.YtoelbgjpmpoolaaGreat
open Go Dv
set_option maxRecDepth 10000
set_option linter.unusedSimpArgs false
def stM (s : Mach) (k : Nat) (v : Int) : Mach := { s with cells := s.cells.set k v }
theorem wkc {l : List Int} {v : Int} {k j : Nat} (h : k ≠ j) : Wk (cw l j) (cw (l.set k v) j) := by
  unfold cw; rw [getD_set, if_neg (fun e => h e.1)]; exact .refl
theorem wks {l : List Int} {v : Int} {k : Nat} (h : k < l.length) : Wk (.int .u16 v) (cw (l.set k v) k) := by
  unfold cw; rw [getD_set, if_pos ⟨rfl, h⟩]; exact .refl
set_option maxHeartbeats 4000000 in
theorem c_ins10 (m : Zam) (s : Mach) (f : Za9) (x : Ins) (hs : 0 < s.stack.length) (ho : x.op = 10) (hb' : 0 ≤ x.b ∧ x.b < f.regs.length) (hcl : s.cells.length = 16) (ha : 0 ≤ x.a ∧ x.a < f.regs.length) (h0 : 0 ≤ f.at_) (h1 : f.at_ < 1000000) : FCins m s f x := by
  refine Zao tok Tryz.func106 rfl (by decide +kernel) (Nat.le_of_ble_eq_true rfl) ?_
  refine Zap 2 (fun hl => ?_)
  have hreg : 0 ≤ f.regs.getD x.a.toNat 0 ∧ f.regs.getD x.a.toNat 0 ≤ 65535 := (hl.2.2.2.1.2 x.a.toNat (by omega)).1
  clear hl
  have hmx : maxL = 4294967296 := rfl
  have hgen : ∃ n, f.regs.getD x.a.toNat 0 = n := ⟨_, rfl⟩
  obtain ⟨n, hn⟩ := hgen
  have hM : insM m s f x = if 16 ≤ n then endM s 4 0 else Zb6 (stM s n.toNat (f.regs.getD x.b.toNat 0)) (goOn f) := by
    unfold insM cellN
    rw [if_neg (by omega), if_neg (by omega), if_neg (by omega), if_pos ho, hn]; rfl
  rw [hM]
  rw [hn] at hreg
  have hw : IntKind.i64.wrap n = n := Zak (by omega) (by omega)
  (repeat' ((fail_if_success (show AWp _ _ _ (Code.region 2 _ _) _ _)); (fail_if_success (show AWp _ _ _ (Code.region 4 _ _) _ _)); (fail_if_success (show AWp _ _ _ (Code.region 9 _ _) _ _)); (fail_if_success (show AWp _ _ _ (Code.region 15 _ _) _ _)); first | refine Zad ?_ | (refine Zab tok (by rfl) ?_; conv => whnf) | (refine Zag ?_; conv => whnf) | refine Zaf rfl (fun hb => ?_) (fun hb => ?_)))
  all_goals (try (exfalso; simp_all; done))
  ((repeat' ((fail_if_success (show AWp _ _ _ (Code.region 11 _ _) _ _)); (fail_if_success (show AWp _ _ _ (Code.region 12 _ _) _ _)); first | refine Zad ?_ | (refine Zab tok (by rfl) ?_; conv => whnf) | (refine Zag ?_; conv => whnf) | refine Zaf rfl (fun hb => ?_) (fun hb => ?_) | (refine @And.intro (Zaa _ _ _ _) _ ?_ ?_; rotate_left; (conv => whnf); rotate_right))); all_goals (try ((guard_target = Zaa _ _ _ _); refine Zae ?_; (all_goals (try simp only [Zaa, kzz, kz11, kz12, maxL, Zac] at *)); all_goals omega)))
  · have h16 : 16 ≤ n := by rw [hn, hw] at hb; simpa using hb
    rw [if_pos h16]
    (repeat' (refine Zab tok (by rfl) ?_; conv => whnf))
    refine .inl ⟨_, _, _, uG (QC.fc (c_ended s 4 0) rfl), ?_⟩
    conv => whnf
    (repeat' (refine Zah ?_; conv => whnf))
    exact ⟨_, rfl, Rel.agg (Rels.imm rfl)⟩
  have h16 : ¬ 16 ≤ n := by rw [hn, hw] at hb; simpa using hb
  clear hb
  rw [if_neg h16]
  have hn' : IntKind.i64.wrap (f.regs.getD x.a.toNat 0) = n := by rw [hn]; exact hw
  refine Zay (Weak.list (tl := [(4, .bp (4, 0, 0) 0), (5, .bp (5, 0, 0) 0), (6, .bp (6, 0, 0) 0), (7, .bp (7, 0, 0) 0), (8, .bp (8, 0, 0) 0), (11, iv n)]) [((4, 0, 0), .old (4, 0, 0), Zal (Zan m)), ((5, 0, 0), .old (5, 0, 0), Zal (Zas s)), ((6, 0, 0), .old (6, 0, 0), Zal (Zax f)), ((7, 0, 0), .old (7, 0, 0), Zal (Zbc x)), ((8, 0, 0), .old (8, 0, 0), Zal Zcs)] rfl (by rfl) ?_ (.old rfl (BLe.refl _) (.old rfl (BLe.refl _) (.old rfl (BLe.refl _) (.old rfl (BLe.refl _) (.old rfl (BLe.refl _) .nil)))))) ?_
  · exact .cons (.eq rfl) (.cons (.eq rfl) (.cons (.eq rfl) (.cons (.eq rfl) (.cons (.eq rfl) (.cons (.int hn') .nil)))))
  (repeat' ((fail_if_success (show AWp _ _ _ (Code.region 13 _ _) _ _)); (fail_if_success (show AWp _ _ _ (Code.region 14 _ _) _ _)); first | (refine Zab tok (by rfl) ?_; conv => whnf) | refine Zaf rfl (fun hb => ?_) (fun hb => ?_)))
  · exfalso; rw [ho] at hb; cases hb
  · clear hb
    have hwi : ∀ (k : Nat), FC Tryz.prog 110 [.agg (Zas (stM s k (f.regs.getD x.b.toNat 0))), .agg (Zax { f with at_ := IntKind.i64.wrap (f.at_ + 1) })] (.agg (Zas (Zb6 (stM s k (f.regs.getD x.b.toNat 0)) (goOn f)))) := fun k => by
      rw [show goOn f = { f with at_ := IntKind.i64.wrap (f.at_ + 1) } from by unfold goOn; rw [Zak (by omega) (by omega)]]
      exact Ze4 _ _ hs
    clear hM hw hn'
    rcases (show n = 0 ∨ n = 1 ∨ n = 2 ∨ n = 3 ∨ n = 4 ∨ n = 5 ∨ n = 6 ∨ n = 7 ∨ n = 8 ∨ n = 9 ∨ n = 10 ∨ n = 11 ∨ n = 12 ∨ n = 13 ∨ n = 14 ∨ n = 15 by omega) with e | e | e | e | e | e | e | e | e | e | e | e | e | e | e | e
    all_goals subst e
    all_goals ((repeat' ((fail_if_success (show AWp _ _ _ (Code.region 15 _ _) _ _)); first | refine Zad ?_ | (refine Zab tok (by rfl) ?_; conv => whnf) | (refine @And.intro (Zaa _ _ _ _) _ ?_ ?_; rotate_left; (conv => whnf); rotate_right))); all_goals (try ((guard_target = Zaa _ _ _ _); refine Zae ?_; (all_goals (try simp only [Zaa, kzz, kz11, kz12, maxL, Zac] at *)); all_goals omega)))
    · refine Zay (Weak.list (tl := [(4, .bp (4, 0, 0) 0), (5, .bp (5, 0, 0) 0), (6, .bp (6, 0, 0) 0), (7, .bp (7, 0, 0) 0), (8, .bp (8, 0, 0) 0)]) [((4, 0, 0), .old (4, 0, 0), Zal (Zan m)), ((5, 0, 0), .old (5, 0, 0), Zal (Zas (stM s 0 (f.regs.getD x.b.toNat 0)))), ((6, 0, 0), .old (6, 0, 0), Zal (Zax f)), ((7, 0, 0), .old (7, 0, 0), Zal (Zbc x)), ((8, 0, 0), .old (8, 0, 0), Zal Zcs)] rfl (by rfl) ?_ (.old rfl (BLe.refl _) (.old rfl (BLe.rowW (Nat.le_refl _) (ltS (.cons .refl (.cons (wks (by omega)) (.cons (wkc (by decide)) (.cons (wkc (by decide)) (.cons (wkc (by decide)) (.cons (wkc (by decide)) (.cons (wkc (by decide)) (.cons (wkc (by decide)) (.cons (wkc (by decide)) (.cons (wkc (by decide)) (.cons (wkc (by decide)) (.cons (wkc (by decide)) (.cons (wkc (by decide)) (.cons (wkc (by decide)) (.cons (wkc (by decide)) (.cons (wkc (by decide)) (.cons (wkc (by decide)) (Wks.refl _)))))))))))))))))) lt0)) (.old rfl (BLe.refl _) (.old rfl (BLe.refl _) (.old rfl (BLe.refl _) .nil)))))) ?_
      · ((repeat' first | exact TLes.nil | refine TLes.cons (TLe.eq rfl) ?_); skip)
      (repeat' ((fail_if_success (show AWp _ _ _ (Code.region 16 _ _) _ _)); (fail_if_success (show AWp _ _ _ (Code.region 18 _ _) _ _)); (fail_if_success (show AWp _ _ _ (Code.region 23 _ _) _ _)); first | refine Zad ?_ | (refine Zab tok (by rfl) ?_; conv => whnf) | (refine Zag ?_; conv => whnf) | refine Zaf rfl (fun hb => ?_) (fun hb => ?_)))
      · exfalso; rw [ho] at hb; cases hb
      · exfalso; rw [ho] at hb; cases hb
      clear hb
      (repeat' first | refine Zad ?_ | (refine Zab tok (by rfl) ?_; conv => whnf))
      refine .inl ⟨_, _, _, uG (QC.fc (hwi 0) rfl), ?_⟩
      conv => whnf
      (repeat' (refine Zah ?_; conv => whnf))
      exact ⟨_, rfl, Rel.agg (Rels.imm rfl)⟩
    · refine Zay (Weak.list (tl := [(4, .bp (4, 0, 0) 0), (5, .bp (5, 0, 0) 0), (6, .bp (6, 0, 0) 0), (7, .bp (7, 0, 0) 0), (8, .bp (8, 0, 0) 0)]) [((4, 0, 0), .old (4, 0, 0), Zal (Zan m)), ((5, 0, 0), .old (5, 0, 0), Zal (Zas (stM s 1 (f.regs.getD x.b.toNat 0)))), ((6, 0, 0), .old (6, 0, 0), Zal (Zax f)), ((7, 0, 0), .old (7, 0, 0), Zal (Zbc x)), ((8, 0, 0), .old (8, 0, 0), Zal Zcs)] rfl (by rfl) ?_ (.old rfl (BLe.refl _) (.old rfl (BLe.rowW (Nat.le_refl _) (ltS (.cons .refl (.cons (wkc (by decide)) (.cons (wks (by omega)) (.cons (wkc (by decide)) (.cons (wkc (by decide)) (.cons (wkc (by decide)) (.cons (wkc (by decide)) (.cons (wkc (by decide)) (.cons (wkc (by decide)) (.cons (wkc (by decide)) (.cons (wkc (by decide)) (.cons (wkc (by decide)) (.cons (wkc (by decide)) (.cons (wkc (by decide)) (.cons (wkc (by decide)) (.cons (wkc (by decide)) (.cons (wkc (by decide)) (Wks.refl _)))))))))))))))))) lt0)) (.old rfl (BLe.refl _) (.old rfl (BLe.refl _) (.old rfl (BLe.refl _) .nil)))))) ?_
      · ((repeat' first | exact TLes.nil | refine TLes.cons (TLe.eq rfl) ?_); skip)
      (repeat' ((fail_if_success (show AWp _ _ _ (Code.region 16 _ _) _ _)); (fail_if_success (show AWp _ _ _ (Code.region 18 _ _) _ _)); (fail_if_success (show AWp _ _ _ (Code.region 23 _ _) _ _)); first | refine Zad ?_ | (refine Zab tok (by rfl) ?_; conv => whnf) | (refine Zag ?_; conv => whnf) | refine Zaf rfl (fun hb => ?_) (fun hb => ?_)))
      · exfalso; rw [ho] at hb; cases hb
      · exfalso; rw [ho] at hb; cases hb
      clear hb
      (repeat' first | refine Zad ?_ | (refine Zab tok (by rfl) ?_; conv => whnf))
      refine .inl ⟨_, _, _, uG (QC.fc (hwi 1) rfl), ?_⟩
      conv => whnf
      (repeat' (refine Zah ?_; conv => whnf))
      exact ⟨_, rfl, Rel.agg (Rels.imm rfl)⟩
    · refine Zay (Weak.list (tl := [(4, .bp (4, 0, 0) 0), (5, .bp (5, 0, 0) 0), (6, .bp (6, 0, 0) 0), (7, .bp (7, 0, 0) 0), (8, .bp (8, 0, 0) 0)]) [((4, 0, 0), .old (4, 0, 0), Zal (Zan m)), ((5, 0, 0), .old (5, 0, 0), Zal (Zas (stM s 2 (f.regs.getD x.b.toNat 0)))), ((6, 0, 0), .old (6, 0, 0), Zal (Zax f)), ((7, 0, 0), .old (7, 0, 0), Zal (Zbc x)), ((8, 0, 0), .old (8, 0, 0), Zal Zcs)] rfl (by rfl) ?_ (.old rfl (BLe.refl _) (.old rfl (BLe.rowW (Nat.le_refl _) (ltS (.cons .refl (.cons (wkc (by decide)) (.cons (wkc (by decide)) (.cons (wks (by omega)) (.cons (wkc (by decide)) (.cons (wkc (by decide)) (.cons (wkc (by decide)) (.cons (wkc (by decide)) (.cons (wkc (by decide)) (.cons (wkc (by decide)) (.cons (wkc (by decide)) (.cons (wkc (by decide)) (.cons (wkc (by decide)) (.cons (wkc (by decide)) (.cons (wkc (by decide)) (.cons (wkc (by decide)) (.cons (wkc (by decide)) (Wks.refl _)))))))))))))))))) lt0)) (.old rfl (BLe.refl _) (.old rfl (BLe.refl _) (.old rfl (BLe.refl _) .nil)))))) ?_
      · ((repeat' first | exact TLes.nil | refine TLes.cons (TLe.eq rfl) ?_); skip)
      (repeat' ((fail_if_success (show AWp _ _ _ (Code.region 16 _ _) _ _)); (fail_if_success (show AWp _ _ _ (Code.region 18 _ _) _ _)); (fail_if_success (show AWp _ _ _ (Code.region 23 _ _) _ _)); first | refine Zad ?_ | (refine Zab tok (by rfl) ?_; conv => whnf) | (refine Zag ?_; conv => whnf) | refine Zaf rfl (fun hb => ?_) (fun hb => ?_)))
      · exfalso; rw [ho] at hb; cases hb
      · exfalso; rw [ho] at hb; cases hb
      clear hb
      (repeat' first | refine Zad ?_ | (refine Zab tok (by rfl) ?_; conv => whnf))
      refine .inl ⟨_, _, _, uG (QC.fc (hwi 2) rfl), ?_⟩
      conv => whnf
      (repeat' (refine Zah ?_; conv => whnf))
      exact ⟨_, rfl, Rel.agg (Rels.imm rfl)⟩
    · refine Zay (Weak.list (tl := [(4, .bp (4, 0, 0) 0), (5, .bp (5, 0, 0) 0), (6, .bp (6, 0, 0) 0), (7, .bp (7, 0, 0) 0), (8, .bp (8, 0, 0) 0)]) [((4, 0, 0), .old (4, 0, 0), Zal (Zan m)), ((5, 0, 0), .old (5, 0, 0), Zal (Zas (stM s 3 (f.regs.getD x.b.toNat 0)))), ((6, 0, 0), .old (6, 0, 0), Zal (Zax f)), ((7, 0, 0), .old (7, 0, 0), Zal (Zbc x)), ((8, 0, 0), .old (8, 0, 0), Zal Zcs)] rfl (by rfl) ?_ (.old rfl (BLe.refl _) (.old rfl (BLe.rowW (Nat.le_refl _) (ltS (.cons .refl (.cons (wkc (by decide)) (.cons (wkc (by decide)) (.cons (wkc (by decide)) (.cons (wks (by omega)) (.cons (wkc (by decide)) (.cons (wkc (by decide)) (.cons (wkc (by decide)) (.cons (wkc (by decide)) (.cons (wkc (by decide)) (.cons (wkc (by decide)) (.cons (wkc (by decide)) (.cons (wkc (by decide)) (.cons (wkc (by decide)) (.cons (wkc (by decide)) (.cons (wkc (by decide)) (.cons (wkc (by decide)) (Wks.refl _)))))))))))))))))) lt0)) (.old rfl (BLe.refl _) (.old rfl (BLe.refl _) (.old rfl (BLe.refl _) .nil)))))) ?_
      · ((repeat' first | exact TLes.nil | refine TLes.cons (TLe.eq rfl) ?_); skip)
      (repeat' ((fail_if_success (show AWp _ _ _ (Code.region 16 _ _) _ _)); (fail_if_success (show AWp _ _ _ (Code.region 18 _ _) _ _)); (fail_if_success (show AWp _ _ _ (Code.region 23 _ _) _ _)); first | refine Zad ?_ | (refine Zab tok (by rfl) ?_; conv => whnf) | (refine Zag ?_; conv => whnf) | refine Zaf rfl (fun hb => ?_) (fun hb => ?_)))
      · exfalso; rw [ho] at hb; cases hb
      · exfalso; rw [ho] at hb; cases hb
      clear hb
      (repeat' first | refine Zad ?_ | (refine Zab tok (by rfl) ?_; conv => whnf))
      refine .inl ⟨_, _, _, uG (QC.fc (hwi 3) rfl), ?_⟩
      conv => whnf
      (repeat' (refine Zah ?_; conv => whnf))
      exact ⟨_, rfl, Rel.agg (Rels.imm rfl)⟩
    · refine Zay (Weak.list (tl := [(4, .bp (4, 0, 0) 0), (5, .bp (5, 0, 0) 0), (6, .bp (6, 0, 0) 0), (7, .bp (7, 0, 0) 0), (8, .bp (8, 0, 0) 0)]) [((4, 0, 0), .old (4, 0, 0), Zal (Zan m)), ((5, 0, 0), .old (5, 0, 0), Zal (Zas (stM s 4 (f.regs.getD x.b.toNat 0)))), ((6, 0, 0), .old (6, 0, 0), Zal (Zax f)), ((7, 0, 0), .old (7, 0, 0), Zal (Zbc x)), ((8, 0, 0), .old (8, 0, 0), Zal Zcs)] rfl (by rfl) ?_ (.old rfl (BLe.refl _) (.old rfl (BLe.rowW (Nat.le_refl _) (ltS (.cons .refl (.cons (wkc (by decide)) (.cons (wkc (by decide)) (.cons (wkc (by decide)) (.cons (wkc (by decide)) (.cons (wks (by omega)) (.cons (wkc (by decide)) (.cons (wkc (by decide)) (.cons (wkc (by decide)) (.cons (wkc (by decide)) (.cons (wkc (by decide)) (.cons (wkc (by decide)) (.cons (wkc (by decide)) (.cons (wkc (by decide)) (.cons (wkc (by decide)) (.cons (wkc (by decide)) (.cons (wkc (by decide)) (Wks.refl _)))))))))))))))))) lt0)) (.old rfl (BLe.refl _) (.old rfl (BLe.refl _) (.old rfl (BLe.refl _) .nil)))))) ?_
      · ((repeat' first | exact TLes.nil | refine TLes.cons (TLe.eq rfl) ?_); skip)
      (repeat' ((fail_if_success (show AWp _ _ _ (Code.region 16 _ _) _ _)); (fail_if_success (show AWp _ _ _ (Code.region 18 _ _) _ _)); (fail_if_success (show AWp _ _ _ (Code.region 23 _ _) _ _)); first | refine Zad ?_ | (refine Zab tok (by rfl) ?_; conv => whnf) | (refine Zag ?_; conv => whnf) | refine Zaf rfl (fun hb => ?_) (fun hb => ?_)))
      · exfalso; rw [ho] at hb; cases hb
      · exfalso; rw [ho] at hb; cases hb
      clear hb
      (repeat' first | refine Zad ?_ | (refine Zab tok (by rfl) ?_; conv => whnf))
      refine .inl ⟨_, _, _, uG (QC.fc (hwi 4) rfl), ?_⟩
      conv => whnf
      (repeat' (refine Zah ?_; conv => whnf))
      exact ⟨_, rfl, Rel.agg (Rels.imm rfl)⟩
    · refine Zay (Weak.list (tl := [(4, .bp (4, 0, 0) 0), (5, .bp (5, 0, 0) 0), (6, .bp (6, 0, 0) 0), (7, .bp (7, 0, 0) 0), (8, .bp (8, 0, 0) 0)]) [((4, 0, 0), .old (4, 0, 0), Zal (Zan m)), ((5, 0, 0), .old (5, 0, 0), Zal (Zas (stM s 5 (f.regs.getD x.b.toNat 0)))), ((6, 0, 0), .old (6, 0, 0), Zal (Zax f)), ((7, 0, 0), .old (7, 0, 0), Zal (Zbc x)), ((8, 0, 0), .old (8, 0, 0), Zal Zcs)] rfl (by rfl) ?_ (.old rfl (BLe.refl _) (.old rfl (BLe.rowW (Nat.le_refl _) (ltS (.cons .refl (.cons (wkc (by decide)) (.cons (wkc (by decide)) (.cons (wkc (by decide)) (.cons (wkc (by decide)) (.cons (wkc (by decide)) (.cons (wks (by omega)) (.cons (wkc (by decide)) (.cons (wkc (by decide)) (.cons (wkc (by decide)) (.cons (wkc (by decide)) (.cons (wkc (by decide)) (.cons (wkc (by decide)) (.cons (wkc (by decide)) (.cons (wkc (by decide)) (.cons (wkc (by decide)) (.cons (wkc (by decide)) (Wks.refl _)))))))))))))))))) lt0)) (.old rfl (BLe.refl _) (.old rfl (BLe.refl _) (.old rfl (BLe.refl _) .nil)))))) ?_
      · ((repeat' first | exact TLes.nil | refine TLes.cons (TLe.eq rfl) ?_); skip)
      (repeat' ((fail_if_success (show AWp _ _ _ (Code.region 16 _ _) _ _)); (fail_if_success (show AWp _ _ _ (Code.region 18 _ _) _ _)); (fail_if_success (show AWp _ _ _ (Code.region 23 _ _) _ _)); first | refine Zad ?_ | (refine Zab tok (by rfl) ?_; conv => whnf) | (refine Zag ?_; conv => whnf) | refine Zaf rfl (fun hb => ?_) (fun hb => ?_)))
      · exfalso; rw [ho] at hb; cases hb
      · exfalso; rw [ho] at hb; cases hb
      clear hb
      (repeat' first | refine Zad ?_ | (refine Zab tok (by rfl) ?_; conv => whnf))
      refine .inl ⟨_, _, _, uG (QC.fc (hwi 5) rfl), ?_⟩
      conv => whnf
      (repeat' (refine Zah ?_; conv => whnf))
      exact ⟨_, rfl, Rel.agg (Rels.imm rfl)⟩
    · refine Zay (Weak.list (tl := [(4, .bp (4, 0, 0) 0), (5, .bp (5, 0, 0) 0), (6, .bp (6, 0, 0) 0), (7, .bp (7, 0, 0) 0), (8, .bp (8, 0, 0) 0)]) [((4, 0, 0), .old (4, 0, 0), Zal (Zan m)), ((5, 0, 0), .old (5, 0, 0), Zal (Zas (stM s 6 (f.regs.getD x.b.toNat 0)))), ((6, 0, 0), .old (6, 0, 0), Zal (Zax f)), ((7, 0, 0), .old (7, 0, 0), Zal (Zbc x)), ((8, 0, 0), .old (8, 0, 0), Zal Zcs)] rfl (by rfl) ?_ (.old rfl (BLe.refl _) (.old rfl (BLe.rowW (Nat.le_refl _) (ltS (.cons .refl (.cons (wkc (by decide)) (.cons (wkc (by decide)) (.cons (wkc (by decide)) (.cons (wkc (by decide)) (.cons (wkc (by decide)) (.cons (wkc (by decide)) (.cons (wks (by omega)) (.cons (wkc (by decide)) (.cons (wkc (by decide)) (.cons (wkc (by decide)) (.cons (wkc (by decide)) (.cons (wkc (by decide)) (.cons (wkc (by decide)) (.cons (wkc (by decide)) (.cons (wkc (by decide)) (.cons (wkc (by decide)) (Wks.refl _)))))))))))))))))) lt0)) (.old rfl (BLe.refl _) (.old rfl (BLe.refl _) (.old rfl (BLe.refl _) .nil)))))) ?_
      · ((repeat' first | exact TLes.nil | refine TLes.cons (TLe.eq rfl) ?_); skip)
      (repeat' ((fail_if_success (show AWp _ _ _ (Code.region 16 _ _) _ _)); (fail_if_success (show AWp _ _ _ (Code.region 18 _ _) _ _)); (fail_if_success (show AWp _ _ _ (Code.region 23 _ _) _ _)); first | refine Zad ?_ | (refine Zab tok (by rfl) ?_; conv => whnf) | (refine Zag ?_; conv => whnf) | refine Zaf rfl (fun hb => ?_) (fun hb => ?_)))
      · exfalso; rw [ho] at hb; cases hb
      · exfalso; rw [ho] at hb; cases hb
      clear hb
      (repeat' first | refine Zad ?_ | (refine Zab tok (by rfl) ?_; conv => whnf))
      refine .inl ⟨_, _, _, uG (QC.fc (hwi 6) rfl), ?_⟩
      conv => whnf
      (repeat' (refine Zah ?_; conv => whnf))
      exact ⟨_, rfl, Rel.agg (Rels.imm rfl)⟩
    · refine Zay (Weak.list (tl := [(4, .bp (4, 0, 0) 0), (5, .bp (5, 0, 0) 0), (6, .bp (6, 0, 0) 0), (7, .bp (7, 0, 0) 0), (8, .bp (8, 0, 0) 0)]) [((4, 0, 0), .old (4, 0, 0), Zal (Zan m)), ((5, 0, 0), .old (5, 0, 0), Zal (Zas (stM s 7 (f.regs.getD x.b.toNat 0)))), ((6, 0, 0), .old (6, 0, 0), Zal (Zax f)), ((7, 0, 0), .old (7, 0, 0), Zal (Zbc x)), ((8, 0, 0), .old (8, 0, 0), Zal Zcs)] rfl (by rfl) ?_ (.old rfl (BLe.refl _) (.old rfl (BLe.rowW (Nat.le_refl _) (ltS (.cons .refl (.cons (wkc (by decide)) (.cons (wkc (by decide)) (.cons (wkc (by decide)) (.cons (wkc (by decide)) (.cons (wkc (by decide)) (.cons (wkc (by decide)) (.cons (wkc (by decide)) (.cons (wks (by omega)) (.cons (wkc (by decide)) (.cons (wkc (by decide)) (.cons (wkc (by decide)) (.cons (wkc (by decide)) (.cons (wkc (by decide)) (.cons (wkc (by decide)) (.cons (wkc (by decide)) (.cons (wkc (by decide)) (Wks.refl _)))))))))))))))))) lt0)) (.old rfl (BLe.refl _) (.old rfl (BLe.refl _) (.old rfl (BLe.refl _) .nil)))))) ?_
      · ((repeat' first | exact TLes.nil | refine TLes.cons (TLe.eq rfl) ?_); skip)
      (repeat' ((fail_if_success (show AWp _ _ _ (Code.region 16 _ _) _ _)); (fail_if_success (show AWp _ _ _ (Code.region 18 _ _) _ _)); (fail_if_success (show AWp _ _ _ (Code.region 23 _ _) _ _)); first | refine Zad ?_ | (refine Zab tok (by rfl) ?_; conv => whnf) | (refine Zag ?_; conv => whnf) | refine Zaf rfl (fun hb => ?_) (fun hb => ?_)))
      · exfalso; rw [ho] at hb; cases hb
      · exfalso; rw [ho] at hb; cases hb
      clear hb
      (repeat' first | refine Zad ?_ | (refine Zab tok (by rfl) ?_; conv => whnf))
      refine .inl ⟨_, _, _, uG (QC.fc (hwi 7) rfl), ?_⟩
      conv => whnf
      (repeat' (refine Zah ?_; conv => whnf))
      exact ⟨_, rfl, Rel.agg (Rels.imm rfl)⟩
    · refine Zay (Weak.list (tl := [(4, .bp (4, 0, 0) 0), (5, .bp (5, 0, 0) 0), (6, .bp (6, 0, 0) 0), (7, .bp (7, 0, 0) 0), (8, .bp (8, 0, 0) 0)]) [((4, 0, 0), .old (4, 0, 0), Zal (Zan m)), ((5, 0, 0), .old (5, 0, 0), Zal (Zas (stM s 8 (f.regs.getD x.b.toNat 0)))), ((6, 0, 0), .old (6, 0, 0), Zal (Zax f)), ((7, 0, 0), .old (7, 0, 0), Zal (Zbc x)), ((8, 0, 0), .old (8, 0, 0), Zal Zcs)] rfl (by rfl) ?_ (.old rfl (BLe.refl _) (.old rfl (BLe.rowW (Nat.le_refl _) (ltS (.cons .refl (.cons (wkc (by decide)) (.cons (wkc (by decide)) (.cons (wkc (by decide)) (.cons (wkc (by decide)) (.cons (wkc (by decide)) (.cons (wkc (by decide)) (.cons (wkc (by decide)) (.cons (wkc (by decide)) (.cons (wks (by omega)) (.cons (wkc (by decide)) (.cons (wkc (by decide)) (.cons (wkc (by decide)) (.cons (wkc (by decide)) (.cons (wkc (by decide)) (.cons (wkc (by decide)) (.cons (wkc (by decide)) (Wks.refl _)))))))))))))))))) lt0)) (.old rfl (BLe.refl _) (.old rfl (BLe.refl _) (.old rfl (BLe.refl _) .nil)))))) ?_
      · ((repeat' first | exact TLes.nil | refine TLes.cons (TLe.eq rfl) ?_); skip)
      (repeat' ((fail_if_success (show AWp _ _ _ (Code.region 16 _ _) _ _)); (fail_if_success (show AWp _ _ _ (Code.region 18 _ _) _ _)); (fail_if_success (show AWp _ _ _ (Code.region 23 _ _) _ _)); first | refine Zad ?_ | (refine Zab tok (by rfl) ?_; conv => whnf) | (refine Zag ?_; conv => whnf) | refine Zaf rfl (fun hb => ?_) (fun hb => ?_)))
      · exfalso; rw [ho] at hb; cases hb
      · exfalso; rw [ho] at hb; cases hb
      clear hb
      (repeat' first | refine Zad ?_ | (refine Zab tok (by rfl) ?_; conv => whnf))
      refine .inl ⟨_, _, _, uG (QC.fc (hwi 8) rfl), ?_⟩
      conv => whnf
      (repeat' (refine Zah ?_; conv => whnf))
      exact ⟨_, rfl, Rel.agg (Rels.imm rfl)⟩
    · refine Zay (Weak.list (tl := [(4, .bp (4, 0, 0) 0), (5, .bp (5, 0, 0) 0), (6, .bp (6, 0, 0) 0), (7, .bp (7, 0, 0) 0), (8, .bp (8, 0, 0) 0)]) [((4, 0, 0), .old (4, 0, 0), Zal (Zan m)), ((5, 0, 0), .old (5, 0, 0), Zal (Zas (stM s 9 (f.regs.getD x.b.toNat 0)))), ((6, 0, 0), .old (6, 0, 0), Zal (Zax f)), ((7, 0, 0), .old (7, 0, 0), Zal (Zbc x)), ((8, 0, 0), .old (8, 0, 0), Zal Zcs)] rfl (by rfl) ?_ (.old rfl (BLe.refl _) (.old rfl (BLe.rowW (Nat.le_refl _) (ltS (.cons .refl (.cons (wkc (by decide)) (.cons (wkc (by decide)) (.cons (wkc (by decide)) (.cons (wkc (by decide)) (.cons (wkc (by decide)) (.cons (wkc (by decide)) (.cons (wkc (by decide)) (.cons (wkc (by decide)) (.cons (wkc (by decide)) (.cons (wks (by omega)) (.cons (wkc (by decide)) (.cons (wkc (by decide)) (.cons (wkc (by decide)) (.cons (wkc (by decide)) (.cons (wkc (by decide)) (.cons (wkc (by decide)) (Wks.refl _)))))))))))))))))) lt0)) (.old rfl (BLe.refl _) (.old rfl (BLe.refl _) (.old rfl (BLe.refl _) .nil)))))) ?_
      · ((repeat' first | exact TLes.nil | refine TLes.cons (TLe.eq rfl) ?_); skip)
      (repeat' ((fail_if_success (show AWp _ _ _ (Code.region 16 _ _) _ _)); (fail_if_success (show AWp _ _ _ (Code.region 18 _ _) _ _)); (fail_if_success (show AWp _ _ _ (Code.region 23 _ _) _ _)); first | refine Zad ?_ | (refine Zab tok (by rfl) ?_; conv => whnf) | (refine Zag ?_; conv => whnf) | refine Zaf rfl (fun hb => ?_) (fun hb => ?_)))
      · exfalso; rw [ho] at hb; cases hb
      · exfalso; rw [ho] at hb; cases hb
      clear hb
      (repeat' first | refine Zad ?_ | (refine Zab tok (by rfl) ?_; conv => whnf))
      refine .inl ⟨_, _, _, uG (QC.fc (hwi 9) rfl), ?_⟩
      conv => whnf
      (repeat' (refine Zah ?_; conv => whnf))
      exact ⟨_, rfl, Rel.agg (Rels.imm rfl)⟩
    · refine Zay (Weak.list (tl := [(4, .bp (4, 0, 0) 0), (5, .bp (5, 0, 0) 0), (6, .bp (6, 0, 0) 0), (7, .bp (7, 0, 0) 0), (8, .bp (8, 0, 0) 0)]) [((4, 0, 0), .old (4, 0, 0), Zal (Zan m)), ((5, 0, 0), .old (5, 0, 0), Zal (Zas (stM s 10 (f.regs.getD x.b.toNat 0)))), ((6, 0, 0), .old (6, 0, 0), Zal (Zax f)), ((7, 0, 0), .old (7, 0, 0), Zal (Zbc x)), ((8, 0, 0), .old (8, 0, 0), Zal Zcs)] rfl (by rfl) ?_ (.old rfl (BLe.refl _) (.old rfl (BLe.rowW (Nat.le_refl _) (ltS (.cons .refl (.cons (wkc (by decide)) (.cons (wkc (by decide)) (.cons (wkc (by decide)) (.cons (wkc (by decide)) (.cons (wkc (by decide)) (.cons (wkc (by decide)) (.cons (wkc (by decide)) (.cons (wkc (by decide)) (.cons (wkc (by decide)) (.cons (wkc (by decide)) (.cons (wks (by omega)) (.cons (wkc (by decide)) (.cons (wkc (by decide)) (.cons (wkc (by decide)) (.cons (wkc (by decide)) (.cons (wkc (by decide)) (Wks.refl _)))))))))))))))))) lt0)) (.old rfl (BLe.refl _) (.old rfl (BLe.refl _) (.old rfl (BLe.refl _) .nil)))))) ?_
      · ((repeat' first | exact TLes.nil | refine TLes.cons (TLe.eq rfl) ?_); skip)
      (repeat' ((fail_if_success (show AWp _ _ _ (Code.region 16 _ _) _ _)); (fail_if_success (show AWp _ _ _ (Code.region 18 _ _) _ _)); (fail_if_success (show AWp _ _ _ (Code.region 23 _ _) _ _)); first | refine Zad ?_ | (refine Zab tok (by rfl) ?_; conv => whnf) | (refine Zag ?_; conv => whnf) | refine Zaf rfl (fun hb => ?_) (fun hb => ?_)))
      · exfalso; rw [ho] at hb; cases hb
      · exfalso; rw [ho] at hb; cases hb
      clear hb
      (repeat' first | refine Zad ?_ | (refine Zab tok (by rfl) ?_; conv => whnf))
      refine .inl ⟨_, _, _, uG (QC.fc (hwi 10) rfl), ?_⟩
      conv => whnf
      (repeat' (refine Zah ?_; conv => whnf))
      exact ⟨_, rfl, Rel.agg (Rels.imm rfl)⟩
    · refine Zay (Weak.list (tl := [(4, .bp (4, 0, 0) 0), (5, .bp (5, 0, 0) 0), (6, .bp (6, 0, 0) 0), (7, .bp (7, 0, 0) 0), (8, .bp (8, 0, 0) 0)]) [((4, 0, 0), .old (4, 0, 0), Zal (Zan m)), ((5, 0, 0), .old (5, 0, 0), Zal (Zas (stM s 11 (f.regs.getD x.b.toNat 0)))), ((6, 0, 0), .old (6, 0, 0), Zal (Zax f)), ((7, 0, 0), .old (7, 0, 0), Zal (Zbc x)), ((8, 0, 0), .old (8, 0, 0), Zal Zcs)] rfl (by rfl) ?_ (.old rfl (BLe.refl _) (.old rfl (BLe.rowW (Nat.le_refl _) (ltS (.cons .refl (.cons (wkc (by decide)) (.cons (wkc (by decide)) (.cons (wkc (by decide)) (.cons (wkc (by decide)) (.cons (wkc (by decide)) (.cons (wkc (by decide)) (.cons (wkc (by decide)) (.cons (wkc (by decide)) (.cons (wkc (by decide)) (.cons (wkc (by decide)) (.cons (wkc (by decide)) (.cons (wks (by omega)) (.cons (wkc (by decide)) (.cons (wkc (by decide)) (.cons (wkc (by decide)) (.cons (wkc (by decide)) (Wks.refl _)))))))))))))))))) lt0)) (.old rfl (BLe.refl _) (.old rfl (BLe.refl _) (.old rfl (BLe.refl _) .nil)))))) ?_
      · ((repeat' first | exact TLes.nil | refine TLes.cons (TLe.eq rfl) ?_); skip)
      (repeat' ((fail_if_success (show AWp _ _ _ (Code.region 16 _ _) _ _)); (fail_if_success (show AWp _ _ _ (Code.region 18 _ _) _ _)); (fail_if_success (show AWp _ _ _ (Code.region 23 _ _) _ _)); first | refine Zad ?_ | (refine Zab tok (by rfl) ?_; conv => whnf) | (refine Zag ?_; conv => whnf) | refine Zaf rfl (fun hb => ?_) (fun hb => ?_)))
      · exfalso; rw [ho] at hb; cases hb
      · exfalso; rw [ho] at hb; cases hb
      clear hb
      (repeat' first | refine Zad ?_ | (refine Zab tok (by rfl) ?_; conv => whnf))
      refine .inl ⟨_, _, _, uG (QC.fc (hwi 11) rfl), ?_⟩
      conv => whnf
      (repeat' (refine Zah ?_; conv => whnf))
      exact ⟨_, rfl, Rel.agg (Rels.imm rfl)⟩
    · refine Zay (Weak.list (tl := [(4, .bp (4, 0, 0) 0), (5, .bp (5, 0, 0) 0), (6, .bp (6, 0, 0) 0), (7, .bp (7, 0, 0) 0), (8, .bp (8, 0, 0) 0)]) [((4, 0, 0), .old (4, 0, 0), Zal (Zan m)), ((5, 0, 0), .old (5, 0, 0), Zal (Zas (stM s 12 (f.regs.getD x.b.toNat 0)))), ((6, 0, 0), .old (6, 0, 0), Zal (Zax f)), ((7, 0, 0), .old (7, 0, 0), Zal (Zbc x)), ((8, 0, 0), .old (8, 0, 0), Zal Zcs)] rfl (by rfl) ?_ (.old rfl (BLe.refl _) (.old rfl (BLe.rowW (Nat.le_refl _) (ltS (.cons .refl (.cons (wkc (by decide)) (.cons (wkc (by decide)) (.cons (wkc (by decide)) (.cons (wkc (by decide)) (.cons (wkc (by decide)) (.cons (wkc (by decide)) (.cons (wkc (by decide)) (.cons (wkc (by decide)) (.cons (wkc (by decide)) (.cons (wkc (by decide)) (.cons (wkc (by decide)) (.cons (wkc (by decide)) (.cons (wks (by omega)) (.cons (wkc (by decide)) (.cons (wkc (by decide)) (.cons (wkc (by decide)) (Wks.refl _)))))))))))))))))) lt0)) (.old rfl (BLe.refl _) (.old rfl (BLe.refl _) (.old rfl (BLe.refl _) .nil)))))) ?_
      · ((repeat' first | exact TLes.nil | refine TLes.cons (TLe.eq rfl) ?_); skip)
      (repeat' ((fail_if_success (show AWp _ _ _ (Code.region 16 _ _) _ _)); (fail_if_success (show AWp _ _ _ (Code.region 18 _ _) _ _)); (fail_if_success (show AWp _ _ _ (Code.region 23 _ _) _ _)); first | refine Zad ?_ | (refine Zab tok (by rfl) ?_; conv => whnf) | (refine Zag ?_; conv => whnf) | refine Zaf rfl (fun hb => ?_) (fun hb => ?_)))
      · exfalso; rw [ho] at hb; cases hb
      · exfalso; rw [ho] at hb; cases hb
      clear hb
      (repeat' first | refine Zad ?_ | (refine Zab tok (by rfl) ?_; conv => whnf))
      refine .inl ⟨_, _, _, uG (QC.fc (hwi 12) rfl), ?_⟩
      conv => whnf
      (repeat' (refine Zah ?_; conv => whnf))
      exact ⟨_, rfl, Rel.agg (Rels.imm rfl)⟩
    · refine Zay (Weak.list (tl := [(4, .bp (4, 0, 0) 0), (5, .bp (5, 0, 0) 0), (6, .bp (6, 0, 0) 0), (7, .bp (7, 0, 0) 0), (8, .bp (8, 0, 0) 0)]) [((4, 0, 0), .old (4, 0, 0), Zal (Zan m)), ((5, 0, 0), .old (5, 0, 0), Zal (Zas (stM s 13 (f.regs.getD x.b.toNat 0)))), ((6, 0, 0), .old (6, 0, 0), Zal (Zax f)), ((7, 0, 0), .old (7, 0, 0), Zal (Zbc x)), ((8, 0, 0), .old (8, 0, 0), Zal Zcs)] rfl (by rfl) ?_ (.old rfl (BLe.refl _) (.old rfl (BLe.rowW (Nat.le_refl _) (ltS (.cons .refl (.cons (wkc (by decide)) (.cons (wkc (by decide)) (.cons (wkc (by decide)) (.cons (wkc (by decide)) (.cons (wkc (by decide)) (.cons (wkc (by decide)) (.cons (wkc (by decide)) (.cons (wkc (by decide)) (.cons (wkc (by decide)) (.cons (wkc (by decide)) (.cons (wkc (by decide)) (.cons (wkc (by decide)) (.cons (wkc (by decide)) (.cons (wks (by omega)) (.cons (wkc (by decide)) (.cons (wkc (by decide)) (Wks.refl _)))))))))))))))))) lt0)) (.old rfl (BLe.refl _) (.old rfl (BLe.refl _) (.old rfl (BLe.refl _) .nil)))))) ?_
      · ((repeat' first | exact TLes.nil | refine TLes.cons (TLe.eq rfl) ?_); skip)
      (repeat' ((fail_if_success (show AWp _ _ _ (Code.region 16 _ _) _ _)); (fail_if_success (show AWp _ _ _ (Code.region 18 _ _) _ _)); (fail_if_success (show AWp _ _ _ (Code.region 23 _ _) _ _)); first | refine Zad ?_ | (refine Zab tok (by rfl) ?_; conv => whnf) | (refine Zag ?_; conv => whnf) | refine Zaf rfl (fun hb => ?_) (fun hb => ?_)))
      · exfalso; rw [ho] at hb; cases hb
      · exfalso; rw [ho] at hb; cases hb
      clear hb
      (repeat' first | refine Zad ?_ | (refine Zab tok (by rfl) ?_; conv => whnf))
      refine .inl ⟨_, _, _, uG (QC.fc (hwi 13) rfl), ?_⟩
      conv => whnf
      (repeat' (refine Zah ?_; conv => whnf))
      exact ⟨_, rfl, Rel.agg (Rels.imm rfl)⟩
    · refine Zay (Weak.list (tl := [(4, .bp (4, 0, 0) 0), (5, .bp (5, 0, 0) 0), (6, .bp (6, 0, 0) 0), (7, .bp (7, 0, 0) 0), (8, .bp (8, 0, 0) 0)]) [((4, 0, 0), .old (4, 0, 0), Zal (Zan m)), ((5, 0, 0), .old (5, 0, 0), Zal (Zas (stM s 14 (f.regs.getD x.b.toNat 0)))), ((6, 0, 0), .old (6, 0, 0), Zal (Zax f)), ((7, 0, 0), .old (7, 0, 0), Zal (Zbc x)), ((8, 0, 0), .old (8, 0, 0), Zal Zcs)] rfl (by rfl) ?_ (.old rfl (BLe.refl _) (.old rfl (BLe.rowW (Nat.le_refl _) (ltS (.cons .refl (.cons (wkc (by decide)) (.cons (wkc (by decide)) (.cons (wkc (by decide)) (.cons (wkc (by decide)) (.cons (wkc (by decide)) (.cons (wkc (by decide)) (.cons (wkc (by decide)) (.cons (wkc (by decide)) (.cons (wkc (by decide)) (.cons (wkc (by decide)) (.cons (wkc (by decide)) (.cons (wkc (by decide)) (.cons (wkc (by decide)) (.cons (wkc (by decide)) (.cons (wks (by omega)) (.cons (wkc (by decide)) (Wks.refl _)))))))))))))))))) lt0)) (.old rfl (BLe.refl _) (.old rfl (BLe.refl _) (.old rfl (BLe.refl _) .nil)))))) ?_
      · ((repeat' first | exact TLes.nil | refine TLes.cons (TLe.eq rfl) ?_); skip)
      (repeat' ((fail_if_success (show AWp _ _ _ (Code.region 16 _ _) _ _)); (fail_if_success (show AWp _ _ _ (Code.region 18 _ _) _ _)); (fail_if_success (show AWp _ _ _ (Code.region 23 _ _) _ _)); first | refine Zad ?_ | (refine Zab tok (by rfl) ?_; conv => whnf) | (refine Zag ?_; conv => whnf) | refine Zaf rfl (fun hb => ?_) (fun hb => ?_)))
      · exfalso; rw [ho] at hb; cases hb
      · exfalso; rw [ho] at hb; cases hb
      clear hb
      (repeat' first | refine Zad ?_ | (refine Zab tok (by rfl) ?_; conv => whnf))
      refine .inl ⟨_, _, _, uG (QC.fc (hwi 14) rfl), ?_⟩
      conv => whnf
      (repeat' (refine Zah ?_; conv => whnf))
      exact ⟨_, rfl, Rel.agg (Rels.imm rfl)⟩
    · refine Zay (Weak.list (tl := [(4, .bp (4, 0, 0) 0), (5, .bp (5, 0, 0) 0), (6, .bp (6, 0, 0) 0), (7, .bp (7, 0, 0) 0), (8, .bp (8, 0, 0) 0)]) [((4, 0, 0), .old (4, 0, 0), Zal (Zan m)), ((5, 0, 0), .old (5, 0, 0), Zal (Zas (stM s 15 (f.regs.getD x.b.toNat 0)))), ((6, 0, 0), .old (6, 0, 0), Zal (Zax f)), ((7, 0, 0), .old (7, 0, 0), Zal (Zbc x)), ((8, 0, 0), .old (8, 0, 0), Zal Zcs)] rfl (by rfl) ?_ (.old rfl (BLe.refl _) (.old rfl (BLe.rowW (Nat.le_refl _) (ltS (.cons .refl (.cons (wkc (by decide)) (.cons (wkc (by decide)) (.cons (wkc (by decide)) (.cons (wkc (by decide)) (.cons (wkc (by decide)) (.cons (wkc (by decide)) (.cons (wkc (by decide)) (.cons (wkc (by decide)) (.cons (wkc (by decide)) (.cons (wkc (by decide)) (.cons (wkc (by decide)) (.cons (wkc (by decide)) (.cons (wkc (by decide)) (.cons (wkc (by decide)) (.cons (wkc (by decide)) (.cons (wks (by omega)) (Wks.refl _)))))))))))))))))) lt0)) (.old rfl (BLe.refl _) (.old rfl (BLe.refl _) (.old rfl (BLe.refl _) .nil)))))) ?_
      · ((repeat' first | exact TLes.nil | refine TLes.cons (TLe.eq rfl) ?_); skip)
      (repeat' ((fail_if_success (show AWp _ _ _ (Code.region 16 _ _) _ _)); (fail_if_success (show AWp _ _ _ (Code.region 18 _ _) _ _)); (fail_if_success (show AWp _ _ _ (Code.region 23 _ _) _ _)); first | refine Zad ?_ | (refine Zab tok (by rfl) ?_; conv => whnf) | (refine Zag ?_; conv => whnf) | refine Zaf rfl (fun hb => ?_) (fun hb => ?_)))
      · exfalso; rw [ho] at hb; cases hb
      · exfalso; rw [ho] at hb; cases hb
      clear hb
      (repeat' first | refine Zad ?_ | (refine Zab tok (by rfl) ?_; conv => whnf))
      refine .inl ⟨_, _, _, uG (QC.fc (hwi 15) rfl), ?_⟩
      conv => whnf
      (repeat' (refine Zah ?_; conv => whnf))
      exact ⟨_, rfl, Rel.agg (Rels.imm rfl)⟩
end Go.Proofs.YtoelbgjpmpoolaaGreat
namespace Go.Proofs.YtoelbgjpmpoolaaGreat
open Go Dv
set_option maxRecDepth 10000
set_option linter.unusedSimpArgs false
def newM (m : Zam) (inputs : List Int) : Mach := ⟨[frN m 0 []], List.replicate 16 0, inputs, [], 0, 0⟩
theorem c_newM (m : Zam) (inputs : List Int) (h1 : 0 < m.funcs.length) (hp : (m.funcs.getD 0 default).params = 0) (hR : (m.funcs.getD 0 default).regs ≤ 256) : FC Tryz.prog 61 [.agg (Zan m), u16s inputs] (.agg (Zas (newM m inputs))) := by
  refine Zao tok Tryz.func61 rfl (by decide +kernel) (Nat.le_of_ble_eq_true rfl) ?_
  have hN := c_frNew m 0 [] (by omega) (by omega) (by simp only [List.length_nil]; exact hp.symm) hR
  (repeat' first | refine Zad ?_ | (refine Zab tok (by rfl) ?_; conv => whnf))
  refine .inr ⟨_, _, _, uG (QH.give (rd := []) hN (.cons (.imm rfl) (.cons (.imm rfl) (.cons .nsl .nil))) rfl), ?_⟩
  conv => whnf
  (repeat' first | refine Zad ?_ | (refine Zab tok (by rfl) ?_; conv => whnf) | (refine Zah ?_; conv => whnf))
  refine ⟨_, rfl, Rel.agg (.cons (Rel.row rfl rfl rfl (fun z hz => ?_)) (.cons (Rel.imm rfl) (.cons (Rel.imm rfl) (.cons (Rel.imm rfl) (.cons (Rel.imm rfl) (.cons (Rel.imm rfl) (.cons (Rel.imm rfl) (.cons (Rel.imm rfl) (.cons (Rel.imm rfl) (.cons (Rel.imm rfl) (.cons (Rel.imm rfl) (.cons (Rel.imm rfl) (.cons (Rel.imm rfl) (.cons (Rel.imm rfl) (.cons (Rel.imm rfl) (.cons (Rel.imm rfl) (.cons (Rel.imm rfl) (.cons (Rel.imm rfl) (.cons (Rel.nsl' rfl) (.cons (Rel.imm rfl) (.cons (Rel.imm rfl) .nil)))))))))))))))))))))⟩
  have hz0 : z = 0 := by have : z < 1 := hz; omega
  subst hz0; rfl
end Go.Proofs.YtoelbgjpmpoolaaGreat
namespace Go.Proofs.YtoelbgjpmpoolaaGreat
open Go Dv
set_option maxRecDepth 10000
set_option linter.unusedSimpArgs false
def regA (f : Za9) (p : Int) : Int := f.regs.getD p.toNat 0
def goF (b : Zbe) (f : Za9) : Za9 := { f with block := if b.fin.kind = 3 ∧ regA f b.fin.a = 0 then b.fin.els else b.fin.to, at_ := 0 }
def Zd6 (m : Zam) (s : Mach) (f : Za9) (b : Zbe) : Mach :=
  if endB m f = false then insM m s f (b.ins.getD f.at_.toNat default)
  else if b.fin.kind = 1 then Zbn m s (regA f b.fin.a)
  else if b.fin.kind = 4 then Zcj m s b.fin.f b.fin.args
  else if b.fin.kind = 5 then Zb7 m s (regA f b.fin.a)
  else if b.fin.kind = 6 then Zb7 m s f.fly
  else Zb6 s (goF b f)
def Zdl (m : Zam) (s : Mach) : Mach := if s.done = 0 then Zd6 m s (topF s) (Za2 m (topF s)) else s
set_option maxHeartbeats 4000000 in
theorem c_Step (m : Zam) (s : Mach) (f : Za9) (b : Zbe) (hf : topF s = f) (hbe : Za2 m f = b) (hs : s.done = 0 → 0 < s.stack.length) (hsl : s.stack.length ≤ 1000) (hF : s.done = 0 → OkF m f)
    (hA : s.done = 0 → endB m f = true → (b.fin.kind = 1 ∨ b.fin.kind = 3 ∨ b.fin.kind = 5) → 0 ≤ b.fin.a ∧ b.fin.a < f.regs.length)
    (hI : s.done = 0 → endB m f = false → FCins m s f (b.ins.getD f.at_.toNat default))
    (h1 : s.done = 0 → endB m f = true → b.fin.kind = 1 → ∀ w, FC Tryz.prog 107 [.agg (Zan m), .agg (Zas s), .int .u16 w] (.agg (Zas (Zbn m s w))))
    (h4 : s.done = 0 → endB m f = true → b.fin.kind = 4 → FC Tryz.prog 108 [.agg (Zan m), .agg (Zas s), iv b.fin.f, ints b.fin.args] (.agg (Zas (Zcj m s b.fin.f b.fin.args))))
    (h5 : s.done = 0 → ∀ w, FC Tryz.prog 109 [.agg (Zan m), .agg (Zas s), .int .u16 w] (.agg (Zas (Zb7 m s w)))) :
    FC Tryz.prog 62 [.agg (Zan m), .agg (Zas s)] (.agg (Zas (Zdl m s))) := by
  refine Zao tok Tryz.func62 rfl (by decide +kernel) (Nat.le_of_ble_eq_true rfl) ?_
  have hmx : maxL = 4294967296 := rfl
  (repeat' ((fail_if_success (show AWp _ _ _ (Code.region 2 _ _) _ _)); (fail_if_success (show AWp _ _ _ (Code.region 3 _ _) _ _)); first | refine Zad ?_ | (refine Zab tok (by rfl) ?_; conv => whnf) | (refine Zag ?_; conv => whnf) | refine Zaf rfl (fun hb => ?_) (fun hb => ?_)))
  · have hd : ¬ s.done = 0 := by simpa using hb
    rw [show Zdl m s = s from if_neg hd]
    (repeat' first | (refine Zab tok (by rfl) ?_; conv => whnf) | (refine Zah ?_; conv => whnf))
    exact ⟨_, rfl, Rel.agg (Rels.imm rfl)⟩
  have hd : s.done = 0 := by simpa using hb
  clear hb
  rw [show Zdl m s = Zd6 m s (topF s) (Za2 m (topF s)) from if_pos hd, hf, hbe]
  replace hs := hs hd
  replace hF := hF hd
  replace hA := hA hd
  replace hI := hI hd
  replace h1 := h1 hd
  replace h4 := h4 hd
  replace h5 := h5 hd
  have hSt := c_stands m f hF
  have ha0 := hF.a0
  have ha1 := hF.a1
  have hE : endB m f = decide (f.at_ = b.ins.length) := by unfold endB; rw [hbe]
  rw [hbe] at hSt ha1
  have ht : s.stack.getD (IntKind.i64.wrap ((s.stack.length : Int) - 1)).toNat default = f := by
    have : (IntKind.i64.wrap ((s.stack.length : Int) - 1)).toNat = s.stack.length - 1 := by rw [Zak (by omega) (by omega)]; omega
    rw [this, ← hf]; rfl
  ((repeat' ((fail_if_success (show AWp _ _ _ (Code.region 4 _ _) _ _)); first | refine Zad ?_ | (refine Zab tok (by rfl) ?_; conv => whnf) | (refine @And.intro (Zaa _ _ _ _) _ ?_ ?_; rotate_left; (conv => whnf); rotate_right))); all_goals (try ((guard_target = Zaa _ _ _ _); refine Zae ?_; (all_goals (try simp only [Zaa, kzz, kz11, kz12, maxL, Zac] at *)); (all_goals (try (simp (disch := omega) only [Zak]))); all_goals omega)))
  refine Zay (Weak.list (tl := [(2, .bp (2, 0, 0) 0), (3, .bp (3, 0, 0) 0), (4, .bp (4, 0, 0) 0), (5, .bp (5, 0, 0) 0)]) [((2, 0, 0), .old (2, 0, 0), Zal (Zan m)), ((3, 0, 0), .old (3, 0, 0), Zal (Zas s)), ((4, 0, 0), .old (4, 0, 0), Zal Zcs), ((5, 0, 0), .old (5, 0, 0), .row true 5 1 (fun _ => Zax f))] rfl (by rfl) ?_ (.old rfl (BLe.refl _) (.old rfl (BLe.refl _) (.old rfl (BLe.refl _) (.old rfl (BLe.rowW (Nat.le_refl _) (ltS (Wks.of (by rw [← ht]; rfl)) lt0)) .nil))))) ?_
  · ((repeat' first | exact TLes.nil | refine TLes.cons (TLe.eq rfl) ?_); skip)
  (repeat' (refine Zab tok (by rfl) ?_; conv => whnf))
  refine .inl ⟨_, _, _, uG (QC.fc hSt rfl), ?_⟩
  conv => whnf
  (repeat' ((fail_if_success (show AWp _ _ _ (Code.region 6 _ _) _ _)); (fail_if_success (show AWp _ _ _ (Code.region 7 _ _) _ _)); first | refine Zad ?_ | (refine Zab tok (by rfl) ?_; conv => whnf) | (refine Zag ?_; conv => whnf) | refine Zaf rfl (fun hb => ?_) (fun hb => ?_)))
  · have he : endB m f = false := by rw [hE]; simpa using hb
    have hlt : f.at_ < b.ins.length := by simp at hb; omega
    clear hb
    rw [show Zd6 m s f b = insM m s f (b.ins.getD f.at_.toNat default) from if_pos he]
    ((repeat' first | (refine Za0 tok mix (by rfl) ?_; conv => whnf) | (refine @And.intro (Zaa _ _ _ _) _ ?_ ?_; rotate_left; (conv => whnf); rotate_right)); all_goals (try ((guard_target = Zaa _ _ _ _); refine Zae ?_; (all_goals (try simp only [Zaa, kzz, kz11, kz12, maxL, Zac] at *)); all_goals omega)))
    refine .inl ⟨_, _, _, uG (QC.fc (hI he) rfl), ?_⟩
    conv => whnf
    (repeat' (refine Zah ?_; conv => whnf))
    exact ⟨_, rfl, Rel.agg (Rels.imm rfl)⟩
  have he : endB m f = true := by rw [hE]; simpa using hb
  clear hb
  have hend : ∀ r, r = Zas (Zd6 m s f b) → r = Zas (Zd6 m s f b) := fun _ h => h
  clear hend
  (repeat' ((fail_if_success (show AWp _ _ _ (Code.region 10 _ _) _ _)); (fail_if_success (show AWp _ _ _ (Code.region 12 _ _) _ _)); (fail_if_success (show AWp _ _ _ (Code.region 14 _ _) _ _)); (fail_if_success (show AWp _ _ _ (Code.region 16 _ _) _ _)); (fail_if_success (show AWp _ _ _ (Code.region 17 _ _) _ _)); first | refine Zad ?_ | (refine Zab tok (by rfl) ?_; conv => whnf) | refine Zai ?_ | (refine Zag ?_; conv => whnf) | refine Zaf rfl (fun hb => ?_) (fun hb => ?_)))
  · have hk : b.fin.kind = 1 := by simpa using hb
    clear hb
    obtain ⟨g1, g2⟩ := hA he (.inl hk)
    rw [show Zd6 m s f b = Zbn m s (regA f b.fin.a) from by unfold Zd6; rw [if_neg (by rw [he]; simp), if_pos hk]]
    ((repeat' first | (refine Za0 tok mix (by rfl) ?_; conv => whnf) | (refine @And.intro (Zaa _ _ _ _) _ ?_ ?_; rotate_left; (conv => whnf); rotate_right)); all_goals (try ((guard_target = Zaa _ _ _ _); refine Zae ?_; (all_goals (try simp only [Zaa, kzz, kz11, kz12, maxL, Zac] at *)); all_goals omega)))
    refine .inl ⟨_, _, _, uG (QC.fc (h1 he hk (regA f b.fin.a)) rfl), ?_⟩
    conv => whnf
    (repeat' (refine Zah ?_; conv => whnf))
    exact ⟨_, rfl, Rel.agg (Rels.imm rfl)⟩
  · have hk : b.fin.kind = 4 := by simpa using hb
    clear hb
    rw [show Zd6 m s f b = Zcj m s b.fin.f b.fin.args from by unfold Zd6; rw [if_neg (by rw [he]; simp), if_neg (by omega), if_pos hk]]
    (repeat' (refine Zab tok (by rfl) ?_; conv => whnf))
    refine .inl ⟨_, _, _, uG (QC.fc (h4 he hk) rfl), ?_⟩
    conv => whnf
    (repeat' (refine Zah ?_; conv => whnf))
    exact ⟨_, rfl, Rel.agg (Rels.imm rfl)⟩
  · have hk : b.fin.kind = 5 := by simpa using hb
    clear hb
    obtain ⟨g1, g2⟩ := hA he (.inr (.inr hk))
    rw [show Zd6 m s f b = Zb7 m s (regA f b.fin.a) from by unfold Zd6; rw [if_neg (by rw [he]; simp), if_neg (by omega), if_neg (by omega), if_pos hk]]
    ((repeat' first | (refine Za0 tok mix (by rfl) ?_; conv => whnf) | (refine @And.intro (Zaa _ _ _ _) _ ?_ ?_; rotate_left; (conv => whnf); rotate_right)); all_goals (try ((guard_target = Zaa _ _ _ _); refine Zae ?_; (all_goals (try simp only [Zaa, kzz, kz11, kz12, maxL, Zac] at *)); all_goals omega)))
    refine .inl ⟨_, _, _, uG (QC.fc (h5 (regA f b.fin.a)) rfl), ?_⟩
    conv => whnf
    (repeat' (refine Zah ?_; conv => whnf))
    exact ⟨_, rfl, Rel.agg (Rels.imm rfl)⟩
  · have hk : b.fin.kind = 6 := by simpa using hb
    clear hb
    rw [show Zd6 m s f b = Zb7 m s f.fly from by unfold Zd6; rw [if_neg (by rw [he]; simp), if_neg (by omega), if_neg (by omega), if_neg (by omega), if_pos hk]]
    (repeat' (refine Zab tok (by rfl) ?_; conv => whnf))
    refine .inl ⟨_, _, _, uG (QC.fc (h5 f.fly) rfl), ?_⟩
    conv => whnf
    (repeat' (refine Zah ?_; conv => whnf))
    exact ⟨_, rfl, Rel.agg (Rels.imm rfl)⟩
  · have hk : Zd6 m s f b = Zb6 s (goF b f) := by
      unfold Zd6
      rw [if_neg (by rw [he]; simp), if_neg (by simp_all), if_neg (by simp_all), if_neg (by simp_all), if_neg (by simp_all)]
    rw [hk]
    by_cases h3 : b.fin.kind = 3
    · obtain ⟨g1, g2⟩ := hA he (.inr (.inl h3))
      ((repeat' first | refine Zad ?_ | (refine Zab tok (by rfl) ?_; conv => whnf) | (refine Zag ?_; conv => whnf) | refine Zaf rfl (fun hb => ?_) (fun hb => ?_) | (refine @And.intro (Zaa _ _ _ _) _ ?_ ?_; rotate_left; (conv => whnf); rotate_right)); all_goals (try ((guard_target = Zaa _ _ _ _); ((refine Za1 ?_; intro hgd; (conv at hgd => whnf))); (all_goals (try simp only [Zaa, kzz, kz11, kz12, maxL, Zac] at *)); all_goals omega)))
      · have hz : f.regs.getD b.fin.a.toNat 0 = 0 := by rw [decide_eq_true h3, cond_true] at hb; simpa using hb
        rw [show goF b f = { f with block := b.fin.els, at_ := 0 } from by unfold goF regA; rw [if_pos ⟨h3, hz⟩]]
        refine .inl ⟨_, _, _, uG (QC.fc (Ze4 s { f with block := b.fin.els, at_ := 0 } hs) rfl), ?_⟩
        conv => whnf
        (repeat' (refine Zah ?_; conv => whnf))
        exact ⟨_, rfl, Rel.agg (Rels.imm rfl)⟩
      · have hz : ¬ f.regs.getD b.fin.a.toNat 0 = 0 := by rw [decide_eq_true h3, cond_true] at hb; simpa using hb
        rw [show goF b f = { f with block := b.fin.to, at_ := 0 } from by unfold goF regA; rw [if_neg (fun h => hz h.2)]]
        refine .inl ⟨_, _, _, uG (QC.fc (Ze4 s { f with block := b.fin.to, at_ := 0 } hs) rfl), ?_⟩
        conv => whnf
        (repeat' (refine Zah ?_; conv => whnf))
        exact ⟨_, rfl, Rel.agg (Rels.imm rfl)⟩
    · ((repeat' first | refine Zad ?_ | (refine Zab tok (by rfl) ?_; conv => whnf) | (refine Zag ?_; conv => whnf) | refine Zaf rfl (fun hb => ?_) (fun hb => ?_) | (refine @And.intro (Zaa _ _ _ _) _ ?_ ?_; rotate_left; (conv => whnf); rotate_right)); all_goals (try ((guard_target = Zaa _ _ _ _); ((refine Za1 ?_; intro hgd; (conv at hgd => whnf))); (all_goals (try simp only [Zaa, kzz, kz11, kz12, maxL, Zac] at *)); all_goals omega)))
      · exfalso; rw [decide_eq_false h3] at hb; cases hb
      · rw [show goF b f = { f with block := b.fin.to, at_ := 0 } from by unfold goF regA; rw [if_neg (fun h => h3 h.1)]]
        refine .inl ⟨_, _, _, uG (QC.fc (Ze4 s { f with block := b.fin.to, at_ := 0 } hs) rfl), ?_⟩
        conv => whnf
        (repeat' (refine Zah ?_; conv => whnf))
        exact ⟨_, rfl, Rel.agg (Rels.imm rfl)⟩
end Go.Proofs.YtoelbgjpmpoolaaGreat
namespace Go.Proofs.YtoelbgjpmpoolaaGreat
open Go Dv
set_option maxRecDepth 10000
set_option linter.unusedSimpArgs false
def runM (m : Zam) (inputs : List Int) : Nat → Mach
  | 0 => newM m inputs
  | k + 1 => Zdl m (runM m inputs k)
theorem run_done {m : Zam} {inputs : List Int} {i : Nat} (h : ¬ (runM m inputs i).done = 0) : ∀ k, runM m inputs (i + k) = runM m inputs i
  | 0 => rfl
  | k + 1 => by
      show Zdl m (runM m inputs (i + k)) = _
      rw [run_done h k]
      exact if_neg h
theorem c_Run (m : Zam) (inputs : List Int) (n : Nat) (hn : n < 1000000) (hN : FC Tryz.prog 61 [.agg (Zan m), u16s inputs] (.agg (Zas (newM m inputs))))
    (hS : ∀ k, k < n → FC Tryz.prog 62 [.agg (Zan m), .agg (Zas (runM m inputs k))] (.agg (Zas (runM m inputs (k + 1))))) :
    FC Tryz.prog 23 [.agg (Zan m), u16s inputs, iv n] (.agg (Zas (runM m inputs n))) := by
  refine Zao tok Tryz.func23 rfl (by decide +kernel) (Nat.le_of_ble_eq_true rfl) ?_
  have hmx : maxL = 4294967296 := rfl
  (repeat' first | refine Zad ?_ | (refine Zab tok (by rfl) ?_; conv => whnf))
  refine .inl ⟨_, _, _, uG (QC.fc hN rfl), ?_⟩
  conv => whnf
  (repeat' ((fail_if_success (show AWp _ _ _ (Code.region 3 _ _) _ _)); first | refine Zad ?_ | (refine Zab tok (by rfl) ?_; conv => whnf) | refine Zai ?_))
  refine Zau (fun i : Nat => mkS [(2, iv n), (3, .bp (3, 0, 0) 0), (6, .bp (6, 0, 0) 0), (7, .bp (7, 0, 0) 0), (8, iv i)] [((3, 0, 0), Zal (Zan m)), ((6, 0, 0), Zal Zcs), ((7, 0, 0), .row true 21 1 (fun _ => Zas (runM m inputs i)))]) (fun i => i ≤ n) (fun i => n - i) 0 (Nat.zero_le _) ?_ ?_
  · refine Weak.list [((3, 0, 0), .old (3, 0, 0), Zal (Zan m)), ((6, 0, 0), .old (6, 0, 0), Zal Zcs), ((7, 0, 0), .old (7, 0, 0), .row true 21 1 (fun _ => Zas (runM m inputs 0)))] rfl (by rfl) ?_ (.old rfl (BLe.refl _) (.old rfl (BLe.refl _) (.old rfl (BLe.rowW (Nat.le_refl _) (ltS (Wks.of rfl) lt0)) .nil)))
    ((repeat' first | exact TLes.nil | refine TLes.cons (TLe.eq rfl) ?_); skip)
  intro i hi
  (repeat' ((fail_if_success (show AWp _ _ _ (Code.region 5 _ _) _ _)); (fail_if_success (show AWp _ _ _ (Code.region 6 _ _) _ _)); first | refine Zad ?_ | (refine Zab tok (by rfl) ?_; conv => whnf) | refine Zai ?_ | (refine Zag ?_; conv => whnf) | (refine Zav ?_; conv => whnf) | refine Zaf rfl (fun hb => ?_) (fun hb => ?_)))
  · have hlt : i < n ∧ (runM m inputs i).done = 0 := by
      by_cases e1 : (i : Int) < n <;> by_cases e2 : (runM m inputs i).done = 0 <;> simp [e1, e2] at hb
      exact ⟨by omega, e2⟩
    clear hb
    (repeat' (refine Zab tok (by rfl) ?_; conv => whnf))
    refine .inl ⟨_, _, _, uG (QC.fc (hS i hlt.1) rfl), ?_⟩
    conv => whnf
    have hi1 := hlt.1
    (repeat' (refine Zab tok (by rfl) ?_; conv => whnf))
    refine ⟨i + 1, hi1, by omega, ?_⟩
    refine Weak.list [((3, 0, 0), .old (3, 0, 0), Zal (Zan m)), ((6, 0, 0), .old (6, 0, 0), Zal Zcs), ((7, 0, 0), .old (7, 0, 0), .row true 21 1 (fun _ => Zas (runM m inputs (i + 1))))] rfl (by rfl) ?_ (.old rfl (BLe.refl _) (.old rfl (BLe.refl _) (.old rfl (BLe.rowW (Nat.le_refl _) (ltS (Wks.of rfl) lt0)) .nil)))
    ((repeat' first | exact TLes.nil | refine TLes.cons (TLe.eq rfl) ?_ | refine TLes.cons (TLe.int ?_) ?_); (all_goals first | ((try (simp only [Zaa, kzz, kz11, kz12, maxL, Zac] at *)); exact Zak (by omega) (by omega)) | skip))
  · have he : runM m inputs i = runM m inputs n := by
      by_cases e1 : i = n
      · rw [e1]
      · have e2 : ¬ (runM m inputs i).done = 0 := fun e2 => by
          rw [decide_eq_true (show (i : Int) < n by omega), e2] at hb; cases hb
        have := run_done e2 (n - i)
        rw [show i + (n - i) = n by omega] at this
        exact this.symm
    rw [← he]
    (repeat' first | (refine Zab tok (by rfl) ?_; conv => whnf) | (refine Zah ?_; conv => whnf))
    exact ⟨_, rfl, Rel.agg (Rels.imm rfl)⟩
end Go.Proofs.YtoelbgjpmpoolaaGreat
namespace Go.Proofs.YtoelbgjpmpoolaaGreat
open Go Dv
set_option maxRecDepth 10000
set_option linter.unusedSimpArgs false
def Zd2 (m : Zam) (f : Za9) : Ins := (Za2 m f).ins.getD f.at_.toNat default
structure CallF (m : Zam) (f : Za9) : Prop where
  fin : endB m f = true → (Za2 m f).fin.kind = 4
  ins : endB m f = false → (Zd2 m f).op = 11
structure OkM (m : Zam) (s : Mach) : Prop where
  cells : s.cells.length = 16
  fr : ∀ f ∈ s.stack, OkF m f
  ca : ∀ f ∈ s.stack.take (s.stack.length - 1), CallF m f
  len : s.stack.length ≤ 32
  pos : s.done = 0 → 0 < s.stack.length
  inp : (∀ x ∈ s.inputs, 0 ≤ x ∧ x ≤ 65535) ∧ s.inputs.length < 1000000
theorem okF_ins {m : Zam} {f : Za9} (hr : Za6 m = true) (h : OkF m f) (he : endB m f = false) : f.at_.toNat < (Za2 m f).ins.length ∧ InsP m (Zcp m f) (Zd2 m f) := by
  have h1 : ¬ f.at_ = (Za2 m f).ins.length := by unfold endB at he; simpa using he
  have h2 := h.a0
  have h3 := h.a1
  have hl : f.at_.toNat < (Za2 m f).ins.length := by omega
  refine ⟨hl, ?_⟩
  have := okF_blk hr h h.b0 h.b1
  unfold blkB at this
  rw [Bool.and_eq_true, List.all_eq_true] at this
  have := this.2 _ (Zb4 (default : Ins) hl)
  simpa [Zd2, Za2] using this
theorem okF_funP {m : Zam} {f : Func} (h : Zed m f = true) : FunP f := by
  unfold Zed at h; rw [Bool.and_eq_true, decide_eq_true_eq] at h; exact h.1
theorem okF_new {m : Zam} {n : Int} {args : List Int} (hr : Za6 m = true) (h0 : 0 ≤ n) (h1 : n < m.funcs.length) : OkF m (frN m n args) := by
  have hP := okF_funP (Zc8 hr (show n.toNat < m.funcs.length by omega))
  obtain ⟨p0, p1, p2, p3, p4, p5, p6⟩ := hP
  refine ⟨h0, h1, Int.le_refl _, ?_, Int.le_refl _, ?_, ?_⟩
  · show (0 : Int) < ((m.funcs.getD n.toNat default).blocks.length : Int); omega
  · exact Int.natCast_nonneg _
  · show (((List.range (m.funcs.getD n.toNat default).regs.toNat).map (regN args)).length : Int) = (m.funcs.getD n.toNat default).regs
    rw [List.length_map, List.length_range]; omega
theorem okF_W {m : Zam} {f : Za9} (h : OkF m f) (n w : Int) : OkF m (frW f n w) := ⟨h.f0, h.f1, h.b0, h.b1, h.a0, h.a1, by rw [show (frW f n w).regs.length = f.regs.length by simp [frW]]; exact h.regs⟩
theorem okF_to {m : Zam} {f : Za9} (h : OkF m f) {b : Int} (b0 : 0 ≤ b) (b1 : b < (Zcp m f).blocks.length) : OkF m { f with block := b, at_ := 0 } :=
  ⟨h.f0, h.f1, b0, b1, Int.le_refl _, Int.natCast_nonneg _, h.regs⟩
theorem okF_next {m : Zam} {f : Za9} (h : OkF m f) (he : endB m f = false) : OkF m { f with at_ := f.at_ + 1 } := by
  have h1 : ¬ f.at_ = (Za2 m f).ins.length := by unfold endB at he; simpa using he
  have h2 := h.a0
  have h3 := h.a1
  exact ⟨h.f0, h.f1, h.b0, h.b1, by show 0 ≤ f.at_ + 1; omega, by show f.at_ + 1 ≤ ((Za2 m f).ins.length : Int); omega, h.regs⟩
theorem goal_inM {f : Func} {n : Int} (h : goalB f n = true) : 0 ≤ n ∧ n < f.blocks.length := by
  unfold goalB at h
  cases h2 : inn n f.blocks.length with
  | false => rw [h2] at h; cases h
  | true => exact (Zac _ _).1 h2
theorem Zec {m : Zam} {s : Mach} (h : OkM m s) {f : Za9} (hf : OkF m f) (hp : 0 < s.stack.length) : OkM m (Zb6 s f) := by
  have hl : (Zb6 s f).stack.length = s.stack.length := by simp [Zb6]; omega
  have ht : (Zb6 s f).stack.take ((Zb6 s f).stack.length - 1) = s.stack.take (s.stack.length - 1) := by
    rw [hl]; show (s.stack.take (s.stack.length - 1) ++ [f]).take _ = _
    rw [List.take_append_of_le_length (by simp), List.take_take, Nat.min_self]
  refine ⟨h.cells, fun g hg => ?_, by rw [ht]; exact h.ca, by rw [hl]; exact h.len, fun _ => by rw [hl]; exact hp, h.inp⟩
  rcases List.mem_append.1 hg with hg | hg
  · exact h.fr g (List.mem_of_mem_take hg)
  · rw [List.mem_singleton.1 hg]; exact hf
theorem okM_end {m : Zam} {s : Mach} (h : OkM m s) {how w : Int} (hh : how ≠ 0) : OkM m (endM s how w) := ⟨h.cells, h.fr, h.ca, h.len, fun e => absurd e hh, h.inp⟩
theorem okM_take {m : Zam} {s : Mach} (h : OkM m s) (k : Nat) (hk : k ≤ s.stack.length) (hp : s.done = 0 → 0 < k) : OkM m (Zel s k) := by
  have hl : (Zel s k).stack.length = k := by simp [Zel]; omega
  refine ⟨h.cells, fun g hg => h.fr g (List.mem_of_mem_take hg), fun g hg => h.ca g ?_, by rw [hl]; have := h.len; omega, fun e => by rw [hl]; exact hp e, h.inp⟩
  rw [hl] at hg
  have : (Zel s k).stack.take (k - 1) = (s.stack.take (s.stack.length - 1)).take (k - 1) := by
    show (s.stack.take k).take (k - 1) = _
    rw [List.take_take, List.take_take, show min (k - 1) k = min (k - 1) (s.stack.length - 1) by omega]
  rw [this] at hg
  exact List.mem_of_mem_take hg
theorem popM_eq (s : Mach) : popM s = Zel s (s.stack.length - 1) := rfl
theorem top_mem {s : Mach} (h : 0 < s.stack.length) : topF s ∈ s.stack := Zb4 _ (by omega)
theorem okM_called {m : Zam} {s : Mach} (hr : Za6 m = true) (h : OkM m s) {n : Int} {places : List Int} (h0 : 0 ≤ n) (h1 : n < m.funcs.length) (hp : 0 < s.stack.length) (hc : CallF m (topF s)) : OkM m (Zcj m s n places) := by
  unfold Zcj
  split
  · exact okM_end h (by decide)
  · rename_i h32
    refine ⟨h.cells, fun g hg => ?_, fun g hg => ?_, by simp; omega, fun _ => by simp, h.inp⟩
    · rcases List.mem_append.1 hg with hg | hg
      · exact h.fr g hg
      · rw [List.mem_singleton.1 hg]; exact okF_new hr h0 h1
    · have hg2 : g ∈ s.stack := by
        have e : (s.stack ++ [frN m n (Zev (topF s) places)]).take ((s.stack ++ [frN m n (Zev (topF s) places)]).length - 1) = s.stack := by
          rw [List.length_append]; simp
        rw [← e]; exact hg
      have e : s.stack = s.stack.take (s.stack.length - 1) ++ [topF s] := by
        have e1 : s.stack.take (s.stack.length - 1 + 1) = s.stack.take (s.stack.length - 1) ++ [s.stack.getD (s.stack.length - 1) default] := by
          rw [List.take_add_one, List.getD_eq_getElem?_getD, List.getElem?_eq_getElem (by omega)]; rfl
        rw [show s.stack.length - 1 + 1 = s.stack.length by omega, List.take_length] at e1
        exact e1
      rw [e] at hg2
      rcases List.mem_append.1 hg2 with hg | hg
      · exact h.ca g hg
      · rw [List.mem_singleton.1 hg]; exact hc
theorem callF_dst {m : Zam} {f : Za9} (hr : Za6 m = true) (h : OkF m f) (hc : CallF m f) :
    (endB m f = true → (0 ≤ (Za2 m f).fin.dst ∧ (Za2 m f).fin.dst < f.regs.length) ∧ (0 ≤ (Za2 m f).fin.to ∧ (Za2 m f).fin.to < (Zcp m f).blocks.length)) ∧
    (endB m f = false → 0 ≤ (Zd2 m f).dst ∧ (Zd2 m f).dst < f.regs.length) := by
  refine ⟨fun he => ?_, fun he => ?_⟩
  · have hk := hc.fin he
    have hE := (Zfw hr h).2
    rw [h.regs]
    rcases hE with h | h | h | h | h
    · omega
    · omega
    · omega
    · exact ⟨(Zac _ _).1 h.2.2.1, goal_inM h.2.2.2.2.1⟩
    · omega
  · have hk := hc.ins he
    have hI := (okF_ins hr h he).2
    rw [h.regs]
    rcases hI with h | h | h | h | h | h | h
    · omega
    · omega
    · omega
    · omega
    · exact (Zac _ _).1 h.2.1
    · omega
    · omega
theorem top_take {s : Mach} {k : Nat} (h : k + 1 < s.stack.length) : s.stack.getD k default ∈ s.stack.take (s.stack.length - 1) := by
  rw [← Zb2 (l := s.stack) (k := s.stack.length - 1) default (by omega)]
  exact Zb4 _ (by simp; omega)
theorem pop_top {m : Zam} {s : Mach} (h : OkM m s) (h2 : 1 < s.stack.length) : OkF m (topF (popM s)) ∧ CallF m (topF (popM s)) := by
  have e : topF (popM s) = s.stack.getD (s.stack.length - 2) default := by
    unfold topF; rw [Zdd]; show (s.stack.take (s.stack.length - 1)).getD (s.stack.length - 1 - 1) default = _
    rw [Zb2 _ (by omega)]; rfl
  rw [e]
  exact ⟨h.fr _ (Zb4 _ (by omega)), h.ca _ (top_take (by omega))⟩
theorem okM_answered {m : Zam} {s : Mach} (hr : Za6 m = true) (h : OkM m s) {w : Int} (hp : 0 < s.stack.length) : OkM m (Zbn m s w) := by
  unfold Zbn
  split
  · rename_i h1
    have := h.cells
    exact ⟨h.cells, fun g hg => h.fr g (List.mem_of_mem_take hg), fun g hg => h.ca g (by
      have : g ∈ (s.stack.take (s.stack.length - 1)).take ((s.stack.take (s.stack.length - 1)).length - 1) := hg
      exact List.mem_of_mem_take this), by show (popM s).stack.length ≤ 32; rw [Zdd]; omega, fun e => absurd (show (1 : Int) = 0 from e) (by decide), h.inp⟩
  · rename_i h1
    obtain ⟨hF, hC⟩ := pop_top h (by omega)
    have hd := callF_dst hr hF hC
    refine Zec (popM_eq s ▸ okM_take h _ (by omega) (fun _ => by omega)) ?_ (by rw [Zdd]; omega)
    unfold answF
    split
    · rename_i he
      have := hd.1 he
      exact okF_to (okF_W hF _ _) this.2.1 this.2.2
    · rename_i he
      exact okF_next (okF_W hF _ _) (show endB m (topF (popM s)) = false from by simpa using he)
theorem okM_thrown {m : Zam} {s : Mach} (hr : Za6 m = true) (h : OkM m s) {w : Int} (hp : 0 < s.stack.length) : OkM m (Zb7 m s w) := by
  by_cases hany : (List.range (popM s).stack.length).any (Zbl m (popM s).stack w false) = true
  · have hT : Zb7 m s w = Zb6 (Zel (popM s) (Zdj (Zbl m (popM s).stack w true) ((popM s).stack.length - 1) + 1)) (landF m ((popM s).stack.getD (Zdj (Zbl m (popM s).stack w true) ((popM s).stack.length - 1)) default) (Za2 m ((popM s).stack.getD (Zdj (Zbl m (popM s).stack w true) ((popM s).stack.length - 1)) default)).fin.pad w) := by
      unfold Zb7; rw [if_pos hany]
    rw [List.any_eq_true] at hany
    obtain ⟨i, hi, hic⟩ := hany
    rw [List.mem_range] at hi
    obtain ⟨hK1, hK2⟩ := Zfg (p := Zbl m (popM s).stack w true) (n := (popM s).stack.length - 1) ⟨i, by omega, Zfi hic⟩
    rw [hT]
    have hgen : ∃ K, Zdj (Zbl m (popM s).stack w true) ((popM s).stack.length - 1) = K := ⟨_, rfl⟩
    obtain ⟨K, hK⟩ := hgen
    rw [hK] at hK1 hK2 ⊢
    have hpl := Zdd (s := s)
    have hF : OkF m ((popM s).stack.getD K default) := by
      rw [show (popM s).stack.getD K default = s.stack.getD K default from Zb2 _ (by omega)]
      exact h.fr _ (Zb4 _ (by omega))
    have hk4 : (Za2 m ((popM s).stack.getD K default)).fin.kind = 4 := by
      unfold Zbl Zfj at hK1
      simp only [Bool.and_eq_true, decide_eq_true_eq] at hK1
      exact hK1.2.1
    obtain ⟨⟨g1, g2⟩, g3, g4, g5⟩ := okF_pad hr hF hk4
    refine Zec (s := Zel (popM s) (K + 1)) ?_ ?_ (by simp [Zel]; omega)
    · have e : Zel (popM s) (K + 1) = Zel s (K + 1) := by
        show ({ s with stack := (s.stack.take (s.stack.length - 1)).take (K + 1) } : Mach) = { s with stack := s.stack.take (K + 1) }
        rw [List.take_take, show min (K + 1) (s.stack.length - 1) = K + 1 by omega]
      rw [e]
      exact okM_take h _ (by omega) (fun _ => by omega)
    · exact okF_W (okF_to (f := { (popM s).stack.getD K default with fly := w }) ⟨hF.f0, hF.f1, hF.b0, hF.b1, hF.a0, hF.a1, hF.regs⟩ g1 g2) _ _
  · have hT : Zb7 m s w = endM (popM s) 2 w := by
      unfold Zb7; rw [if_neg hany]
    rw [hT]
    exact ⟨h.cells, fun g hg => h.fr g (List.mem_of_mem_take hg), fun g hg => h.ca g (by
      have : g ∈ (s.stack.take (s.stack.length - 1)).take ((s.stack.take (s.stack.length - 1)).length - 1) := hg
      exact List.mem_of_mem_take this), by show (popM s).stack.length ≤ 32; rw [Zdd]; have := h.len; omega, fun e => absurd (show (2 : Int) = 0 from e) (by decide), h.inp⟩
theorem argsB_n {m : Zam} {f : Func} {n : Int} {l : List Int} (h : Zeh m f n l = true) : (0 ≤ n ∧ n < m.funcs.length) ∧ (l.length : Int) = (m.funcs.getD n.toNat default).params ∧ ∀ p ∈ l, 0 ≤ p ∧ p < f.regs := by
  unfold Zeh at h
  cases h2 : inn n m.funcs.length with
  | false => simp [h2] at h
  | true =>
    refine ⟨(Zac _ _).1 h2, ?_⟩
    simp [h2] at h
    refine ⟨by simpa using h.1, fun p hp => (Zac _ _).1 ?_⟩
    have := h.2 p hp
    simpa using this
end Go.Proofs.YtoelbgjpmpoolaaGreat
namespace Go.Proofs.YtoelbgjpmpoolaaGreat
open Go Dv
set_option maxRecDepth 10000
set_option linter.unusedSimpArgs false
theorem okM_ev {m : Zam} {s t : Mach} (h : OkM m s) (h1 : t.stack = s.stack) (h2 : t.cells.length = 16) (h3 : t.done = s.done) (h4 : (∀ x ∈ t.inputs, x ∈ s.inputs) ∧ t.inputs.length ≤ s.inputs.length) : OkM m t :=
  ⟨h2, by rw [h1]; exact h.fr, by rw [h1]; exact h.ca, by rw [h1]; exact h.len, by rw [h1, h3]; exact h.pos, fun x hx => h.inp.1 x (h4.1 x hx), Nat.lt_of_le_of_lt h4.2 h.inp.2⟩
theorem okM_ins {m : Zam} {s : Mach} (hr : Za6 m = true) (h : OkM m s) (hp : 0 < s.stack.length) (he : endB m (topF s) = false) : OkM m (insM m s (topF s) (Zd2 m (topF s))) := by
  have hF := h.fr _ (top_mem hp)
  have hN := okF_next hF he
  have hI := (okF_ins hr hF he).2
  unfold insM
  split
  · rename_i h11
    have hA : Zeh m (Zcp m (topF s)) (Zd2 m (topF s)).f (Zd2 m (topF s)).args = true := by
      rcases hI with h | h | h | h | h | h | h
      · omega
      · omega
      · omega
      · omega
      · exact h.2.2.2.2.2
      · omega
      · omega
    have := argsB_n hA
    exact okM_called hr h this.1.1 this.1.2 hp ⟨fun e => by (rw [he] at e; cases e), fun _ => h11⟩
  split
  · split
    · rename_i hok
      refine Zec h ?_ hp
      unfold reckR
      rw [if_pos (by unfold reckR at hok; split at hok; assumption; cases hok)]
      exact okF_next (okF_W hF _ _) he
    · exact okM_end h (by decide)
  split
  · split
    · exact okM_end h (by decide)
    · exact Zec h (okF_next (okF_W hF _ _) he) hp
  split
  · split
    · exact okM_end h (by decide)
    · exact Zec (okM_ev (t := { s with cells := s.cells.set (cellN (topF s) (Zd2 m (topF s))) ((topF s).regs.getD (Zd2 m (topF s)).b.toNat 0) }) h rfl (by simp; exact h.cells) rfl ⟨fun x hx => hx, Nat.le_refl _⟩) hN hp
  split
  · exact Zec (okM_ev (t := { s with events := s.events ++ [(topF s).regs.getD (Zd2 m (topF s)).a.toNat 0] }) h rfl h.cells rfl ⟨fun x hx => hx, Nat.le_refl _⟩) hN hp
  split
  · split
    · exact okM_end h (by decide)
    · exact Zec (okM_ev (t := { s with inputs := s.inputs.drop 1, events := s.events ++ [s.inputs.getD 0 0 + 65536] }) h rfl h.cells rfl ⟨fun x hx => List.mem_of_mem_drop hx, by simp⟩) (okF_next (okF_W hF _ _) he) hp
  · exact Zec h hN hp
theorem okF_goF {m : Zam} {f : Za9} (hr : Za6 m = true) (h : OkF m f) (h1 : (Za2 m f).fin.kind ≠ 1) (h4 : (Za2 m f).fin.kind ≠ 4) (h5 : (Za2 m f).fin.kind ≠ 5) (h6 : (Za2 m f).fin.kind ≠ 6) : OkF m (goF (Za2 m f) f) := by
  have hE := (Zfw hr h).2
  have hg : (goalB (Zcp m f) (Za2 m f).fin.to = true) ∧ ((Za2 m f).fin.kind = 3 → goalB (Zcp m f) (Za2 m f).fin.els = true) := by
    rcases hE with h | h | h | h | h
    · omega
    · exact ⟨h.2.2.2.2.2.2.1, fun e => by omega⟩
    · exact ⟨h.2.2.2.2.2.2.1, fun _ => h.2.2.2.2.2.2.2⟩
    · omega
    · omega
  unfold goF
  split
  · rename_i h3; have := goal_inM (hg.2 h3.1); exact okF_to h this.1 this.2
  · have := goal_inM hg.1; exact okF_to h this.1 this.2
theorem okM_step {m : Zam} {s : Mach} (hr : Za6 m = true) (h : OkM m s) : OkM m (Zdl m s) := by
  unfold Zdl
  split
  · rename_i hd
    have hp := h.pos hd
    have hF := h.fr _ (top_mem hp)
    unfold Zd6
    split
    · rename_i he; exact okM_ins hr h hp he
    rename_i he
    split
    · exact okM_answered hr h hp
    split
    · rename_i h1 h4
      have hE := (Zfw hr hF).2
      have hA : Zeh m (Zcp m (topF s)) (Za2 m (topF s)).fin.f (Za2 m (topF s)).fin.args = true := by
        rcases hE with h | h | h | h | h
        · omega
        · omega
        · omega
        · exact h.2.2.2.1
        · omega
      have := argsB_n hA
      exact okM_called hr h this.1.1 this.1.2 hp ⟨fun _ => h4, fun e => absurd e he⟩
    split
    · exact okM_thrown hr h hp
    split
    · exact okM_thrown hr h hp
    · rename_i h1 h4 h5 h6
      exact Zec h (okF_goF hr hF h1 h4 h5 h6) hp
  · exact h
theorem right0 {m : Zam} (hr : Za6 m = true) : 0 < m.funcs.length ∧ (m.funcs.getD 0 default).params = 0 := by
  unfold Za6 at hr; rw [Bool.and_eq_true, decide_eq_true_eq] at hr; exact ⟨hr.1.1, hr.1.2.2⟩
theorem okM_new {m : Zam} {inputs : List Int} (hr : Za6 m = true) (hi : (∀ x ∈ inputs, 0 ≤ x ∧ x ≤ 65535) ∧ inputs.length < 1000000) : OkM m (newM m inputs) := by
  refine ⟨rfl, fun f hf => ?_, fun f hf => ?_, by show 1 ≤ 32; omega, fun _ => by show 0 < 1; omega, hi⟩
  · rw [List.mem_singleton.1 hf]; exact okF_new hr (by omega) (by have := (right0 hr).1; omega)
  · cases hf
theorem okM_run {m : Zam} {inputs : List Int} (hr : Za6 m = true) (hi : (∀ x ∈ inputs, 0 ≤ x ∧ x ≤ 65535) ∧ inputs.length < 1000000) : ∀ k, OkM m (runM m inputs k)
  | 0 => okM_new hr hi
  | k + 1 => okM_step hr (okM_run hr hi k)
theorem ev_called {m : Zam} {s : Mach} {n : Int} {l : List Int} : (Zcj m s n l).events = s.events := by unfold Zcj; split <;> rfl
theorem ev_answered {m : Zam} {s : Mach} {w : Int} : (Zbn m s w).events = s.events := by unfold Zbn; split <;> rfl
theorem ev_thrown {m : Zam} {s : Mach} {w : Int} : (Zb7 m s w).events = s.events := by unfold Zb7; dsimp only; split <;> rfl
theorem ev_ins {m : Zam} {s : Mach} {f : Za9} {x : Ins} : (insM m s f x).events = s.events ∨ ∃ e, (insM m s f x).events = s.events ++ [e] := by
  unfold insM
  split
  · exact .inl ev_called
  split
  · split <;> exact .inl rfl
  split
  · split <;> exact .inl rfl
  split
  · split <;> exact .inl rfl
  split
  · exact .inr ⟨_, rfl⟩
  split
  · split
    · exact .inl rfl
    · exact .inr ⟨_, rfl⟩
  · exact .inl rfl
theorem ev_step {m : Zam} {s : Mach} : (Zdl m s).events = s.events ∨ ∃ e, (Zdl m s).events = s.events ++ [e] := by
  unfold Zdl
  split
  · unfold Zd6
    split
    · exact ev_ins
    split
    · exact .inl ev_answered
    split
    · exact .inl ev_called
    split
    · exact .inl ev_thrown
    split
    · exact .inl ev_thrown
    · exact .inl rfl
  · exact .inl rfl
theorem ev_run {m : Zam} {inputs : List Int} : ∀ k, (runM m inputs k).events.length ≤ k
  | 0 => Nat.le_refl _
  | k + 1 => by
      have h1 := ev_run (m := m) (inputs := inputs) k
      show (Zdl m (runM m inputs k)).events.length ≤ k + 1
      rcases ev_step (m := m) (s := runM m inputs k) with h | ⟨e, h⟩
      · rw [h]; omega
      · rw [h, List.length_append]; simp; exact h1
theorem right_regs {m : Zam} (hr : Za6 m = true) {n : Int} (h0 : 0 ≤ n) (h1 : n < m.funcs.length) : (m.funcs.getD n.toNat default).regs ≤ 256 := (okF_funP (Zc8 hr (show n.toNat < m.funcs.length by omega))).2.2.2.1
theorem c_calledOk {m : Zam} {s : Mach} (hr : Za6 m = true) (h : OkM m s) (hp : 0 < s.stack.length) {n : Int} {l : List Int} (hA : Zeh m (Zcp m (topF s)) n l = true) :
    FC Tryz.prog 108 [.agg (Zan m), .agg (Zas s), iv n, ints l] (.agg (Zas (Zcj m s n l))) := by
  have := argsB_n hA
  exact c_rcalled m s n l hp this.1.1 this.1.2 this.2.1 (right_regs hr this.1.1 this.1.2) (fun p hp' => by rw [(h.fr _ (top_mem hp)).regs]; exact this.2.2 p hp')
theorem c_insOk {m : Zam} {s : Mach} (hr : Za6 m = true) (h : OkM m s) (hp : 0 < s.stack.length) (hev : s.events.length < 1000000) (he : endB m (topF s) = false) : FCins m s (topF s) (Zd2 m (topF s)) := by
  have hF := h.fr _ (top_mem hp)
  have hI := (okF_ins hr hF he).2
  have h64 := (Zfw hr hF).1
  have a0 := hF.a0
  have a1 := hF.a1
  have hR := hF.regs
  rcases hI with h1 | h1 | h1 | h1 | h1 | h1 | h1
  · have hd := (Zac _ _).1 h1.2.1
    exact c_ins8 m s _ _ hp (by omega) (c_Reckon _ _ a0 (by omega) (by omega) (by omega) (by rw [hR]; exact hd) (fun h => by omega) (fun h => by omega))
  · have hd := (Zac _ _).1 h1.2.1
    have ha := (Zac _ _).1 h1.2.2.1
    rcases h1.1 with ho | ho
    · exact c_ins8 m s _ _ hp (by omega) (c_Reckon _ _ a0 (by omega) (by omega) (by omega) (by rw [hR]; exact hd) (fun h => by rw [hR]; exact ha) (fun h => by omega))
    · exact c_ins9 m s _ _ hp ho (by rw [hR]; exact hd) (by rw [hR]; exact ha) a0 (by omega)
  · have hd := (Zac _ _).1 h1.2.1
    have ha := (Zac _ _).1 h1.2.2.1
    have hb := (Zac _ _).1 h1.2.2.2.1
    exact c_ins8 m s _ _ hp (by omega) (c_Reckon _ _ a0 (by omega) (by omega) (by omega) (by rw [hR]; exact hd) (fun h => by rw [hR]; exact ha) (fun h => by rw [hR]; exact hb))
  · have ha := (Zac _ _).1 h1.2.2.1
    have hb := (Zac _ _).1 h1.2.2.2.1
    exact c_ins10 m s _ _ hp h1.1 (by rw [hR]; exact hb) h.cells (by rw [hR]; exact ha) a0 (by omega)
  · exact c_ins11 m s _ _ h1.1 (c_calledOk hr h hp h1.2.2.2.2.2)
  · have ha := (Zac _ _).1 h1.2.2.1
    exact c_ins12 m s _ _ hp h1.1 (by rw [hR]; exact ha) a0 (by omega) hev
  · have hd := (Zac _ _).1 h1.2.1
    exact c_ins13 m s _ _ hp h1.1 (by rw [hR]; exact hd) a0 (by omega) hev (fun i hi => h.inp.1 _ (Zb4 _ hi)) h.inp.2
theorem c_StepOk {m : Zam} {s : Mach} (hr : Za6 m = true) (h : OkM m s) (hev : s.events.length < 1000000) : FC Tryz.prog 62 [.agg (Zan m), .agg (Zas s)] (.agg (Zas (Zdl m s))) := by
  refine c_Step m s _ _ rfl rfl h.pos (by have := h.len; omega) (fun hd => h.fr _ (top_mem (h.pos hd))) ?_ ?_ ?_ ?_ ?_
  · intro hd he hk
    have hF := h.fr _ (top_mem (h.pos hd))
    have hE := (Zfw hr hF).2
    rw [hF.regs]
    rcases hE with h | h | h | h | h
    · exact (Zac _ _).1 h.2.1
    · omega
    · exact (Zac _ _).1 h.2.1
    · omega
    · omega
  · intro hd he
    exact c_insOk hr h (h.pos hd) hev he
  · intro hd he hk w
    have hp := h.pos hd
    refine c_answered m s w hp (fun h2 => (pop_top h h2).1) (fun h2 => ?_) (fun h2 he => ?_) (fun h2 he => ?_)
    · have hF := (pop_top h h2).1
      have := (Zfw hr hF).1
      have := hF.a1
      omega
    · exact ((callF_dst hr (pop_top h h2).1 (pop_top h h2).2).1 he).1
    · exact (callF_dst hr (pop_top h h2).1 (pop_top h h2).2).2 he
  · intro hd he hk
    have hF := h.fr _ (top_mem (h.pos hd))
    have hE := (Zfw hr hF).2
    refine c_calledOk hr h (h.pos hd) ?_
    rcases hE with h | h | h | h | h
    · omega
    · omega
    · omega
    · exact h.2.2.2.1
    · omega
  · intro hd w
    exact c_thrown m s w hr (h.pos hd) (fun i hi => h.fr _ (Zb4 _ hi))
theorem c_RunOk {m : Zam} {inputs : List Int} (hr : Za6 m = true) (hi : (∀ x ∈ inputs, 0 ≤ x ∧ x ≤ 65535) ∧ inputs.length < 1000000) (n : Nat) (hn : n < 1000000) : FC Tryz.prog 23 [.agg (Zan m), u16s inputs, iv n] (.agg (Zas (runM m inputs n))) := by
  have h0 := right0 hr
  refine c_Run m inputs n hn (c_newM m inputs h0.1 h0.2 (right_regs hr (n := 0) (by omega) (by omega))) (fun k hk => ?_)
  exact c_StepOk hr (okM_run hr hi k) (by have := ev_run (m := m) (inputs := inputs) k; omega)
end Go.Proofs.YtoelbgjpmpoolaaGreat
namespace Go.Proofs.YtoelbgjpmpoolaaGreat
open Go Dv
set_option maxRecDepth 10000
set_option linter.unusedSimpArgs false
theorem c_rInts (a b : List Int) : FC Tryz.prog 63 [ints a, ints b] (.bool (decide (a = b))) := by
  refine Zao tok Tryz.func63 rfl (by decide +kernel) (Nat.le_of_ble_eq_true rfl) ?_
  refine Zap 0 (fun hl => ?_)
  have hl0 : a.length ≤ maxL := hl.1
  (repeat' first | refine Zad ?_ | (refine Zab tok (by rfl) ?_; conv => whnf) | refine Zai ?_ | (refine Zag ?_; conv => whnf) | (refine Zah ?_; conv => whnf) | refine Zaf rfl (fun hb => ?_) (fun hb => ?_))
  · refine ⟨_, rfl, Rel.bool ?_⟩
    symm; rw [decide_eq_false_iff_not]
    intro e; subst e; simp at hb
  have hlen : a.length = b.length := by simp at hb; omega
  clear hb
  refine Zau (fun i : Nat => mkS [(0, ints a), (1, ints b), (5, iv i)] [])
    (fun i => i ≤ a.length ∧ ∀ j, j < i → a.getD j 0 = b.getD j 0) (fun i => a.length - i) 0 ⟨Nat.zero_le _, by simp⟩ ?_ ?_
  · refine Weak.list [] rfl (by rfl) ?_ .nil
    ((repeat' first | exact TLes.nil | refine TLes.cons (TLe.eq rfl) ?_); skip)
  rintro i ⟨hi2, hc⟩
  ((repeat' first | refine Zad ?_ | (refine Zab tok (by rfl) ?_; conv => whnf) | (refine Za0 tok mix (by rfl) ?_; conv => whnf) | refine Zai ?_ | (refine Zag ?_; conv => whnf) | (refine Zav ?_; conv => whnf) | (refine Zah ?_; conv => whnf) | refine Zaf rfl (fun hb => ?_) (fun hb => ?_) | (refine @And.intro (Zaa _ _ _ _) _ ?_ ?_; rotate_left; (conv => whnf); rotate_right)); all_goals (try ((guard_target = Zaa _ _ _ _); refine Zae ?_; (all_goals (try simp only [Zaa, kzz, kz11, kz12, maxL, Zac] at *)); all_goals omega)))
  · have hlt : i < a.length := by rename_i h; simp only [Zaa, kzz, kz11, kz12, maxL, Zac] at *; omega
    refine ⟨_, rfl, Rel.bool ?_⟩
    symm; rw [decide_eq_false_iff_not]
    intro e; subst e; simp at hb
  · have hlt : i < a.length := by rename_i h; simp only [Zaa, kzz, kz11, kz12, maxL, Zac] at *; omega
    refine ⟨i + 1, ⟨hlt, fun j hj => ?_⟩, by omega, ?_⟩
    · by_cases e : j = i
      · subst e; simpa using hb
      · exact hc j (by omega)
    refine Weak.list [] rfl (by rfl) ?_ .nil
    ((repeat' first | exact TLes.nil | refine TLes.cons (TLe.eq rfl) ?_ | refine TLes.cons (TLe.int ?_) ?_); (all_goals first | ((try (simp only [Zaa, kzz, kz11, kz12, maxL, Zac] at *)); exact Zak (by omega) (by omega)) | skip))
  · refine ⟨_, rfl, Rel.bool ?_⟩
    symm; rw [decide_eq_true_eq]
    exact Zbk 0 hlen (fun j hj => hc j (by simp only [Zaa, kzz, kz11, kz12, maxL, Zac] at *; omega))
theorem c_rSameIns (x y : Ins) : FC Tryz.prog 94 [.agg (Zbc x), .agg (Zbc y)] (.bool (decide (x = y))) := by
  refine Zao tok Tryz.func94 rfl (by decide +kernel) (Nat.le_of_ble_eq_true rfl) ?_
  (repeat' first | refine Zad ?_ | (refine Zab tok (by rfl) ?_; conv => whnf))
  refine .inl ⟨_, _, _, uG (QC.fc (c_rInts x.args y.args) rfl), ?_⟩
  conv => whnf
  (repeat' (refine Zah ?_; conv => whnf))
  refine ⟨_, rfl, Rel.bool ?_⟩
  obtain ⟨a1, a2, a3, a4, a5, a6, a7⟩ := x
  obtain ⟨b1, b2, b3, b4, b5, b6, b7⟩ := y
  rw [Bool.eq_iff_iff]
  simp [and_assoc]
theorem c_rSameEnd (x y : End) : FC Tryz.prog 93 [.agg (Zdi x), .agg (Zdi y)] (.bool (decide (x = y))) := by
  refine Zao tok Tryz.func93 rfl (by decide +kernel) (Nat.le_of_ble_eq_true rfl) ?_
  (repeat' first | refine Zad ?_ | (refine Zab tok (by rfl) ?_; conv => whnf))
  refine .inl ⟨_, _, _, uG (QC.fc (c_rInts x.args y.args) rfl), ?_⟩
  conv => whnf
  (repeat' (refine Zah ?_; conv => whnf))
  refine ⟨_, rfl, Rel.bool ?_⟩
  obtain ⟨a1, a2, a3, a4, a5, a6, a7, a8⟩ := x
  obtain ⟨b1, b2, b3, b4, b5, b6, b7, b8⟩ := y
  rw [Bool.eq_iff_iff]
  simp [and_assoc]
theorem c_rSamePad (x y : Pad) : FC Tryz.prog 92 [.agg (Zcy x), .agg (Zcy y)] (.bool (decide (x = y))) := by
  refine Zao tok Tryz.func92 rfl (by decide +kernel) (Nat.le_of_ble_eq_true rfl) ?_
  refine Zap 0 (fun hl => ?_)
  have hl0 : x.catch_.length ≤ maxL := hl.2.1.1
  obtain ⟨a1, a2, a3, a4⟩ := x
  obtain ⟨b1, b2, b3, b4⟩ := y
  simp only at hl0
  (repeat' first | refine Zad ?_ | (refine Zab tok (by rfl) ?_; conv => whnf) | refine Zai ?_ | (refine Zag ?_; conv => whnf) | (refine Zah ?_; conv => whnf) | refine Zaf rfl (fun hb => ?_) (fun hb => ?_))
  · refine ⟨_, rfl, Rel.bool ?_⟩
    symm; rw [decide_eq_false_iff_not]
    intro e; cases e; simp at hb
  have hall : a1 = b1 ∧ a3 = b3 ∧ a4 = b4 ∧ a2.length = b2.length := by
    simp [and_assoc] at hb
    refine ⟨hb.1, hb.2.1, hb.2.2.1, ?_⟩
    have := hb.2.2.2; omega
  clear hb
  obtain ⟨rfl, rfl, rfl, hlen⟩ := hall
  refine Zau (fun i : Nat => mkS [(2, .bp (2, 0, 0) 0), (3, .bp (3, 0, 0) 0), (5, iv i)] [((2, 0, 0), Zal (Zcy ⟨a1, a2, a3, a4⟩)), ((3, 0, 0), Zal (Zcy ⟨a1, b2, a3, a4⟩))])
    (fun i => i ≤ a2.length ∧ ∀ j, j < i → a2.getD j 0 = b2.getD j 0) (fun i => a2.length - i) 0 ⟨Nat.zero_le _, by simp⟩ ?_ ?_
  · refine Weak.list [((2, 0, 0), .old (2, 0, 0), Zal (Zcy ⟨a1, a2, a3, a4⟩)), ((3, 0, 0), .old (3, 0, 0), Zal (Zcy ⟨a1, b2, a3, a4⟩))] rfl (by rfl) ?_ (.old rfl (BLe.refl _) (.old rfl (BLe.refl _) .nil))
    ((repeat' first | exact TLes.nil | refine TLes.cons (TLe.eq rfl) ?_); skip)
  rintro i ⟨hi2, hc⟩
  ((repeat' first | refine Zad ?_ | (refine Zab tok (by rfl) ?_; conv => whnf) | (refine Za0 tok mix (by rfl) ?_; conv => whnf) | refine Zai ?_ | (refine Zag ?_; conv => whnf) | (refine Zav ?_; conv => whnf) | (refine Zah ?_; conv => whnf) | refine Zaf rfl (fun hb => ?_) (fun hb => ?_) | (refine @And.intro (Zaa _ _ _ _) _ ?_ ?_; rotate_left; (conv => whnf); rotate_right)); all_goals (try ((guard_target = Zaa _ _ _ _); refine Zae ?_; (all_goals (try simp only [Zaa, kzz, kz11, kz12, maxL, Zac] at *)); all_goals omega)))
  · have hlt : i < a2.length := by rename_i h; simp only [Zaa, kzz, kz11, kz12, maxL, Zac] at *; omega
    refine ⟨_, rfl, Rel.bool ?_⟩
    symm; rw [decide_eq_false_iff_not]
    intro e; cases e; simp at hb
  · have hlt : i < a2.length := by rename_i h; simp only [Zaa, kzz, kz11, kz12, maxL, Zac] at *; omega
    refine ⟨i + 1, ⟨hlt, fun j hj => ?_⟩, by omega, ?_⟩
    · by_cases e : j = i
      · subst e; simpa using hb
      · exact hc j (by omega)
    refine Weak.list [((2, 0, 0), .old (2, 0, 0), Zal (Zcy ⟨a1, a2, a3, a4⟩)), ((3, 0, 0), .old (3, 0, 0), Zal (Zcy ⟨a1, b2, a3, a4⟩))] rfl (by rfl) ?_ (.old rfl (BLe.refl _) (.old rfl (BLe.refl _) .nil))
    ((repeat' first | exact TLes.nil | refine TLes.cons (TLe.eq rfl) ?_ | refine TLes.cons (TLe.int ?_) ?_); (all_goals first | ((try (simp only [Zaa, kzz, kz11, kz12, maxL, Zac] at *)); exact Zak (by omega) (by omega)) | skip))
  · refine ⟨_, rfl, Rel.bool ?_⟩
    symm; rw [decide_eq_true_eq]
    rw [Zbk 0 hlen (fun j hj => hc j (by simp only [Zaa, kzz, kz11, kz12, maxL, Zac] at *; omega))]
theorem c_rSameFunc (x y : Func) : FC Tryz.prog 54 [.agg (Za3 x), .agg (Za3 y)] (.bool (decide (x = y))) := by
  refine Zao tok Tryz.func54 rfl (by decide +kernel) (Nat.le_of_ble_eq_true rfl) ?_
  refine Zap 0 (fun hl => ?_)
  have hl0 : x.blocks.length ≤ maxL := hl.2.2.1.1
  have hl1 : ∀ i, i < x.blocks.length → (x.blocks.getD i default).ins.length ≤ maxL := fun i hi => (hl.2.2.1.2 i hi).2.2.2.2.2.1.1
  have hmx : maxL = 4294967296 := rfl
  clear hl
  obtain ⟨a1, a2, a3⟩ := x
  obtain ⟨b1, b2, b3⟩ := y
  simp only at hl0 hl1
  (repeat' first | refine Zad ?_ | (refine Zab tok (by rfl) ?_; conv => whnf) | refine Zai ?_ | (refine Zag ?_; conv => whnf) | (refine Zah ?_; conv => whnf) | refine Zaf rfl (fun hb => ?_) (fun hb => ?_))
  · refine ⟨_, rfl, Rel.bool ?_⟩
    symm; rw [decide_eq_false_iff_not]
    intro e; cases e; simp at hb
  have hall : a1 = b1 ∧ a2 = b2 ∧ a3.length = b3.length := by
    simp [and_assoc] at hb
    refine ⟨hb.1, hb.2.1, ?_⟩
    have := hb.2.2; omega
  clear hb
  obtain ⟨rfl, rfl, hlen⟩ := hall
  refine Zau (fun i : Nat => mkS [(2, .bp (2, 0, 0) 0), (3, .bp (3, 0, 0) 0), (5, iv i)] [((2, 0, 0), Zal (Za3 ⟨a1, a2, a3⟩)), ((3, 0, 0), Zal (Za3 ⟨a1, a2, b3⟩))])
    (fun i => i ≤ a3.length ∧ ∀ j, j < i → a3.getD j default = b3.getD j default) (fun i => a3.length - i) 0 ⟨Nat.zero_le _, by simp⟩ ?_ ?_
  · refine Weak.list [((2, 0, 0), .old (2, 0, 0), Zal (Za3 ⟨a1, a2, a3⟩)), ((3, 0, 0), .old (3, 0, 0), Zal (Za3 ⟨a1, a2, b3⟩))] rfl (by rfl) ?_ (.old rfl (BLe.refl _) (.old rfl (BLe.refl _) .nil))
    ((repeat' first | exact TLes.nil | refine TLes.cons (TLe.eq rfl) ?_); skip)
  rintro i ⟨hi2, hc⟩
  ((repeat' ((fail_if_success (show AWp _ _ _ (Code.region 7 _ _) _ _)); first | refine Zad ?_ | (refine Zab tok (by rfl) ?_; conv => whnf) | (refine Za0 tok mix (by rfl) ?_; conv => whnf) | refine Zai ?_ | (refine Zag ?_; conv => whnf) | (refine Zav ?_; conv => whnf) | (refine Zah ?_; conv => whnf) | refine Zaf rfl (fun hb => ?_) (fun hb => ?_) | (refine @And.intro (Zaa _ _ _ _) _ ?_ ?_; rotate_left; (conv => whnf); rotate_right))); all_goals (try ((guard_target = Zaa _ _ _ _); refine Zae ?_; (all_goals (try simp only [Zaa, kzz, kz11, kz12, maxL, Zac] at *)); all_goals omega)))
  · have hlt : i < a3.length := by simp only [decide_eq_true_eq] at hb; omega
    clear hb
    have hil := hl1 i hlt
    have hii : (i : Int).toNat = i := Int.toNat_natCast i
    have hgen : ∃ p, a3.getD i default = p := ⟨_, rfl⟩
    obtain ⟨p, hp⟩ := hgen
    have hgen : ∃ q, b3.getD i default = q := ⟨_, rfl⟩
    obtain ⟨q, hq⟩ := hgen
    refine Zay (Weak.list (tl := [(2, .bp (2, 0, 0) 0), (3, .bp (3, 0, 0) 0), (5, iv i), (6, .bp (6, 0, 0) 0), (7, .bp (7, 0, 0) 0)]) [((2, 0, 0), .old (2, 0, 0), Zal (Za3 ⟨a1, a2, a3⟩)), ((3, 0, 0), .old (3, 0, 0), Zal (Za3 ⟨a1, a2, b3⟩)), ((6, 0, 0), .old (6, 0, 0), .row true 14 1 (fun _ => Za5 p)), ((7, 0, 0), .old (7, 0, 0), .row true 14 1 (fun _ => Za5 q))] rfl (by rfl) ?_ (.old rfl (BLe.refl _) (.old rfl (BLe.refl _) (.old rfl (BLe.rowW (Nat.le_refl _) (ltS (Wks.of (by rw [← hp]; rfl)) lt0)) (.old rfl (BLe.rowW (Nat.le_refl _) (ltS (Wks.of (by rw [← hq]; rfl)) lt0)) .nil))))) ?_
    · (repeat' first | exact TLes.nil | refine TLes.cons (TLe.eq rfl) ?_)
    have hne : p ≠ q → (⟨a1, a2, a3⟩ : Func) ≠ ⟨a1, a2, b3⟩ := fun h e => by cases e; exact h (hp.symm.trans hq)
    rw [hp] at hil
    (repeat' (refine Zab tok (by rfl) ?_; conv => whnf))
    refine .inl ⟨_, _, _, uG (QC.fc (c_rSamePad p.pad q.pad) rfl), ?_⟩
    conv => whnf
    skip
    refine .inl ⟨_, _, _, uG (QC.fc (c_rSameEnd p.fin q.fin) rfl), ?_⟩
    conv => whnf
    (repeat' first | refine Zad ?_ | (refine Zab tok (by rfl) ?_; conv => whnf) | refine Zai ?_ | (refine Zag ?_; conv => whnf) | (refine Zah ?_; conv => whnf) | refine Zaf rfl (fun hb => ?_) (fun hb => ?_))
    · refine ⟨_, rfl, Rel.bool ?_⟩
      symm; rw [decide_eq_false_iff_not]
      refine hne (fun e => ?_)
      subst e; simp at hb
    have hall : p.landing = q.landing ∧ p.pad = q.pad ∧ p.fin = q.fin ∧ p.ins.length = q.ins.length := by
      simp [and_assoc] at hb
      refine ⟨hb.1, hb.2.1, hb.2.2.1, ?_⟩
      have := hb.2.2.2; omega
    clear hb
    obtain ⟨e1, e2, e3, e4⟩ := hall
    refine Zau (fun k : Nat => mkS [(2, .bp (2, 0, 0) 0), (3, .bp (3, 0, 0) 0), (5, iv i), (6, .bp (6, 0, 0) 0), (7, .bp (7, 0, 0) 0), (8, iv k)] [((2, 0, 0), Zal (Za3 ⟨a1, a2, a3⟩)), ((3, 0, 0), Zal (Za3 ⟨a1, a2, b3⟩)), ((6, 0, 0), .row true 14 1 (fun _ => Za5 p)), ((7, 0, 0), .row true 14 1 (fun _ => Za5 q))])
      (fun k => k ≤ p.ins.length ∧ ∀ j, j < k → p.ins.getD j default = q.ins.getD j default) (fun k => p.ins.length - k) 0 ⟨Nat.zero_le _, by simp⟩ ?_ ?_
    · refine Weak.list [((2, 0, 0), .old (2, 0, 0), Zal (Za3 ⟨a1, a2, a3⟩)), ((3, 0, 0), .old (3, 0, 0), Zal (Za3 ⟨a1, a2, b3⟩)), ((6, 0, 0), .old (6, 0, 0), .row true 14 1 (fun _ => Za5 p)), ((7, 0, 0), .old (7, 0, 0), .row true 14 1 (fun _ => Za5 q))] rfl (by rfl) ?_ (.old rfl (BLe.refl _) (.old rfl (BLe.refl _) (.old rfl (BLe.refl _) (.old rfl (BLe.refl _) .nil))))
      ((repeat' first | exact TLes.nil | refine TLes.cons (TLe.eq rfl) ?_); skip)
    rintro k ⟨hk2, hc2⟩
    ((repeat' first | refine Zad ?_ | (refine Zab tok (by rfl) ?_; conv => whnf) | (refine Za0 tok mix (by rfl) ?_; conv => whnf) | refine Zai ?_ | (refine Zag ?_; conv => whnf) | (refine Zav ?_; conv => whnf) | refine Zaf rfl (fun hb => ?_) (fun hb => ?_) | (refine @And.intro (Zaa _ _ _ _) _ ?_ ?_; rotate_left; (conv => whnf); rotate_right)); all_goals (try ((guard_target = Zaa _ _ _ _); refine Zae ?_; (all_goals (try simp only [Zaa, kzz, kz11, kz12, maxL, Zac] at *)); all_goals omega)))
    · have hlt2 : k < p.ins.length := by simp only [Zaa, kzz, kz11, kz12, maxL, Zac] at *; omega
      refine .inl ⟨_, _, _, uG (QC.fc (c_rSameIns (p.ins.getD (k : Int).toNat default) (q.ins.getD (k : Int).toNat default)) rfl), ?_⟩
      conv => whnf
      (repeat' first | refine Zad ?_ | (refine Zab tok (by rfl) ?_; conv => whnf) | (refine Zag ?_; conv => whnf) | (refine Zah ?_; conv => whnf) | refine Zaf rfl (fun hb => ?_) (fun hb => ?_))
      · refine ⟨_, rfl, Rel.bool ?_⟩
        symm; rw [decide_eq_false_iff_not]
        refine hne (fun e => ?_)
        subst e; simp at hb
      · refine ⟨k + 1, ⟨hlt2, fun j hj => ?_⟩, by omega, ?_⟩
        · by_cases e : j = k
          · subst e; simpa using hb
          · exact hc2 j (by omega)
        refine Weak.list [((2, 0, 0), .old (2, 0, 0), Zal (Za3 ⟨a1, a2, a3⟩)), ((3, 0, 0), .old (3, 0, 0), Zal (Za3 ⟨a1, a2, b3⟩)), ((6, 0, 0), .old (6, 0, 0), .row true 14 1 (fun _ => Za5 p)), ((7, 0, 0), .old (7, 0, 0), .row true 14 1 (fun _ => Za5 q))] rfl (by rfl) ?_ (.old rfl (BLe.refl _) (.old rfl (BLe.refl _) (.old rfl (BLe.refl _) (.old rfl (BLe.refl _) .nil))))
        ((repeat' first | exact TLes.nil | refine TLes.cons (TLe.eq rfl) ?_ | refine TLes.cons (TLe.int ?_) ?_); (all_goals first | ((try (simp only [Zaa, kzz, kz11, kz12, maxL, Zac] at *)); exact Zak (by omega) (by omega)) | skip))
    · have hk3 : k = p.ins.length := by simp only [Zaa, kzz, kz11, kz12, maxL, Zac] at *; omega
      have hpq : p = q := by
        have e5 : p.ins = q.ins := Zbk default e4 (fun j hj => hc2 j (by omega))
        obtain ⟨p1, p2, p3, p4⟩ := p
        obtain ⟨q1, q2, q3, q4⟩ := q
        simp only at e1 e2 e3 e5
        subst e1; subst e2; subst e3; subst e5; rfl
      refine ⟨i + 1, ⟨hlt, fun j hj => ?_⟩, by omega, ?_⟩
      · by_cases e : j = i
        · subst e; rw [hp, hq, hpq]
        · exact hc j (by omega)
      refine Weak.list [((2, 0, 0), .old (2, 0, 0), Zal (Za3 ⟨a1, a2, a3⟩)), ((3, 0, 0), .old (3, 0, 0), Zal (Za3 ⟨a1, a2, b3⟩))] rfl (by rfl) ?_ (.old rfl (BLe.refl _) (.old rfl (BLe.refl _) .nil))
      ((repeat' first | exact TLes.nil | refine TLes.cons (TLe.eq rfl) ?_ | refine TLes.cons (TLe.int ?_) ?_); (all_goals first | ((try (simp only [Zaa, kzz, kz11, kz12, maxL, Zac] at *)); exact Zak (by omega) (by omega)) | skip))
  · refine ⟨_, rfl, Rel.bool ?_⟩
    symm; rw [decide_eq_true_eq]
    rw [Zbk default hlen (fun j hj => hc j (by simp only [Zaa, kzz, kz11, kz12, maxL, Zac] at *; omega))]
theorem c_rSame (x y : Zam) : FC Tryz.prog 16 [.agg (Zan x), .agg (Zan y)] (.bool (decide (x = y))) := by
  refine Zao tok Tryz.func16 rfl (by decide +kernel) (Nat.le_of_ble_eq_true rfl) ?_
  refine Zap 0 (fun hl => ?_)
  have hl0 : x.funcs.length ≤ maxL := hl.1.1
  have hmx : maxL = 4294967296 := rfl
  clear hl
  obtain ⟨a⟩ := x
  obtain ⟨b⟩ := y
  simp only at hl0
  (repeat' first | refine Zad ?_ | (refine Zab tok (by rfl) ?_; conv => whnf) | refine Zai ?_ | (refine Zag ?_; conv => whnf) | (refine Zah ?_; conv => whnf) | refine Zaf rfl (fun hb => ?_) (fun hb => ?_))
  · refine ⟨_, rfl, Rel.bool ?_⟩
    symm; rw [decide_eq_false_iff_not]
    intro e; cases e; simp at hb
  have hlen : a.length = b.length := by simp at hb; omega
  clear hb
  refine Zau (fun i : Nat => mkS [(2, .bp (2, 0, 0) 0), (3, .bp (3, 0, 0) 0), (5, iv i)] [((2, 0, 0), Zal (Zan ⟨a⟩)), ((3, 0, 0), Zal (Zan ⟨b⟩))])
    (fun i => i ≤ a.length ∧ ∀ j, j < i → a.getD j default = b.getD j default) (fun i => a.length - i) 0 ⟨Nat.zero_le _, by simp⟩ ?_ ?_
  · refine Weak.list [((2, 0, 0), .old (2, 0, 0), Zal (Zan ⟨a⟩)), ((3, 0, 0), .old (3, 0, 0), Zal (Zan ⟨b⟩))] rfl (by rfl) ?_ (.old rfl (BLe.refl _) (.old rfl (BLe.refl _) .nil))
    ((repeat' first | exact TLes.nil | refine TLes.cons (TLe.eq rfl) ?_); skip)
  rintro i ⟨hi2, hc⟩
  ((repeat' first | refine Zad ?_ | (refine Zab tok (by rfl) ?_; conv => whnf) | (refine Za0 tok mix (by rfl) ?_; conv => whnf) | refine Zai ?_ | (refine Zag ?_; conv => whnf) | (refine Zav ?_; conv => whnf) | (refine Zah ?_; conv => whnf) | refine Zaf rfl (fun hb => ?_) (fun hb => ?_) | (refine @And.intro (Zaa _ _ _ _) _ ?_ ?_; rotate_left; (conv => whnf); rotate_right)); all_goals (try ((guard_target = Zaa _ _ _ _); refine Zae ?_; (all_goals (try simp only [Zaa, kzz, kz11, kz12, maxL, Zac] at *)); all_goals omega)))
  · have hlt : i < a.length := by simp only [Zaa, kzz, kz11, kz12, maxL, Zac] at *; omega
    refine .inl ⟨_, _, _, uG (QC.fc (c_rSameFunc (a.getD (i : Int).toNat default) (b.getD (i : Int).toNat default)) rfl), ?_⟩
    conv => whnf
    (repeat' first | refine Zad ?_ | (refine Zab tok (by rfl) ?_; conv => whnf) | (refine Zag ?_; conv => whnf) | (refine Zah ?_; conv => whnf) | refine Zaf rfl (fun hb => ?_) (fun hb => ?_))
    · refine ⟨_, rfl, Rel.bool ?_⟩
      symm; rw [decide_eq_false_iff_not]
      intro e; cases e; simp at hb
    · refine ⟨i + 1, ⟨hlt, fun j hj => ?_⟩, by omega, ?_⟩
      · by_cases e : j = i
        · subst e; simpa using hb
        · exact hc j (by omega)
      refine Weak.list [((2, 0, 0), .old (2, 0, 0), Zal (Zan ⟨a⟩)), ((3, 0, 0), .old (3, 0, 0), Zal (Zan ⟨b⟩))] rfl (by rfl) ?_ (.old rfl (BLe.refl _) (.old rfl (BLe.refl _) .nil))
      ((repeat' first | exact TLes.nil | refine TLes.cons (TLe.eq rfl) ?_ | refine TLes.cons (TLe.int ?_) ?_); (all_goals first | ((try (simp only [Zaa, kzz, kz11, kz12, maxL, Zac] at *)); exact Zak (by omega) (by omega)) | skip))
  · refine ⟨_, rfl, Rel.bool ?_⟩
    symm; rw [decide_eq_true_eq]
    rw [Zbk default hlen (fun j hj => hc j (by simp only [Zaa, kzz, kz11, kz12, maxL, Zac] at *; omega))]
end Go.Proofs.YtoelbgjpmpoolaaGreat
namespace Go.Proofs.YtoelbgjpmpoolaaGreat
open Go Dv
set_option maxRecDepth 10000
set_option linter.unusedSimpArgs false
def begB (a b : List Int) : Bool := decide (a.length ≤ b.length) && decide (a = b.take a.length)
theorem c_Begins (a b : List Int) : FC Tryz.prog 26 [ints a, ints b] (.bool (begB a b)) := by
  refine Zao tok Tryz.func26 rfl (by decide +kernel) (Nat.le_of_ble_eq_true rfl) ?_
  have hmx : maxL = 4294967296 := rfl
  by_cases hle : a.length ≤ b.length
  · have hR := c_rInts a (b.take a.length)
    ((repeat' first | refine Zad ?_ | (refine Zab tok (by rfl) ?_; conv => whnf) | (refine @And.intro (Zaa _ _ _ _) _ ?_ ?_; rotate_left; (conv => whnf); rotate_right)); all_goals (try ((guard_target = Zaa _ _ _ _); ((refine Za1 ?_; intro hgd; (conv at hgd => whnf))); (all_goals (try simp only [Zaa, kzz, kz11, kz12, maxL, Zac] at *)); all_goals omega)))
    refine .inl ⟨_, _, _, uG (QC.sc (rd := []) hR (.cons (.imm rfl) (.cons (.sl ?_ (fun i hi => ?_)) .nil)) rfl), ?_⟩
    · simp; omega
    · have hi2 : i < a.length := by simpa using hi
      show [iv (b.getD (Int.toNat 0 + i) 0)] = [iv ((b.take a.length).getD i 0)]
      rw [show Int.toNat 0 + i = i from Nat.zero_add i, List.getD_eq_getElem?_getD, List.getD_eq_getElem?_getD, List.getElem?_take, if_pos hi2]
    conv => whnf
    (repeat' (refine Zah ?_; conv => whnf))
    refine ⟨_, rfl, Rel.bool ?_⟩
    unfold begB
    rw [decide_eq_true hle, decide_eq_true (show (a.length : Int) ≤ b.length by omega)]
    rfl
  · have hle2 : ¬ (a.length : Int) ≤ b.length := by omega
    (repeat' ((fail_if_success (show AWp _ _ _ (Code.region 1 _ _) _ _)); first | refine Zad ?_ | (refine Zab tok (by rfl) ?_; conv => whnf)))
    refine AWp_regV tok (fun j => bif Nat.beq j 5 then some false else none) (by rfl) ?_
    conv => whnf
    refine ⟨by rw [decide_eq_false hle2], ?_⟩
    conv => whnf
    (repeat' (refine Zah ?_; conv => whnf))
    refine ⟨_, rfl, Rel.bool ?_⟩
    unfold begB
    rw [decide_eq_false hle]
    rfl
def toldB (s t : Mach) : Bool := decide (s.events = t.events) && (decide (s.done = t.done) && decide (s.value = t.value))
theorem c_Told (s t : Mach) : FC Tryz.prog 25 [.agg (Zas s), .agg (Zas t)] (.bool (toldB s t)) := by
  refine Zao tok Tryz.func25 rfl (by decide +kernel) (Nat.le_of_ble_eq_true rfl) ?_
  (repeat' first | refine Zad ?_ | (refine Zab tok (by rfl) ?_; conv => whnf))
  refine .inl ⟨_, _, _, uG (QC.fc (c_rInts s.events t.events) rfl), ?_⟩
  conv => whnf
  (repeat' (refine Zah ?_; conv => whnf))
  refine ⟨_, rfl, Rel.bool ?_⟩
  unfold toldB
  cases decide (s.events = t.events) <;> cases decide (s.done = t.done) <;> rfl
def smallB (m : Zam) (inputs : List Int) : Bool := shortB m && decide (inputs.length ≤ 30)
theorem c_r6Small (m : Zam) (inputs : List Int) : FC Tryz.prog 13 [.agg (Zan m), u16s inputs] (.bool (smallB m inputs)) := by
  refine Zao tok Tryz.func13 rfl (by decide +kernel) (Nat.le_of_ble_eq_true rfl) ?_
  (repeat' first | refine Zad ?_ | (refine Zab tok (by rfl) ?_; conv => whnf))
  refine .inl ⟨_, _, _, uG (QC.fc (c_Short m) rfl), ?_⟩
  conv => whnf
  (repeat' (refine Zah ?_; conv => whnf))
  refine ⟨_, rfl, Rel.bool ?_⟩
  unfold smallB
  cases shortB m
  · rfl
  · simp only [cond_true, Bool.true_and]
    by_cases e : inputs.length ≤ 30
    · rw [decide_eq_true e, decide_eq_true (by omega)]
    · rw [decide_eq_false e, decide_eq_false (by omega)]
def kpsB (s t u : Mach) : Bool :=
  bif decide (s.done ≠ 0) then toldB s t else
  bif !begB s.events t.events then false else
  bif decide (t.done ≠ 0) && decide (u.done ≠ 0) then toldB t u else
  begB t.events u.events || (decide (u.done = 0) && begB u.events t.events)
set_option maxHeartbeats 4000000 in
theorem c_Keeps (a b : Zam) (inputs : List Int) (n k : Nat) (hn : n * 20 < 1000000) (hk : n * k < 1000000) (hk2 : k < 1000000) (ha : Za6 a = true) (hb2 : Za6 b = true) (hi : (∀ x ∈ inputs, 0 ≤ x ∧ x ≤ 65535) ∧ inputs.length < 1000000) :
    FC Tryz.prog 20 [.agg (Zan a), .agg (Zan b), u16s inputs, iv n, iv k] (.bool (kpsB (runM a inputs n) (runM b inputs (n * k)) (runM a inputs (n * 20)))) := by
  refine Zao tok Tryz.func20 rfl (by decide +kernel) (Nat.le_of_ble_eq_true rfl) ?_
  have hmx : maxL = 4294967296 := rfl
  have h1 := c_RunOk ha hi n (by omega)
  have h2 : FC Tryz.prog 23 [.agg (Zan b), u16s inputs, iv (IntKind.i64.wrap (n * k))] (.agg (Zas (runM b inputs (n * k)))) := by
    have := c_RunOk hb2 hi (n * k) hk
    rw [show IntKind.i64.wrap ((n : Int) * k) = ((n * k : Nat) : Int) from by rw [Int.natCast_mul, Zak (by rw [← Int.natCast_mul]; omega) (by rw [← Int.natCast_mul]; omega)]]
    exact this
  have h3 : FC Tryz.prog 23 [.agg (Zan a), u16s inputs, iv (IntKind.i64.wrap (n * 20))] (.agg (Zas (runM a inputs (n * 20)))) := by
    have := c_RunOk ha hi (n * 20) hn
    rw [show IntKind.i64.wrap ((n : Int) * 20) = ((n * 20 : Nat) : Int) from by rw [Zak (by omega) (by omega)]; omega]
    exact this
  have hgen : ∃ s, runM a inputs n = s := ⟨_, rfl⟩
  obtain ⟨s, hs⟩ := hgen
  have hgen : ∃ t, runM b inputs (n * k) = t := ⟨_, rfl⟩
  obtain ⟨t, ht⟩ := hgen
  have hgen : ∃ u, runM a inputs (n * 20) = u := ⟨_, rfl⟩
  obtain ⟨u, hu⟩ := hgen
  rw [hs] at h1 ⊢
  rw [ht] at h2 ⊢
  rw [hu] at h3 ⊢
  (repeat' first | refine Zad ?_ | (refine Zab tok (by rfl) ?_; conv => whnf))
  refine .inl ⟨_, _, _, uG (QC.fc h1 rfl), ?_⟩
  conv => whnf
  (repeat' first | refine Zad ?_ | (refine Zab tok (by rfl) ?_; conv => whnf))
  refine .inl ⟨_, _, _, uG (QC.fc h2 rfl), ?_⟩
  conv => whnf
  (repeat' ((fail_if_success (show AWp _ _ _ (Code.region 4 _ _) _ _)); (fail_if_success (show AWp _ _ _ (Code.region 5 _ _) _ _)); first | refine Zad ?_ | (refine Zab tok (by rfl) ?_; conv => whnf) | (refine Zag ?_; conv => whnf) | refine Zaf rfl (fun hb => ?_) (fun hb => ?_)))
  · have hd : decide (s.done ≠ 0) = true := by simpa using hb
    rw [show kpsB s t u = toldB s t from by unfold kpsB; rw [hd]; rfl]
    (repeat' (refine Zab tok (by rfl) ?_; conv => whnf))
    refine .inl ⟨_, _, _, uG (QC.fc (c_Told s t) rfl), ?_⟩
    conv => whnf
    (repeat' (refine Zah ?_; conv => whnf))
    exact ⟨_, rfl, Rel.bool rfl⟩
  have hd : decide (s.done ≠ 0) = false := by simpa using hb
  clear hb
  rw [show kpsB s t u = bif !begB s.events t.events then false else
    bif decide (t.done ≠ 0) && decide (u.done ≠ 0) then toldB t u else
    begB t.events u.events || (decide (u.done = 0) && begB u.events t.events) from by unfold kpsB; rw [hd]; rfl]
  (repeat' (refine Zab tok (by rfl) ?_; conv => whnf))
  refine .inl ⟨_, _, _, uG (QC.fc (c_Begins s.events t.events) rfl), ?_⟩
  conv => whnf
  (repeat' ((fail_if_success (show AWp _ _ _ (Code.region 6 _ _) _ _)); (fail_if_success (show AWp _ _ _ (Code.region 7 _ _) _ _)); first | refine Zad ?_ | (refine Zag ?_; conv => whnf) | refine Zaf rfl (fun hb => ?_) (fun hb => ?_)))
  · rw [show (!begB s.events t.events) = true from hb]
    (repeat' first | (refine Zab tok (by rfl) ?_; conv => whnf) | (refine Zah ?_; conv => whnf))
    exact ⟨_, rfl, Rel.bool rfl⟩
  rw [show (!begB s.events t.events) = false from hb]
  clear hb
  (repeat' (refine Zab tok (by rfl) ?_; conv => whnf))
  refine .inl ⟨_, _, _, uG (QC.fc h3 rfl), ?_⟩
  conv => whnf
  (repeat' ((fail_if_success (show AWp _ _ _ (Code.region 9 _ _) _ _)); (fail_if_success (show AWp _ _ _ (Code.region 10 _ _) _ _)); first | refine Zad ?_ | (refine Zab tok (by rfl) ?_; conv => whnf) | (refine Zag ?_; conv => whnf) | refine Zaf rfl (fun hb => ?_) (fun hb => ?_)))
  · have hd2 : (decide (t.done ≠ 0) && decide (u.done ≠ 0)) = true := by
      cases e1 : decide (t.done ≠ 0) <;> cases e2 : decide (u.done ≠ 0) <;> simp_all
    rw [hd2]
    (repeat' (refine Zab tok (by rfl) ?_; conv => whnf))
    refine .inl ⟨_, _, _, uG (QC.fc (c_Told t u) rfl), ?_⟩
    conv => whnf
    (repeat' (refine Zah ?_; conv => whnf))
    exact ⟨_, rfl, Rel.bool rfl⟩
  have hd2 : (decide (t.done ≠ 0) && decide (u.done ≠ 0)) = false := by
    cases e1 : decide (t.done ≠ 0) <;> cases e2 : decide (u.done ≠ 0) <;> simp_all
  rw [hd2]
  clear hb
  (repeat' (refine Zab tok (by rfl) ?_; conv => whnf))
  refine .inl ⟨_, _, _, uG (QC.fc (c_Begins t.events u.events) rfl), ?_⟩
  conv => whnf
  skip
  refine .inl ⟨_, _, _, uG (QC.fc (c_Begins u.events t.events) rfl), ?_⟩
  conv => whnf
  (repeat' (refine Zah ?_; conv => whnf))
  refine ⟨_, rfl, Rel.bool ?_⟩
  rw [cond_false, cond_false]
  cases begB t.events u.events <;> cases begB u.events t.events <;> cases decide (u.done = 0) <;> rfl
end Go.Proofs.YtoelbgjpmpoolaaGreat
namespace Go.Proofs.YtoelbgjpmpoolaaGreat
open Go Dv
set_option maxRecDepth 10000
set_option linter.unusedSimpArgs false
structure TellA (s t : Mach) : Prop where
  ev : s.events = t.events
  dn : s.done = t.done
  va : s.value = t.value
theorem run_mono {m : Zam} {inputs : List Int} {i : Nat} : ∀ k, ∃ e, (runM m inputs (i + k)).events = (runM m inputs i).events ++ e
  | 0 => ⟨[], by simp⟩
  | k + 1 => by
      obtain ⟨e, h⟩ := run_mono (m := m) (inputs := inputs) (i := i) k
      show ∃ e, (Zdl m (runM m inputs (i + k))).events = _
      rcases ev_step (m := m) (s := runM m inputs (i + k)) with h2 | ⟨x, h2⟩
      · exact ⟨e, by rw [h2, h]⟩
      · exact ⟨e ++ [x], by rw [h2, h, List.append_assoc]⟩
theorem run_le {m : Zam} {inputs : List Int} {i j : Nat} (h : i ≤ j) : ∃ e, (runM m inputs j).events = (runM m inputs i).events ++ e := by
  have := run_mono (m := m) (inputs := inputs) (i := i) (j - i)
  rwa [show i + (j - i) = j by omega] at this
theorem run_end {m : Zam} {inputs : List Int} {i j : Nat} (h : i ≤ j) (hd : ¬ (runM m inputs i).done = 0) : runM m inputs j = runM m inputs i := by
  have := run_done hd (j - i)
  rwa [show i + (j - i) = j by omega] at this
theorem begB_app (a e : List Int) : begB a (a ++ e) = true := by
  unfold begB
  rw [List.take_left' rfl, decide_eq_true (by simp), decide_eq_true rfl]; rfl
theorem beg_of {a b : List Int} (h : ∃ e, b = a ++ e) : begB a b = true := by obtain ⟨e, rfl⟩ := h; exact begB_app a e
theorem told_of {s t : Mach} (h : TellA s t) : toldB s t = true := by
  unfold toldB; rw [decide_eq_true h.ev, decide_eq_true h.dn, decide_eq_true h.va]; rfl
theorem keep_of {a b : Zam} {inputs : List Int} {n k : Nat} (h : ∀ i, ∃ j, j ≤ i * k ∧ TellA (runM a inputs i) (runM b inputs j)) : kpsB (runM a inputs n) (runM b inputs (n * k)) (runM a inputs (n * 20)) = true := by
  obtain ⟨j, hj, hs⟩ := h n
  obtain ⟨j', _, hu⟩ := h (n * 20)
  unfold kpsB
  by_cases h1 : (runM a inputs n).done = 0
  · rw [show decide ((runM a inputs n).done ≠ 0) = false by simp [h1], cond_false]
    rw [show begB (runM a inputs n).events (runM b inputs (n * k)).events = true from by rw [hs.ev]; exact beg_of (run_le hj), Bool.not_true, cond_false]
    by_cases h2 : (runM b inputs (n * k)).done = 0 ∨ (runM a inputs (n * 20)).done = 0
    · rw [show (decide ((runM b inputs (n * k)).done ≠ 0) && decide ((runM a inputs (n * 20)).done ≠ 0)) = false by rcases h2 with e | e <;> simp [e], cond_false]
      rw [Bool.or_eq_true, Bool.and_eq_true, hu.ev, decide_eq_true_eq]
      by_cases h3 : n * k ≤ j'
      · exact .inl (beg_of (run_le h3))
      · refine .inr ⟨?_, beg_of (run_le (by omega))⟩
        refine Classical.byContradiction fun hd => ?_
        have h4 : ¬ (runM b inputs j').done = 0 := by rw [← hu.dn]; exact hd
        have h5 := run_end (m := b) (inputs := inputs) (show j' ≤ n * k by omega) h4
        rcases h2 with e | e
        · rw [h5] at e; exact h4 e
        · exact hd e
    · have h3 : ¬ (runM b inputs (n * k)).done = 0 := fun e => h2 (.inl e)
      have h4 : ¬ (runM a inputs (n * 20)).done = 0 := fun e => h2 (.inr e)
      rw [decide_eq_true (show (runM b inputs (n * k)).done ≠ 0 from h3), decide_eq_true (show (runM a inputs (n * 20)).done ≠ 0 from h4), Bool.and_true, cond_true]
      have h5 : ¬ (runM b inputs j').done = 0 := by rw [← hu.dn]; exact h4
      have h6 : runM b inputs j' = runM b inputs (n * k) := by
        rcases Nat.le_total j' (n * k) with e | e
        · exact (run_end e h5).symm
        · exact run_end e h3
      rw [h6] at hu
      exact told_of ⟨hu.ev.symm, hu.dn.symm, hu.va.symm⟩
  · rw [decide_eq_true (show (runM a inputs n).done ≠ 0 from h1), cond_true]
    have h2 : ¬ (runM b inputs j).done = 0 := by rw [← hs.dn]; exact h1
    rw [run_end hj h2]
    exact told_of hs
theorem sim_of {a b : Zam} {inputs : List Int} {k : Nat} {R : Mach → Mach → Prop} (h0 : R (newM a inputs) (newM b inputs))
    (hs : ∀ i j, R (runM a inputs i) (runM b inputs j) → (runM a inputs i).done = 0 → ∃ d, d ≤ k ∧ R (Zdl a (runM a inputs i)) (runM b inputs (j + d))) : ∀ i, ∃ j, j ≤ i * k ∧ R (runM a inputs i) (runM b inputs j)
  | 0 => ⟨0, by omega, h0⟩
  | i + 1 => by
      obtain ⟨j, hj, hR⟩ := sim_of h0 hs i
      by_cases hd : (runM a inputs i).done = 0
      · obtain ⟨d, hd1, hd2⟩ := hs i j hR hd
        exact ⟨j + d, by rw [Nat.succ_mul]; omega, hd2⟩
      · refine ⟨j, by rw [Nat.succ_mul]; omega, ?_⟩
        rw [show runM a inputs (i + 1) = runM a inputs i from if_neg hd]
        exact hR
structure RelL (P : Za9 → Za9 → Prop) (a b : List Za9) : Prop where
  len : a.length = b.length
  at_ : ∀ i, i < a.length → P (a.getD i default) (b.getD i default)
theorem RelL.take {P : Za9 → Za9 → Prop} {a b : List Za9} (h : RelL P a b) (k : Nat) : RelL P (a.take k) (b.take k) := by
  refine ⟨by rw [List.length_take, List.length_take, h.len], fun i hi => ?_⟩
  rw [List.length_take] at hi
  rw [Zb2 _ (by omega), Zb2 _ (by omega)]
  exact h.at_ i (by omega)
theorem getD_app {l : List Za9} {x : Za9} {i : Nat} : (l ++ [x]).getD i default = if i < l.length then l.getD i default else if i = l.length then x else default := by
  by_cases h1 : i < l.length
  · rw [if_pos h1]; simp [List.getD_eq_getElem?_getD, List.getElem?_append_left h1]
  · rw [if_neg h1]
    by_cases h2 : i = l.length
    · rw [if_pos h2]; subst h2; simp [List.getD_eq_getElem?_getD]
    · rw [if_neg h2, List.getD_eq_getElem?_getD, List.getElem?_eq_none (by simp; omega)]; rfl
theorem RelL.app {P : Za9 → Za9 → Prop} {a b : List Za9} (h : RelL P a b) {f g : Za9} (hp : P f g) : RelL P (a ++ [f]) (b ++ [g]) := by
  refine ⟨by simp [h.len], fun i hi => ?_⟩
  rw [List.length_append, List.length_singleton] at hi
  rw [getD_app, getD_app, ← h.len]
  by_cases h1 : i < a.length
  · rw [if_pos h1, if_pos h1]; exact h.at_ i h1
  · rw [if_neg h1, if_neg h1, if_pos (by omega), if_pos (by omega)]; exact hp
end Go.Proofs.YtoelbgjpmpoolaaGreat
namespace Go.Proofs.YtoelbgjpmpoolaaGreat
open Go Dv
set_option maxRecDepth 10000
set_option linter.unusedSimpArgs false
def Ze3 (m : Zam) (f : Za9) : Int := if endB m f = true then (Za2 m f).fin.f else (Zd2 m f).f
def Zfo (m : Zam) (l : List Za9) : Prop := ∀ i, i + 1 < l.length → Ze3 m (l.getD i default) = (l.getD (i + 1) default).f
theorem Zfa {m : Zam} {l : List Za9} (h : Zfo m l) (k : Nat) : Zfo m (l.take k) := fun i hi => by
  rw [List.length_take] at hi
  rw [Zb2 _ (by omega), Zb2 _ (by omega)]
  exact h i (by omega)
theorem link_app {m : Zam} {l : List Za9} (h : Zfo m l) {f : Za9} (hl : 0 < l.length → Ze3 m (l.getD (l.length - 1) default) = f.f) : Zfo m (l ++ [f]) := fun i hi => by
  rw [List.length_append, List.length_singleton] at hi
  rw [getD_app, getD_app, if_pos (by omega)]
  by_cases h1 : i + 1 < l.length
  · rw [if_pos h1]; exact h i h1
  · rw [if_neg h1, if_pos (by omega)]
    have := hl (by omega)
    rwa [show l.length - 1 = i by omega] at this
theorem Zdg {m : Zam} {s : Mach} (h : Zfo m s.stack) {f : Za9} (hp : 0 < s.stack.length) (hf : f.f = (topF s).f) : Zfo m (Zb6 s f).stack := by
  refine link_app (Zfa h _) (fun hl => ?_)
  rw [List.length_take] at hl ⊢
  rw [show min (s.stack.length - 1) s.stack.length = s.stack.length - 1 by omega] at hl ⊢
  rw [Zb2 _ (by omega), hf]
  have := h (s.stack.length - 1 - 1) (by omega)
  rw [show s.stack.length - 1 - 1 + 1 = s.stack.length - 1 by omega] at this
  exact this
theorem link_called {m : Zam} {s : Mach} (h : Zfo m s.stack) {n : Int} {l : List Int} (hc : Ze3 m (topF s) = n) : Zfo m (Zcj m s n l).stack := by
  unfold Zcj
  split
  · exact h
  · exact link_app h (fun _ => hc)
theorem link_answered {m : Zam} {s : Mach} (h : Zfo m s.stack) {w : Int} (hp : 0 < s.stack.length) : Zfo m (Zbn m s w).stack := by
  unfold Zbn
  split
  · exact Zfa h _
  · rename_i h1
    refine Zdg (s := popM s) (Zfa h _) (by rw [Zdd]; omega) ?_
    unfold answF; split <;> rfl
theorem link_thrown {m : Zam} {s : Mach} (h : Zfo m s.stack) {w : Int} (hp : 0 < s.stack.length) : Zfo m (Zb7 m s w).stack := by
  unfold Zb7
  dsimp only
  split
  · rename_i hany
    rw [List.any_eq_true] at hany
    obtain ⟨i, hi, hic⟩ := hany
    rw [List.mem_range] at hi
    obtain ⟨_, hK2⟩ := Zfg (p := Zbl m (popM s).stack w true) (n := (popM s).stack.length - 1) ⟨i, by omega, Zfi hic⟩
    generalize Zdj (Zbl m (popM s).stack w true) ((popM s).stack.length - 1) = K at hK2
    have hl : (Zel (popM s) (K + 1)).stack.length = K + 1 := by simp [Zel]; omega
    refine Zdg (s := Zel (popM s) (K + 1)) (Zfa (Zfa h _) _) (by omega) ?_
    unfold topF
    rw [hl]
    show ((popM s).stack.getD K default).f = ((Zel (popM s) (K + 1)).stack.getD (K + 1 - 1) default).f
    rw [show (Zel (popM s) (K + 1)).stack = (popM s).stack.take (K + 1) from rfl, Zb2 _ (by omega)]; rfl
  · exact Zfa h _
theorem link_ins {m : Zam} {s : Mach} (h : Zfo m s.stack) (hp : 0 < s.stack.length) (he : endB m (topF s) = false) : Zfo m (insM m s (topF s) (Zd2 m (topF s))).stack := by
  unfold insM
  split
  · exact link_called h (by unfold Ze3; rw [if_neg (by rw [he]; simp)])
  split
  · split
    · refine Zdg h hp ?_
      unfold reckR; split <;> rfl
    · exact h
  split
  · split
    · exact h
    · exact Zdg h hp rfl
  split
  · split
    · exact h
    · exact Zdg (s := { s with cells := _ }) h hp rfl
  split
  · exact Zdg (s := { s with events := _ }) h hp rfl
  split
  · split
    · exact h
    · exact Zdg (s := { s with inputs := _, events := _ }) h hp rfl
  · exact Zdg h hp rfl
theorem link_step {m : Zam} {s : Mach} (h : Zfo m s.stack) (hp : s.done = 0 → 0 < s.stack.length) : Zfo m (Zdl m s).stack := by
  unfold Zdl
  split
  · rename_i hd
    unfold Zd6
    split
    · rename_i he; exact link_ins h (hp hd) he
    rename_i he
    split
    · exact link_answered h (hp hd)
    split
    · exact link_called h (by unfold Ze3; rw [if_pos (by simpa using he)])
    split
    · exact link_thrown h (hp hd)
    split
    · exact link_thrown h (hp hd)
    · exact Zdg h (hp hd) rfl
  · exact h
theorem link_run {m : Zam} {inputs : List Int} (hr : Za6 m = true) (hi : (∀ x ∈ inputs, 0 ≤ x ∧ x ≤ 65535) ∧ inputs.length < 1000000) : ∀ k, Zfo m (runM m inputs k).stack
  | 0 => fun i h => by have : i + 1 < 1 := h; omega
  | k + 1 => link_step (link_run hr hi k) (okM_run hr hi k).pos
end Go.Proofs.YtoelbgjpmpoolaaGreat
