/- Whatever a module, the words told to it, and the fuel: mach.Run runs it as davitref06.Run does, with the same in all places, or refuses it where the module may not be or the fuel is too much. -/
import Derived.Test.YtoelbgjpmpoolaaGreatDvc3
import Derived.Test.YtoelbgjpmpoolaaGreatLawmachRuns1
import Derived.RangeFuncGives
import Derived.Maps.AppendAt
import Derived.Shelf.Abstract
import Derived.WalkKit
import Derived.OwnWalkIn
import Derived.TacticsInMore
import Derived.RegionIn
import Derived.LoopNIn
import Derived.LoopIn
set_option linter.unusedVariables false
set_option linter.unusedSimpArgs false
set_option linter.unnecessarySimpa false
namespace Go.Proofs.YtoelbgjpmpoolaaGreat
open Go Dv
set_option maxRecDepth 10000
set_option linter.unusedSimpArgs false
def encL (m : Zaj) (f : Func) : List AV := Zav m ++ Zbm f
theorem c_IdxInt {g : FuncId} {cap : List AV} {p : Int → Bool} (hi : Zcb cap = true) (hg : ∀ k, FC Tryz.prog g (iv k :: cap) (.bool (p k))) (l : List Int) : FC Tryz.prog 169 [ints l, .fn g cap] (iv (idxG p l)) := by
  refine Zao tok Tryz.func169 rfl (by decide +kernel) (Nat.le_of_ble_eq_true rfl) ?_
  refine Zaw 0 (fun hl => ?_)
  have hl0 : l.length ≤ maxL := hl.1
  (repeat' first | refine Zac ?_ | (refine Zab tok (by rfl) ?_; conv => whnf) | refine Zai ?_)
  refine Za1 (fun i : Nat => mkS [(0, ints l), (1, .fn g cap), (7, iv l.length), (8, iv i)] [])
    (fun i => i ≤ l.length ∧ ∀ j, j < i → p (l.getD j 0) = false) (fun i => l.length - i) 0 ⟨Nat.zero_le _, by simp⟩ ?_ ?_
  · refine Weak.list [] rfl (by rfl) ?_ .nil
    ((repeat' first | exact TLes.nil | refine TLes.cons (TLe.eq rfl) ?_ | refine TLes.cons (TLe.fn (by assumption)) ?_); skip)
  rintro i ⟨hi2, hc⟩
  ((repeat' first | refine Zac ?_ | (refine Zab tok (by rfl) ?_; conv => whnf) | refine Zai ?_ | (refine Zag ?_; conv => whnf) | (refine Za3 ?_; conv => whnf) | (refine Zah ?_; conv => whnf) | (refine (Zci _ _).mpr ?_; conv => whnf) | refine Zae rfl (fun hb => ?_) (fun hb => ?_) | (refine @And.intro (Zaa _ _ _ _) _ ?_ ?_; rotate_left; (conv => whnf); rotate_right)); all_goals (try ((guard_target = Zaa _ _ _ _); refine Zaf ?_; (all_goals (try simp only [Zaa, kzz, kz11, kz12, maxL, Zad] at *)); all_goals omega)))
  · have hlt : i < l.length := by simp only [Zaa, kzz, kz11, kz12, maxL, Zad] at *; omega
    refine .inl ⟨_, _, _, uG (QC.fc (hg _) (immDs_app (xs := [_]) rfl hi)), ?_⟩
    conv => whnf
    (repeat' first | refine Zac ?_ | (refine Zab tok (by rfl) ?_; conv => whnf) | (refine Zag ?_; conv => whnf) | (refine Zah ?_; conv => whnf) | refine Zae rfl (fun hb => ?_) (fun hb => ?_))
    · refine ⟨_, rfl, Rel.int ?_⟩
      exact (idxG_at 0 hlt hc (by simpa using hb)).symm
    · refine ⟨i + 1, ⟨hlt, fun j hj => ?_⟩, by omega, ?_⟩
      · by_cases e : j = i
        · subst e; simpa using hb
        · exact hc j (by omega)
      refine Weak.list [] rfl (by rfl) ?_ .nil
      ((repeat' first | exact TLes.nil | refine TLes.cons (TLe.eq rfl) ?_ | refine TLes.cons (TLe.int ?_) ?_ | refine TLes.cons (TLe.fn (by assumption)) ?_); (all_goals first | ((try (simp only [Zaa, kzz, kz11, kz12, maxL, Zad] at *)); exact Zal (by omega) (by omega)) | skip))
  · refine ⟨_, rfl, Rel.int ?_⟩
    exact (idxG_none 0 (fun j hj => hc j (by simp only [Zaa, kzz, kz11, kz12, maxL, Zad] at *; omega))).symm
theorem c_HasInt {g : FuncId} {cap : List AV} {p : Int → Bool} (hi : Zcb cap = true) (hg : ∀ k, FC Tryz.prog g (iv k :: cap) (.bool (p k))) (l : List Int) : FC Tryz.prog 206 [ints l, .fn g cap] (.bool (l.any p)) := by
  refine Zao tok Tryz.func206 rfl (by decide +kernel) (Nat.le_of_ble_eq_true rfl) ?_
  (repeat' first | refine Zac ?_ | (refine Zab tok (by rfl) ?_; conv => whnf) | (refine (Zci _ _).mpr ?_; conv => whnf))
  refine .inl ⟨_, _, _, uG (QC.fc (c_IdxInt hi hg l) (show Zcb [ints l, AV.fn g cap] = true from by simp [Zcb, immD, ints, hi])), ?_⟩
  conv => whnf
  (repeat' (refine Zah ?_; conv => whnf))
  refine ⟨_, rfl, Rel.bool ?_⟩
  rw [← idxG_any]
theorem c_place (m : Zaj) (f : Func) (n : Int) : FC Tryz.prog 183 [.agg (encL m f), iv n] (.bool (inn n f.regs)) := by
  refine Zao tok Tryz.func183 rfl (by decide +kernel) (Nat.le_of_ble_eq_true rfl) ?_
  (repeat' first | refine Zac ?_ | (refine Zab tok (by rfl) ?_; conv => whnf) | (refine Zah ?_; conv => whnf))
  exact ⟨_, rfl, Rel.imm rfl⟩
theorem c_lgoal (m : Zaj) (f : Func) (n : Int) : FC Tryz.prog 185 [.agg (encL m f), iv n] (.bool (goalB f n)) := by
  refine Zao tok Tryz.func185 rfl (by decide +kernel) (Nat.le_of_ble_eq_true rfl) ?_
  ((repeat' first | refine Zac ?_ | (refine Zab tok (by rfl) ?_; conv => whnf) | (refine Zah ?_; conv => whnf) | (refine @And.intro (Zaa _ _ _ _) _ ?_ ?_; rotate_left; (conv => whnf); rotate_right)); all_goals (try ((guard_target = Zaa _ _ _ _); ((refine Za8 ?_; intro hgd; (conv at hgd => whnf))); (all_goals (try simp only [Zaa, kzz, kz11, kz12, maxL, Zad] at *)); all_goals omega)))
  exact ⟨_, rfl, Rel.imm rfl⟩
def landB (f : Func) (n : Int) : Bool := bif inn n f.blocks.length then (f.blocks.getD n.toNat default).landing else false
theorem c_landing (m : Zaj) (f : Func) (n : Int) : FC Tryz.prog 187 [.agg (encL m f), iv n] (.bool (landB f n)) := by
  refine Zao tok Tryz.func187 rfl (by decide +kernel) (Nat.le_of_ble_eq_true rfl) ?_
  ((repeat' first | refine Zac ?_ | (refine Zab tok (by rfl) ?_; conv => whnf) | (refine Zah ?_; conv => whnf) | (refine @And.intro (Zaa _ _ _ _) _ ?_ ?_; rotate_left; (conv => whnf); rotate_right)); all_goals (try ((guard_target = Zaa _ _ _ _); ((refine Za8 ?_; intro hgd; (conv at hgd => whnf))); (all_goals (try simp only [Zaa, kzz, kz11, kz12, maxL, Zad] at *)); all_goals omega)))
  exact ⟨_, rfl, Rel.imm rfl⟩
theorem c_call1 (m : Zaj) (f : Func) (k : Int) : FC Tryz.prog 207 [iv k, .ip (encL m f)] (.bool (!inn k f.regs)) := by
  refine Zao tok Tryz.func207 rfl (by decide +kernel) (Nat.le_of_ble_eq_true rfl) ?_
  (repeat' first | refine Zac ?_ | (refine Zab tok (by rfl) ?_; conv => whnf))
  refine .inl ⟨_, _, _, uG (QC.fc (c_place m f k) rfl), ?_⟩
  conv => whnf
  (repeat' (refine Zah ?_; conv => whnf))
  exact ⟨_, rfl, Rel.imm rfl⟩
theorem c_lcall (m : Zaj) (f : Func) (n : Int) (l : List Int) : FC Tryz.prog 186 [.agg (encL m f), iv n, ints l] (.bool (argsB m f n l)) := by
  refine Zao tok Tryz.func186 rfl (by decide +kernel) (Nat.le_of_ble_eq_true rfl) ?_
  ((repeat' first | refine Zac ?_ | (refine Zab tok (by rfl) ?_; conv => whnf) | (refine Zag ?_; conv => whnf) | (refine Zah ?_; conv => whnf) | refine Zae rfl (fun hb => ?_) (fun hb => ?_) | (refine @And.intro (Zaa _ _ _ _) _ ?_ ?_; rotate_left; (conv => whnf); rotate_right)); all_goals (try ((guard_target = Zaa _ _ _ _); ((refine Za8 ?_; intro hgd; (conv at hgd => whnf))); (all_goals (try simp only [Zaa, kzz, kz11, kz12, maxL, Zad] at *)); all_goals omega)))
  · refine ⟨_, rfl, Rel.bool ?_⟩
    unfold argsB inn
    by_cases h0 : n < 0
    · rw [decide_eq_false (show ¬ 0 ≤ n by omega)]; rfl
    · by_cases h1 : (m.funcs.length : Int) ≤ n
      · rw [decide_eq_false (show ¬ n < (m.funcs.length : Int) by omega)]; cases decide (0 ≤ n) <;> rfl
      · rw [decide_eq_false h0, decide_eq_false h1] at hb
        simp only [cond_false, Bool.not_eq_eq_eq_not, Bool.not_true] at hb
        rw [hb]; cases decide (0 ≤ n) <;> cases decide (n < (m.funcs.length : Int)) <;> rfl
  have hh := c_HasInt (g := 207) (cap := [.ip (encL m f)]) (p := fun k => !inn k f.regs) rfl (fun k => c_call1 m f k) l
  refine .inl ⟨_, _, _, uG (QC.sc (rd := [Zc7 (some 3)]) hh (.cons (.imm rfl) (.cons (.fn (.cons (.ip rfl (List.mem_singleton.2 rfl) (by decide) (Ress.imms rfl)) .nil)) .nil)) rfl), ?_⟩
  conv => whnf
  (repeat' (refine Zah ?_; conv => whnf))
  refine ⟨_, rfl, Rel.bool ?_⟩
  have h0 : ¬ n < 0 := by intro h0; rw [decide_eq_true h0] at hb; cases hb
  rw [decide_eq_false h0] at hb
  have h1 : ¬ (m.funcs.length : Int) ≤ n := by intro h1; rw [decide_eq_true h1] at hb; cases hb
  rw [decide_eq_false h1] at hb
  simp only [cond_false, Bool.not_eq_eq_eq_not, Bool.not_false] at hb
  unfold argsB
  rw [show inn n m.funcs.length = true from (Zad _ _).2 ⟨by omega, by omega⟩, hb]
  simp only [cond_true]
  rw [List.not_any_eq_all_not]
  simp
end Go.Proofs.YtoelbgjpmpoolaaGreat
namespace Go.Proofs.YtoelbgjpmpoolaaGreat
open Go Dv
set_option maxRecDepth 10000
set_option linter.unusedSimpArgs false
theorem c_EqualI (l k : List Int) : FC Tryz.prog 208 [ints l, ints k] (.bool (decide (l = k))) := by
  refine Zao tok Tryz.func208 rfl (by decide +kernel) (Nat.le_of_ble_eq_true rfl) ?_
  refine Zaw 0 (fun hl => ?_)
  have hl0 : l.length ≤ maxL := hl.1
  (repeat' first | refine Zac ?_ | (refine Zab tok (by rfl) ?_; conv => whnf) | refine Zai ?_ | (refine Zag ?_; conv => whnf) | (refine Zah ?_; conv => whnf) | refine Zae rfl (fun hb => ?_) (fun hb => ?_))
  · refine ⟨_, rfl, Rel.bool ?_⟩
    simp only [Zaa, kzz, kz11, kz12, maxL, Zad] at *
    symm; rw [decide_eq_false_iff_not]
    intro e; rw [e] at hb; exact hb rfl
  have hlen : l.length = k.length := by simp only [Zaa, kzz, kz11, kz12, maxL, Zad] at *; omega
  refine Za1 (fun i : Nat => mkS [(0, ints l), (1, ints k), (4, .bool false), (12, iv l.length), (13, iv i)] []) (fun i => i ≤ l.length ∧ ∀ j, j < i → l.getD j 0 = k.getD j 0) (fun i => l.length - i) 0 ⟨Nat.zero_le _, by simp⟩ ?_ ?_
  · refine Weak.list [] rfl (by rfl) ?_ .nil
    ((repeat' first | exact TLes.nil | refine TLes.cons (TLe.eq rfl) ?_); skip)
  rintro i ⟨hi, hc⟩
  ((repeat' first | refine Zac ?_ | (refine Zab tok (by rfl) ?_; conv => whnf) | (refine Zat tok mix (by rfl) ?_; conv => whnf) | refine Zai ?_ | (refine Zag ?_; conv => whnf) | (refine Za3 ?_; conv => whnf) | (refine Zah ?_; conv => whnf) | refine Zae rfl (fun hb => ?_) (fun hb => ?_) | (refine @And.intro (Zaa _ _ _ _) _ ?_ ?_; rotate_left; (conv => whnf); rotate_right)); all_goals (try ((guard_target = Zaa _ _ _ _); refine Zaf ?_; (all_goals (try simp only [Zaa, kzz, kz11, kz12, maxL, Zad] at *)); all_goals omega)))
  all_goals simp only [Zaa, kzz, kz11, kz12, maxL, Zad] at *
  · refine ⟨_, rfl, Rel.bool ?_⟩
    symm; rw [decide_eq_false_iff_not]
    intro e; subst e; exact hb rfl
  · refine ⟨i + 1, ⟨by omega, fun j hj => ?_⟩, by omega, ?_⟩
    · by_cases e : j = i
      · subst e; exact hb
      · exact hc j (by omega)
    refine Weak.list [] rfl (by rfl) ?_ .nil
    ((repeat' first | exact TLes.nil | refine TLes.cons (TLe.eq rfl) ?_ | refine TLes.cons (TLe.int ?_) ?_); (all_goals first | (exact Zal (by omega) (by omega)) | skip))
  · refine ⟨_, rfl, Rel.bool ?_⟩
    symm; rw [decide_eq_true_eq]
    exact Zdm 0 hlen (fun j hj => hc j (by omega))
theorem c_EqualU (l k : List Int) : FC Tryz.prog 202 [u16s l, u16s k] (.bool (decide (l = k))) := by
  refine Zao tok Tryz.func202 rfl (by decide +kernel) (Nat.le_of_ble_eq_true rfl) ?_
  refine Zaw 0 (fun hl => ?_)
  have hl0 : l.length ≤ maxL := hl.1
  (repeat' first | refine Zac ?_ | (refine Zab tok (by rfl) ?_; conv => whnf) | refine Zai ?_ | (refine Zag ?_; conv => whnf) | (refine Zah ?_; conv => whnf) | refine Zae rfl (fun hb => ?_) (fun hb => ?_))
  · refine ⟨_, rfl, Rel.bool ?_⟩
    simp only [Zaa, kzz, kz11, kz12, maxL, Zad] at *
    symm; rw [decide_eq_false_iff_not]
    intro e; rw [e] at hb; exact hb rfl
  have hlen : l.length = k.length := by simp only [Zaa, kzz, kz11, kz12, maxL, Zad] at *; omega
  refine Za1 (fun i : Nat => mkS [(0, u16s l), (1, u16s k), (4, .bool false), (12, iv l.length), (13, iv i)] []) (fun i => i ≤ l.length ∧ ∀ j, j < i → l.getD j 0 = k.getD j 0) (fun i => l.length - i) 0 ⟨Nat.zero_le _, by simp⟩ ?_ ?_
  · refine Weak.list [] rfl (by rfl) ?_ .nil
    ((repeat' first | exact TLes.nil | refine TLes.cons (TLe.eq rfl) ?_); skip)
  rintro i ⟨hi, hc⟩
  ((repeat' first | refine Zac ?_ | (refine Zab tok (by rfl) ?_; conv => whnf) | (refine Zat tok mix (by rfl) ?_; conv => whnf) | refine Zai ?_ | (refine Zag ?_; conv => whnf) | (refine Za3 ?_; conv => whnf) | (refine Zah ?_; conv => whnf) | refine Zae rfl (fun hb => ?_) (fun hb => ?_) | (refine @And.intro (Zaa _ _ _ _) _ ?_ ?_; rotate_left; (conv => whnf); rotate_right)); all_goals (try ((guard_target = Zaa _ _ _ _); refine Zaf ?_; (all_goals (try simp only [Zaa, kzz, kz11, kz12, maxL, Zad] at *)); all_goals omega)))
  all_goals simp only [Zaa, kzz, kz11, kz12, maxL, Zad] at *
  · refine ⟨_, rfl, Rel.bool ?_⟩
    symm; rw [decide_eq_false_iff_not]
    intro e; subst e; exact hb rfl
  · refine ⟨i + 1, ⟨by omega, fun j hj => ?_⟩, by omega, ?_⟩
    · by_cases e : j = i
      · subst e; exact hb
      · exact hc j (by omega)
    refine Weak.list [] rfl (by rfl) ?_ .nil
    ((repeat' first | exact TLes.nil | refine TLes.cons (TLe.eq rfl) ?_ | refine TLes.cons (TLe.int ?_) ?_); (all_goals first | (exact Zal (by omega) (by omega)) | skip))
  · refine ⟨_, rfl, Rel.bool ?_⟩
    symm; rw [decide_eq_true_eq]
    exact Zdm 0 hlen (fun j hj => hc j (by omega))
theorem c_sameIns (x y : Ins) : FC Tryz.prog 189 [.agg (Zba x), .agg (Zba y)] (.bool (decide (x = y))) := by
  refine Zao tok Tryz.func189 rfl (by decide +kernel) (Nat.le_of_ble_eq_true rfl) ?_
  (repeat' first | refine Zac ?_ | (refine Zab tok (by rfl) ?_; conv => whnf))
  refine .inl ⟨_, _, _, uG (QC.fc (c_EqualI x.args y.args) rfl), ?_⟩
  conv => whnf
  (repeat' (refine Zah ?_; conv => whnf))
  refine ⟨_, rfl, Rel.bool ?_⟩
  obtain ⟨a1, a2, a3, a4, a5, a6, a7⟩ := x
  obtain ⟨b1, b2, b3, b4, b5, b6, b7⟩ := y
  rw [Bool.eq_iff_iff]
  simp [and_assoc]
theorem c_sameEnd (x y : End) : FC Tryz.prog 188 [.agg (Zd9 x), .agg (Zd9 y)] (.bool (decide (x = y))) := by
  refine Zao tok Tryz.func188 rfl (by decide +kernel) (Nat.le_of_ble_eq_true rfl) ?_
  (repeat' first | refine Zac ?_ | (refine Zab tok (by rfl) ?_; conv => whnf))
  refine .inl ⟨_, _, _, uG (QC.fc (c_EqualI x.args y.args) rfl), ?_⟩
  conv => whnf
  (repeat' (refine Zah ?_; conv => whnf))
  refine ⟨_, rfl, Rel.bool ?_⟩
  obtain ⟨a1, a2, a3, a4, a5, a6, a7, a8⟩ := x
  obtain ⟨b1, b2, b3, b4, b5, b6, b7, b8⟩ := y
  rw [Bool.eq_iff_iff]
  simp [and_assoc]
theorem c_samePad (x y : Pad) : FC Tryz.prog 180 [.agg (Zd8 x), .agg (Zd8 y)] (.bool (decide (x = y))) := by
  refine Zao tok Tryz.func180 rfl (by decide +kernel) (Nat.le_of_ble_eq_true rfl) ?_
  (repeat' first | refine Zac ?_ | (refine Zab tok (by rfl) ?_; conv => whnf))
  refine .inl ⟨_, _, _, uG (QC.fc (c_EqualU x.catch_ y.catch_) rfl), ?_⟩
  conv => whnf
  (repeat' (refine Zah ?_; conv => whnf))
  refine ⟨_, rfl, Rel.bool ?_⟩
  obtain ⟨a1, a2, a3, a4⟩ := x
  obtain ⟨b1, b2, b3, b4⟩ := y
  rw [Bool.eq_iff_iff]
  simp [and_assoc]
end Go.Proofs.YtoelbgjpmpoolaaGreat
namespace Go.Proofs.YtoelbgjpmpoolaaGreat
open Go Dv
set_option maxRecDepth 10000
set_option linter.unusedSimpArgs false
theorem ins_eq (u x : Ins) : u = x ↔ x.op = u.op ∧ x.dst = u.dst ∧ x.a = u.a ∧ x.b = u.b ∧ x.k = u.k ∧ x.f = u.f ∧ x.args = u.args := by
  rw [eq_comm (a := u)]; cases u; cases x; simp
set_option maxHeartbeats 4000000 in
theorem c_lins (m : Zaj) (f : Func) (x : Ins) : FC Tryz.prog 141 [.agg (encL m f), .agg (Zba x)] (.bool (decide (InsP m f x))) := by
  refine Zao tok Tryz.func141 rfl (by decide +kernel) (Nat.le_of_ble_eq_true rfl) ?_
  (repeat' ((fail_if_success (show AWp _ _ _ (Code.region 3 _ _) _ _)); first | refine Zac ?_ | (refine Zab tok (by rfl) ?_; conv => whnf)))
  refine Zab tok (by rfl) ?_
  conv => whnf
  refine Zdp (fun q : Ins × Bool => mkS [(2, .bp (2, 0, 0) 0), (3, .bp (3, 0, 0) 0), (4, .bool false), (5, .bp (5, 0, 0) 0), (6, .bool q.2)] [((2, 0, 0), Zam (encL m f)), ((3, 0, 0), Zam (Zba x)), ((5, 0, 0), .row true 7 1 (fun _ => Zba q.1))]) (fun q => (q.2 && decide (q.1 = x)) = decide (InsP m f x)) ?_ ?_
  · (repeat' first | refine Zac ?_ | (refine Zab tok (by rfl) ?_; conv => whnf) | (refine Zat tok mix (by rfl) ?_; conv => whnf) | refine Zai ?_ | (refine Zag ?_; conv => whnf) | (refine Zah ?_; conv => whnf) | refine Zae rfl (fun hb => ?_) (fun hb => ?_))
    all_goals (try (exfalso; simp only [decide_eq_true_eq, decide_eq_false_iff_not] at *; omega))
    all_goals (repeat' first | (refine .inl ⟨_, _, _, uG (QC.fc (c_place m f x.dst) rfl), ?_⟩; conv => whnf) | (refine .inl ⟨_, _, _, uG (QC.fc (c_place m f x.a) rfl), ?_⟩; conv => whnf) | (refine .inl ⟨_, _, _, uG (QC.fc (c_place m f x.b) rfl), ?_⟩; conv => whnf) | (refine .inl ⟨_, _, _, uG (QC.fc (c_lcall m f x.f x.args) rfl), ?_⟩; conv => whnf))
    skip
    all_goals (have hop := hb; simp only [decide_eq_true_eq, decide_eq_false_iff_not] at hop)
    all_goals (try (first | (refine ⟨(⟨x.op, x.dst, 0, 0, x.k, 0, []⟩, inn x.dst f.regs), ?hp, Weak.list [((2, 0, 0), .old (2, 0, 0), Zam (encL m f)), ((3, 0, 0), .old (3, 0, 0), Zam (Zba x)), ((5, 0, 0), .old (5, 0, 0), .row true 7 1 (fun _ => Zba ⟨x.op, x.dst, 0, 0, x.k, 0, []⟩))] rfl (by rfl) (.cons (.eq rfl) (.cons (.eq rfl) (.cons (.eq rfl) (.cons (.eq rfl) (.cons (.eq rfl) .nil))))) (.old rfl (BLe.refl _) (.old rfl (BLe.refl _) (.old rfl (BLe.rowW (Nat.le_refl _) (fun z hz => ?row)) .nil)))⟩; (case row => (match z, hz with | 0, _ => (repeat' ((conv => arg 1; whnf); (conv => arg 2; whnf); first | refine Wks.cons .refl ?_ | refine Wks.cons (.nsl rfl) ?_ | exact Wks.nil)))); (case hp => (rw [Bool.eq_iff_iff]; simp [InsP, ins_eq, hop, and_assoc, and_comm, and_left_comm]; done))) | (refine ⟨(⟨x.op, x.dst, x.a, 0, 0, 0, []⟩, bif inn x.dst f.regs then inn x.a f.regs else false), ?hp, Weak.list [((2, 0, 0), .old (2, 0, 0), Zam (encL m f)), ((3, 0, 0), .old (3, 0, 0), Zam (Zba x)), ((5, 0, 0), .old (5, 0, 0), .row true 7 1 (fun _ => Zba ⟨x.op, x.dst, x.a, 0, 0, 0, []⟩))] rfl (by rfl) (.cons (.eq rfl) (.cons (.eq rfl) (.cons (.eq rfl) (.cons (.eq rfl) (.cons (.eq rfl) .nil))))) (.old rfl (BLe.refl _) (.old rfl (BLe.refl _) (.old rfl (BLe.rowW (Nat.le_refl _) (fun z hz => ?row)) .nil)))⟩; (case row => (match z, hz with | 0, _ => (repeat' ((conv => arg 1; whnf); (conv => arg 2; whnf); first | refine Wks.cons .refl ?_ | refine Wks.cons (.nsl rfl) ?_ | exact Wks.nil)))); (case hp => (rw [Bool.eq_iff_iff]; simp [InsP, ins_eq, hop, and_assoc, and_comm, and_left_comm]; done))) | (refine ⟨(⟨x.op, x.dst, x.a, x.b, 0, 0, []⟩, bif bif inn x.dst f.regs then inn x.a f.regs else false then inn x.b f.regs else false), ?hp, Weak.list [((2, 0, 0), .old (2, 0, 0), Zam (encL m f)), ((3, 0, 0), .old (3, 0, 0), Zam (Zba x)), ((5, 0, 0), .old (5, 0, 0), .row true 7 1 (fun _ => Zba ⟨x.op, x.dst, x.a, x.b, 0, 0, []⟩))] rfl (by rfl) (.cons (.eq rfl) (.cons (.eq rfl) (.cons (.eq rfl) (.cons (.eq rfl) (.cons (.eq rfl) .nil))))) (.old rfl (BLe.refl _) (.old rfl (BLe.refl _) (.old rfl (BLe.rowW (Nat.le_refl _) (fun z hz => ?row)) .nil)))⟩; (case row => (match z, hz with | 0, _ => (repeat' ((conv => arg 1; whnf); (conv => arg 2; whnf); first | refine Wks.cons .refl ?_ | refine Wks.cons (.nsl rfl) ?_ | exact Wks.nil)))); (case hp => (rw [Bool.eq_iff_iff]; simp [InsP, ins_eq, hop, and_assoc, and_comm, and_left_comm]; done))) | (refine ⟨(⟨x.op, 0, x.a, x.b, 0, 0, []⟩, bif inn x.a f.regs then inn x.b f.regs else false), ?hp, Weak.list [((2, 0, 0), .old (2, 0, 0), Zam (encL m f)), ((3, 0, 0), .old (3, 0, 0), Zam (Zba x)), ((5, 0, 0), .old (5, 0, 0), .row true 7 1 (fun _ => Zba ⟨x.op, 0, x.a, x.b, 0, 0, []⟩))] rfl (by rfl) (.cons (.eq rfl) (.cons (.eq rfl) (.cons (.eq rfl) (.cons (.eq rfl) (.cons (.eq rfl) .nil))))) (.old rfl (BLe.refl _) (.old rfl (BLe.refl _) (.old rfl (BLe.rowW (Nat.le_refl _) (fun z hz => ?row)) .nil)))⟩; (case row => (match z, hz with | 0, _ => (repeat' ((conv => arg 1; whnf); (conv => arg 2; whnf); first | refine Wks.cons .refl ?_ | refine Wks.cons (.nsl rfl) ?_ | exact Wks.nil)))); (case hp => (rw [Bool.eq_iff_iff]; simp [InsP, ins_eq, hop, and_assoc, and_comm, and_left_comm]; done))) | (refine ⟨(⟨x.op, x.dst, 0, 0, 0, x.f, x.args⟩, bif inn x.dst f.regs then argsB m f x.f x.args else false), ?hp, Weak.list [((2, 0, 0), .old (2, 0, 0), Zam (encL m f)), ((3, 0, 0), .old (3, 0, 0), Zam (Zba x)), ((5, 0, 0), .old (5, 0, 0), .row true 7 1 (fun _ => Zba ⟨x.op, x.dst, 0, 0, 0, x.f, x.args⟩))] rfl (by rfl) (.cons (.eq rfl) (.cons (.eq rfl) (.cons (.eq rfl) (.cons (.eq rfl) (.cons (.eq rfl) .nil))))) (.old rfl (BLe.refl _) (.old rfl (BLe.refl _) (.old rfl (BLe.rowW (Nat.le_refl _) (fun z hz => ?row)) .nil)))⟩; (case row => (match z, hz with | 0, _ => (repeat' ((conv => arg 1; whnf); (conv => arg 2; whnf); first | refine Wks.cons .refl ?_ | exact Wks.nil)))); (case hp => (rw [Bool.eq_iff_iff]; simp [InsP, ins_eq, hop, and_assoc, and_comm, and_left_comm]; done))) | (refine ⟨(⟨x.op, 0, x.a, 0, 0, 0, []⟩, inn x.a f.regs), ?hp, Weak.list [((2, 0, 0), .old (2, 0, 0), Zam (encL m f)), ((3, 0, 0), .old (3, 0, 0), Zam (Zba x)), ((5, 0, 0), .old (5, 0, 0), .row true 7 1 (fun _ => Zba ⟨x.op, 0, x.a, 0, 0, 0, []⟩))] rfl (by rfl) (.cons (.eq rfl) (.cons (.eq rfl) (.cons (.eq rfl) (.cons (.eq rfl) (.cons (.eq rfl) .nil))))) (.old rfl (BLe.refl _) (.old rfl (BLe.refl _) (.old rfl (BLe.rowW (Nat.le_refl _) (fun z hz => ?row)) .nil)))⟩; (case row => (match z, hz with | 0, _ => (repeat' ((conv => arg 1; whnf); (conv => arg 2; whnf); first | refine Wks.cons .refl ?_ | refine Wks.cons (.nsl rfl) ?_ | exact Wks.nil)))); (case hp => (rw [Bool.eq_iff_iff]; simp [InsP, ins_eq, hop, and_assoc, and_comm, and_left_comm]; done))) | (refine ⟨(⟨x.op, x.dst, 0, 0, 0, 0, []⟩, inn x.dst f.regs), ?hp, Weak.list [((2, 0, 0), .old (2, 0, 0), Zam (encL m f)), ((3, 0, 0), .old (3, 0, 0), Zam (Zba x)), ((5, 0, 0), .old (5, 0, 0), .row true 7 1 (fun _ => Zba ⟨x.op, x.dst, 0, 0, 0, 0, []⟩))] rfl (by rfl) (.cons (.eq rfl) (.cons (.eq rfl) (.cons (.eq rfl) (.cons (.eq rfl) (.cons (.eq rfl) .nil))))) (.old rfl (BLe.refl _) (.old rfl (BLe.refl _) (.old rfl (BLe.rowW (Nat.le_refl _) (fun z hz => ?row)) .nil)))⟩; (case row => (match z, hz with | 0, _ => (repeat' ((conv => arg 1; whnf); (conv => arg 2; whnf); first | refine Wks.cons .refl ?_ | refine Wks.cons (.nsl rfl) ?_ | exact Wks.nil)))); (case hp => (rw [Bool.eq_iff_iff]; simp [InsP, ins_eq, hop, and_assoc, and_comm, and_left_comm]; done)))))
    refine ⟨_, rfl, Rel.bool ?_⟩
    simp only [decide_eq_true_eq, decide_eq_false_iff_not] at *
    symm; rw [decide_eq_false_iff_not]
    rintro (h | h | h | h | h | h | h) <;> omega
  rintro q hq τ hτ
  refine Zau hτ ?_
  conv => whnf
  (repeat' first | refine Zac ?_ | (refine Zab tok (by rfl) ?_; conv => whnf))
  refine .inl ⟨_, _, _, uG (QC.fc (c_sameIns q.1 x) rfl), ?_⟩
  conv => whnf
  (repeat' (refine Zah ?_; conv => whnf))
  refine ⟨_, rfl, Rel.bool ?_⟩
  rw [← hq]
  cases q.2 <;> rfl
end Go.Proofs.YtoelbgjpmpoolaaGreat
namespace Go.Proofs.YtoelbgjpmpoolaaGreat
open Go Dv
set_option maxRecDepth 10000
set_option linter.unusedSimpArgs false
theorem end_eq (u x : End) : u = x ↔ x.kind = u.kind ∧ x.a = u.a ∧ x.dst = u.dst ∧ x.f = u.f ∧ x.args = u.args ∧ x.to = u.to ∧ x.els = u.els ∧ x.pad = u.pad := by
  rw [eq_comm (a := u)]; cases u; cases x; simp
set_option maxHeartbeats 4000000 in
theorem c_lend (m : Zaj) (f : Func) (x : End) : FC Tryz.prog 139 [.agg (encL m f), .agg (Zd9 x)] (.bool (decide (EndP m f x))) := by
  refine Zao tok Tryz.func139 rfl (by decide +kernel) (Nat.le_of_ble_eq_true rfl) ?_
  (repeat' ((fail_if_success (show AWp _ _ _ (Code.region 3 _ _) _ _)); first | refine Zac ?_ | (refine Zab tok (by rfl) ?_; conv => whnf)))
  refine Zab tok (by rfl) ?_
  conv => whnf
  refine Zdp (fun q : End × Bool => mkS [(2, .bp (2, 0, 0) 0), (3, .bp (3, 0, 0) 0), (4, .bool false), (5, .bp (5, 0, 0) 0), (6, .bool q.2)] [((2, 0, 0), Zam (encL m f)), ((3, 0, 0), Zam (Zd9 x)), ((5, 0, 0), .row true 8 1 (fun _ => Zd9 q.1))]) (fun q => (q.2 && decide (q.1 = x)) = decide (EndP m f x)) ?_ ?_
  · (repeat' first | refine Zac ?_ | (refine Zab tok (by rfl) ?_; conv => whnf) | (refine Zat tok mix (by rfl) ?_; conv => whnf) | refine Zai ?_ | (refine Zag ?_; conv => whnf) | (refine Zah ?_; conv => whnf) | refine Zae rfl (fun hb => ?_) (fun hb => ?_))
    all_goals (try (exfalso; simp only [decide_eq_true_eq, decide_eq_false_iff_not] at *; omega))
    all_goals (repeat' first | (refine .inl ⟨_, _, _, uG (QC.fc (c_place m f x.dst) rfl), ?_⟩; conv => whnf) | (refine .inl ⟨_, _, _, uG (QC.fc (c_place m f x.a) rfl), ?_⟩; conv => whnf) | (refine .inl ⟨_, _, _, uG (QC.fc (c_lgoal m f x.to) rfl), ?_⟩; conv => whnf) | (refine .inl ⟨_, _, _, uG (QC.fc (c_lgoal m f x.els) rfl), ?_⟩; conv => whnf) | (refine .inl ⟨_, _, _, uG (QC.fc (c_landing m f x.pad) rfl), ?_⟩; conv => whnf) | (refine .inl ⟨_, _, _, uG (QC.fc (c_lcall m f x.f x.args) rfl), ?_⟩; conv => whnf))
    skip
    all_goals (have hop := hb; simp only [decide_eq_true_eq, decide_eq_false_iff_not] at hop)
    all_goals (try (first | (refine ⟨(⟨x.kind, x.a, 0, 0, [], 0, 0, 0⟩, inn x.a f.regs), ?hp, Weak.list [((2, 0, 0), .old (2, 0, 0), Zam (encL m f)), ((3, 0, 0), .old (3, 0, 0), Zam (Zd9 x)), ((5, 0, 0), .old (5, 0, 0), .row true 8 1 (fun _ => Zd9 ⟨x.kind, x.a, 0, 0, [], 0, 0, 0⟩))] rfl (by rfl) (.cons (.eq rfl) (.cons (.eq rfl) (.cons (.eq rfl) (.cons (.eq rfl) (.cons (.eq rfl) .nil))))) (.old rfl (BLe.refl _) (.old rfl (BLe.refl _) (.old rfl (BLe.rowW (Nat.le_refl _) (fun z hz => ?row)) .nil)))⟩; (case row => (match z, hz with | 0, _ => (repeat' ((conv => arg 1; whnf); (conv => arg 2; whnf); first | refine Wks.cons .refl ?_ | refine Wks.cons (.nsl rfl) ?_ | exact Wks.nil)))); (case hp => (rw [Bool.eq_iff_iff]; simp [EndP, end_eq, hop, landB, and_assoc, and_comm, and_left_comm]; done))) | (refine ⟨(⟨x.kind, 0, 0, 0, [], x.to, 0, 0⟩, goalB f x.to), ?hp, Weak.list [((2, 0, 0), .old (2, 0, 0), Zam (encL m f)), ((3, 0, 0), .old (3, 0, 0), Zam (Zd9 x)), ((5, 0, 0), .old (5, 0, 0), .row true 8 1 (fun _ => Zd9 ⟨x.kind, 0, 0, 0, [], x.to, 0, 0⟩))] rfl (by rfl) (.cons (.eq rfl) (.cons (.eq rfl) (.cons (.eq rfl) (.cons (.eq rfl) (.cons (.eq rfl) .nil))))) (.old rfl (BLe.refl _) (.old rfl (BLe.refl _) (.old rfl (BLe.rowW (Nat.le_refl _) (fun z hz => ?row)) .nil)))⟩; (case row => (match z, hz with | 0, _ => (repeat' ((conv => arg 1; whnf); (conv => arg 2; whnf); first | refine Wks.cons .refl ?_ | refine Wks.cons (.nsl rfl) ?_ | exact Wks.nil)))); (case hp => (rw [Bool.eq_iff_iff]; simp [EndP, end_eq, hop, landB, and_assoc, and_comm, and_left_comm]; done))) | (refine ⟨(⟨x.kind, x.a, 0, 0, [], x.to, x.els, 0⟩, bif bif inn x.a f.regs then goalB f x.to else false then goalB f x.els else false), ?hp, Weak.list [((2, 0, 0), .old (2, 0, 0), Zam (encL m f)), ((3, 0, 0), .old (3, 0, 0), Zam (Zd9 x)), ((5, 0, 0), .old (5, 0, 0), .row true 8 1 (fun _ => Zd9 ⟨x.kind, x.a, 0, 0, [], x.to, x.els, 0⟩))] rfl (by rfl) (.cons (.eq rfl) (.cons (.eq rfl) (.cons (.eq rfl) (.cons (.eq rfl) (.cons (.eq rfl) .nil))))) (.old rfl (BLe.refl _) (.old rfl (BLe.refl _) (.old rfl (BLe.rowW (Nat.le_refl _) (fun z hz => ?row)) .nil)))⟩; (case row => (match z, hz with | 0, _ => (repeat' ((conv => arg 1; whnf); (conv => arg 2; whnf); first | refine Wks.cons .refl ?_ | refine Wks.cons (.nsl rfl) ?_ | exact Wks.nil)))); (case hp => (rw [Bool.eq_iff_iff]; simp [EndP, end_eq, hop, landB, and_assoc, and_comm, and_left_comm]; done))) | (refine ⟨(⟨x.kind, 0, x.dst, x.f, x.args, x.to, 0, x.pad⟩, bif bif bif inn x.dst f.regs then argsB m f x.f x.args else false then goalB f x.to else false then landB f x.pad else false), ?hp, Weak.list [((2, 0, 0), .old (2, 0, 0), Zam (encL m f)), ((3, 0, 0), .old (3, 0, 0), Zam (Zd9 x)), ((5, 0, 0), .old (5, 0, 0), .row true 8 1 (fun _ => Zd9 ⟨x.kind, 0, x.dst, x.f, x.args, x.to, 0, x.pad⟩))] rfl (by rfl) (.cons (.eq rfl) (.cons (.eq rfl) (.cons (.eq rfl) (.cons (.eq rfl) (.cons (.eq rfl) .nil))))) (.old rfl (BLe.refl _) (.old rfl (BLe.refl _) (.old rfl (BLe.rowW (Nat.le_refl _) (fun z hz => ?row)) .nil)))⟩; (case row => (match z, hz with | 0, _ => (repeat' ((conv => arg 1; whnf); (conv => arg 2; whnf); first | refine Wks.cons .refl ?_ | exact Wks.nil)))); (case hp => (rw [Bool.eq_iff_iff]; simp [EndP, end_eq, hop, landB, and_assoc, and_comm, and_left_comm]; done))) | (refine ⟨(⟨x.kind, 0, 0, 0, [], 0, 0, 0⟩, true), ?hp, Weak.list [((2, 0, 0), .old (2, 0, 0), Zam (encL m f)), ((3, 0, 0), .old (3, 0, 0), Zam (Zd9 x)), ((5, 0, 0), .old (5, 0, 0), .row true 8 1 (fun _ => Zd9 ⟨x.kind, 0, 0, 0, [], 0, 0, 0⟩))] rfl (by rfl) (.cons (.eq rfl) (.cons (.eq rfl) (.cons (.eq rfl) (.cons (.eq rfl) (.cons (.eq rfl) .nil))))) (.old rfl (BLe.refl _) (.old rfl (BLe.refl _) (.old rfl (BLe.rowW (Nat.le_refl _) (fun z hz => ?row)) .nil)))⟩; (case row => (match z, hz with | 0, _ => (repeat' ((conv => arg 1; whnf); (conv => arg 2; whnf); first | refine Wks.cons .refl ?_ | refine Wks.cons (.nsl rfl) ?_ | exact Wks.nil)))); (case hp => (rw [Bool.eq_iff_iff]; simp [EndP, end_eq, hop, landB, and_assoc, and_comm, and_left_comm]; done)))))
    refine ⟨_, rfl, Rel.bool ?_⟩
    simp only [decide_eq_true_eq, decide_eq_false_iff_not] at *
    symm; rw [decide_eq_false_iff_not]
    rintro (h | h | h | h | h) <;> omega
  rintro q hq τ hτ
  refine Zau hτ ?_
  conv => whnf
  (repeat' first | refine Zac ?_ | (refine Zab tok (by rfl) ?_; conv => whnf))
  refine .inl ⟨_, _, _, uG (QC.fc (c_sameEnd q.1 x) rfl), ?_⟩
  conv => whnf
  (repeat' (refine Zah ?_; conv => whnf))
  refine ⟨_, rfl, Rel.bool ?_⟩
  rw [← hq]
  cases q.2 <;> rfl
end Go.Proofs.YtoelbgjpmpoolaaGreat
namespace Go.Proofs.YtoelbgjpmpoolaaGreat
open Go Dv
set_option maxRecDepth 10000
set_option linter.unusedSimpArgs false
theorem c_IdxInsM {g : FuncId} {cap : List AV} {p : Ins → Bool} (hi : Zcb cap = true) (l : List Ins) (hg : ∀ i, i < l.length → FC Tryz.prog g (.agg (Zba (l.getD i default)) :: cap) (.bool (p (l.getD i default)))) : FC Tryz.prog 147 [inss l, .fn g cap] (iv (idxG p l)) := by
  refine Zao tok Tryz.func147 rfl (by decide +kernel) (Nat.le_of_ble_eq_true rfl) ?_
  refine Zaw 0 (fun hl => ?_)
  have hl0 : l.length ≤ maxL := hl.1
  (repeat' first | refine Zac ?_ | (refine Zab tok (by rfl) ?_; conv => whnf) | refine Zai ?_)
  refine Za1 (fun i : Nat => mkS [(0, inss l), (1, .fn g cap), (7, iv l.length), (8, iv i)] [])
    (fun i => i ≤ l.length ∧ ∀ j, j < i → p (l.getD j default) = false) (fun i => l.length - i) 0 ⟨Nat.zero_le _, by simp⟩ ?_ ?_
  · refine Weak.list [] rfl (by rfl) ?_ .nil
    ((repeat' first | exact TLes.nil | refine TLes.cons (TLe.eq rfl) ?_ | refine TLes.cons (TLe.fn (by assumption)) ?_); skip)
  rintro i ⟨hi2, hc⟩
  ((repeat' first | refine Zac ?_ | (refine Zab tok (by rfl) ?_; conv => whnf) | refine Zai ?_ | (refine Zag ?_; conv => whnf) | (refine Za3 ?_; conv => whnf) | (refine Zah ?_; conv => whnf) | (refine (Zci _ _).mpr ?_; conv => whnf) | refine Zae rfl (fun hb => ?_) (fun hb => ?_) | (refine @And.intro (Zaa _ _ _ _) _ ?_ ?_; rotate_left; (conv => whnf); rotate_right)); all_goals (try ((guard_target = Zaa _ _ _ _); refine Zaf ?_; (all_goals (try simp only [Zaa, kzz, kz11, kz12, maxL, Zad] at *)); all_goals omega)))
  · have hlt : i < l.length := by simp only [Zaa, kzz, kz11, kz12, maxL, Zad] at *; omega
    refine .inl ⟨_, _, _, uG (QC.fc (hg (i : Int).toNat hlt) (immDs_app (xs := [.agg (Zba (l.getD (i : Int).toNat default))]) rfl hi)), ?_⟩
    conv => whnf
    (repeat' first | refine Zac ?_ | (refine Zab tok (by rfl) ?_; conv => whnf) | (refine Zag ?_; conv => whnf) | (refine Zah ?_; conv => whnf) | refine Zae rfl (fun hb => ?_) (fun hb => ?_))
    · refine ⟨_, rfl, Rel.int ?_⟩
      exact (idxG_at default hlt hc (by simpa using hb)).symm
    · refine ⟨i + 1, ⟨hlt, fun j hj => ?_⟩, by omega, ?_⟩
      · by_cases e : j = i
        · subst e; simpa using hb
        · exact hc j (by omega)
      refine Weak.list [] rfl (by rfl) ?_ .nil
      ((repeat' first | exact TLes.nil | refine TLes.cons (TLe.eq rfl) ?_ | refine TLes.cons (TLe.int ?_) ?_ | refine TLes.cons (TLe.fn (by assumption)) ?_); (all_goals first | ((try (simp only [Zaa, kzz, kz11, kz12, maxL, Zad] at *)); exact Zal (by omega) (by omega)) | skip))
  · refine ⟨_, rfl, Rel.int ?_⟩
    exact (idxG_none default (fun j hj => hc j (by simp only [Zaa, kzz, kz11, kz12, maxL, Zad] at *; omega))).symm
theorem c_HasInsM {g : FuncId} {cap : List AV} {p : Ins → Bool} (hi : Zcb cap = true) (l : List Ins) (hg : ∀ i, i < l.length → FC Tryz.prog g (.agg (Zba (l.getD i default)) :: cap) (.bool (p (l.getD i default)))) : FC Tryz.prog 100 [inss l, .fn g cap] (.bool (l.any p)) := by
  refine Zao tok Tryz.func100 rfl (by decide +kernel) (Nat.le_of_ble_eq_true rfl) ?_
  (repeat' first | refine Zac ?_ | (refine Zab tok (by rfl) ?_; conv => whnf) | (refine (Zci _ _).mpr ?_; conv => whnf))
  refine .inl ⟨_, _, _, uG (QC.fc (c_IdxInsM hi l hg) (show Zcb [inss l, AV.fn g cap] = true from by simp [Zcb, immD, inss, hi])), ?_⟩
  conv => whnf
  (repeat' (refine Zah ?_; conv => whnf))
  refine ⟨_, rfl, Rel.bool ?_⟩
  rw [← idxG_any]
theorem c_IdxFuncM {g : FuncId} {cap : List AV} {p : Func → Bool} (hi : Zcb cap = true) (l : List Func) (hg : ∀ i, i < l.length → FC Tryz.prog g (.agg (Zbm (l.getD i default)) :: cap) (.bool (p (l.getD i default)))) : FC Tryz.prog 90 [funcss l, .fn g cap] (iv (idxG p l)) := by
  refine Zao tok Tryz.func90 rfl (by decide +kernel) (Nat.le_of_ble_eq_true rfl) ?_
  refine Zaw 0 (fun hl => ?_)
  have hl0 : l.length ≤ maxL := hl.1
  (repeat' first | refine Zac ?_ | (refine Zab tok (by rfl) ?_; conv => whnf) | refine Zai ?_)
  refine Za1 (fun i : Nat => mkS [(0, funcss l), (1, .fn g cap), (7, iv l.length), (8, iv i)] [])
    (fun i => i ≤ l.length ∧ ∀ j, j < i → p (l.getD j default) = false) (fun i => l.length - i) 0 ⟨Nat.zero_le _, by simp⟩ ?_ ?_
  · refine Weak.list [] rfl (by rfl) ?_ .nil
    ((repeat' first | exact TLes.nil | refine TLes.cons (TLe.eq rfl) ?_ | refine TLes.cons (TLe.fn (by assumption)) ?_); skip)
  rintro i ⟨hi2, hc⟩
  ((repeat' first | refine Zac ?_ | (refine Zab tok (by rfl) ?_; conv => whnf) | refine Zai ?_ | (refine Zag ?_; conv => whnf) | (refine Za3 ?_; conv => whnf) | (refine Zah ?_; conv => whnf) | (refine (Zci _ _).mpr ?_; conv => whnf) | refine Zae rfl (fun hb => ?_) (fun hb => ?_) | (refine @And.intro (Zaa _ _ _ _) _ ?_ ?_; rotate_left; (conv => whnf); rotate_right)); all_goals (try ((guard_target = Zaa _ _ _ _); refine Zaf ?_; (all_goals (try simp only [Zaa, kzz, kz11, kz12, maxL, Zad] at *)); all_goals omega)))
  · have hlt : i < l.length := by simp only [Zaa, kzz, kz11, kz12, maxL, Zad] at *; omega
    refine .inl ⟨_, _, _, uG (QC.fc (hg (i : Int).toNat hlt) (immDs_app (xs := [.agg (Zbm (l.getD (i : Int).toNat default))]) rfl hi)), ?_⟩
    conv => whnf
    (repeat' first | refine Zac ?_ | (refine Zab tok (by rfl) ?_; conv => whnf) | (refine Zag ?_; conv => whnf) | (refine Zah ?_; conv => whnf) | refine Zae rfl (fun hb => ?_) (fun hb => ?_))
    · refine ⟨_, rfl, Rel.int ?_⟩
      exact (idxG_at default hlt hc (by simpa using hb)).symm
    · refine ⟨i + 1, ⟨hlt, fun j hj => ?_⟩, by omega, ?_⟩
      · by_cases e : j = i
        · subst e; simpa using hb
        · exact hc j (by omega)
      refine Weak.list [] rfl (by rfl) ?_ .nil
      ((repeat' first | exact TLes.nil | refine TLes.cons (TLe.eq rfl) ?_ | refine TLes.cons (TLe.int ?_) ?_ | refine TLes.cons (TLe.fn (by assumption)) ?_); (all_goals first | ((try (simp only [Zaa, kzz, kz11, kz12, maxL, Zad] at *)); exact Zal (by omega) (by omega)) | skip))
  · refine ⟨_, rfl, Rel.int ?_⟩
    exact (idxG_none default (fun j hj => hc j (by simp only [Zaa, kzz, kz11, kz12, maxL, Zad] at *; omega))).symm
theorem c_HasFuncM {g : FuncId} {cap : List AV} {p : Func → Bool} (hi : Zcb cap = true) (l : List Func) (hg : ∀ i, i < l.length → FC Tryz.prog g (.agg (Zbm (l.getD i default)) :: cap) (.bool (p (l.getD i default)))) : FC Tryz.prog 51 [funcss l, .fn g cap] (.bool (l.any p)) := by
  refine Zao tok Tryz.func51 rfl (by decide +kernel) (Nat.le_of_ble_eq_true rfl) ?_
  (repeat' first | refine Zac ?_ | (refine Zab tok (by rfl) ?_; conv => whnf) | (refine (Zci _ _).mpr ?_; conv => whnf))
  refine .inl ⟨_, _, _, uG (QC.fc (c_IdxFuncM hi l hg) (show Zcb [funcss l, AV.fn g cap] = true from by simp [Zcb, immD, funcss, hi])), ?_⟩
  conv => whnf
  (repeat' (refine Zah ?_; conv => whnf))
  refine ⟨_, rfl, Rel.bool ?_⟩
  rw [← idxG_any]
theorem c_HasIns {g : FuncId} {cap : List AV} {p : Ins → Bool} (hi : Zcb cap = true) (hg : ∀ x, FC Tryz.prog g (.agg (Zba x) :: cap) (.bool (p x))) (l : List Ins) : FC Tryz.prog 100 [inss l, .fn g cap] (.bool (l.any p)) := c_HasInsM hi l (fun i _ => hg _)
theorem c_HasFunc {g : FuncId} {cap : List AV} {p : Func → Bool} (hi : Zcb cap = true) (hg : ∀ x, FC Tryz.prog g (.agg (Zbm x) :: cap) (.bool (p x))) (l : List Func) : FC Tryz.prog 51 [funcss l, .fn g cap] (.bool (l.any p)) := c_HasFuncM hi l (fun i _ => hg _)
end Go.Proofs.YtoelbgjpmpoolaaGreat
namespace Go.Proofs.YtoelbgjpmpoolaaGreat
open Go Dv
set_option maxRecDepth 10000
set_option linter.unusedSimpArgs false
theorem c_lblk1 (m : Zaj) (f : Func) (x : Ins) : FC Tryz.prog 140 [.agg (Zba x), .ip (encL m f)] (.bool (!decide (InsP m f x))) := by
  refine Zao tok Tryz.func140 rfl (by decide +kernel) (Nat.le_of_ble_eq_true rfl) ?_
  (repeat' first | refine Zac ?_ | (refine Zab tok (by rfl) ?_; conv => whnf))
  refine .inl ⟨_, _, _, uG (QC.fc (c_lins m f x) rfl), ?_⟩
  conv => whnf
  (repeat' (refine Zah ?_; conv => whnf))
  exact ⟨_, rfl, Rel.imm rfl⟩
def LPad : Prop := ∀ (m : Zaj) (f : Func) (b : Zex), FC Tryz.prog 138 [.agg (encL m f), .agg (Zbi b)] (.bool (decide (PadP f b)))
theorem c_lblock (hpad : LPad) (m : Zaj) (f : Func) (n : Nat) (hn : n < f.blocks.length) : FC Tryz.prog 91 [.agg (encL m f), iv n] (.bool (blkB m f (f.blocks.getD n default))) := by
  refine Zao tok Tryz.func91 rfl (by decide +kernel) (Nat.le_of_ble_eq_true rfl) ?_
  ((repeat' ((fail_if_success (show AWp _ _ _ (Code.region 2 _ _) _ _)); first | refine Zac ?_ | (refine Zab tok (by rfl) ?_; conv => whnf) | (refine @And.intro (Zaa _ _ _ _) _ ?_ ?_; rotate_left; (conv => whnf); rotate_right))); all_goals (try ((guard_target = Zaa _ _ _ _); refine Zaf ?_; all_goals omega)))
  have hget : f.blocks.getD (n : Int).toNat default = f.blocks.getD n default := by simp
  generalize f.blocks.getD n default = b at hget ⊢
  refine Zau (Weak.list (tl := [(2, .bp (2, 0, 0) 0), (4, .bool false), (5, .bp (5, 0, 0) 0)]) [((2, 0, 0), .old (2, 0, 0), Zam (encL m f)), ((5, 0, 0), .old (5, 0, 0), .row true 14 1 (fun _ => Zbi b))] rfl (by rfl) ?_ (.old rfl (BLe.refl _) (.old rfl (BLe.rowW (Nat.le_refl _) (fun z hz => ?_)) .nil))) ?_
  · ((repeat' first | exact TLes.nil | refine TLes.cons (TLe.eq rfl) ?_); skip)
  · match z, hz with
    | 0, _ => rw [← hget]; exact Wks.of rfl
  (repeat' (refine Zab tok (by rfl) ?_; conv => whnf))
  refine .inl ⟨_, _, _, uG (QC.fc (hpad m f b) rfl), ?_⟩
  conv => whnf
  skip
  refine .inl ⟨_, _, _, uG (QC.fc (c_lend m f b.fin) rfl), ?_⟩
  conv => whnf
  skip
  have hh := c_HasIns (g := 140) (cap := [.ip (encL m f)]) (p := fun x => !decide (InsP m f x)) rfl (fun x => c_lblk1 m f x) b.ins
  refine .inl ⟨_, _, _, uG (QC.sc (rd := [(2, 0, 0)]) hh (.cons (.imm rfl) (.cons (.fn (.cons (.ip rfl (List.mem_singleton.2 rfl) (by decide) (Ress.imms rfl)) .nil)) .nil)) rfl), ?_⟩
  conv => whnf
  (repeat' (refine Zah ?_; conv => whnf))
  refine ⟨_, rfl, Rel.bool ?_⟩
  unfold blkB
  rw [List.not_any_eq_all_not, Bool.eq_iff_iff]
  have hc : decide ((b.ins.length : Int) ≤ 64) = decide (b.ins.length ≤ 64) := by rw [decide_eq_decide]; omega
  rw [hc]
  simp [and_assoc]
end Go.Proofs.YtoelbgjpmpoolaaGreat
namespace Go.Proofs.YtoelbgjpmpoolaaGreat
open Go Dv
set_option maxRecDepth 10000
set_option linter.unusedSimpArgs false
theorem c_lFunc (hpad : LPad) (m : Zaj) (f : Func) : FC Tryz.prog 53 [.agg (Zav m), .agg (Zbm f)] (.bool (Ze8 m f)) := by
  refine Zao tok Tryz.func53 rfl (by decide +kernel) (Nat.le_of_ble_eq_true rfl) ?_
  refine Zaw 1 (fun hl => ?_)
  have hl0 : f.blocks.length ≤ maxL := hl.2.2.1.1
  ((repeat' first | refine Zac ?_ | (refine Zab tok (by rfl) ?_; conv => whnf) | refine Zai ?_ | (refine Zag ?_; conv => whnf) | (refine Zah ?_; conv => whnf) | refine Zae rfl (fun hb => ?_) (fun hb => ?_) | (refine @And.intro (Zaa _ _ _ _) _ ?_ ?_; rotate_left; (conv => whnf); rotate_right)); all_goals (try ((guard_target = Zaa _ _ _ _); ((refine Za8 ?_; intro hgd; (conv at hgd => whnf))); (all_goals (try simp only [Zaa, kzz, kz11, kz12, maxL, Zad] at *)); all_goals omega)))
  · refine ⟨_, rfl, Rel.bool ?_⟩
    rw [show Int.toNat 0 = 0 from rfl] at hb
    unfold Ze8
    have hF : decide (FunP f) = false := by
      rw [decide_eq_false_iff_not]; intro h; unfold FunP at h
      rw [h.2.2.2.2.2.2] at hb; simp [-List.length_eq_zero_iff] at hb; omega
    rw [hF]; rfl
  have hF : FunP f := by
    rw [show Int.toNat 0 = 0 from rfl] at hb
    unfold FunP
    cases hland : (f.blocks.getD 0 default).landing with
    | true => rw [hland] at hb; simp at hb
    | false => rw [hland] at hb; simp [-List.length_eq_zero_iff] at hb; refine ⟨?_, ?_, ?_, ?_, ?_, ?_, rfl⟩ <;> omega
  clear hb
  refine Za1 (fun i : Nat => mkS [(4, .bool false), (5, .bp (5, 0, 0) 0), (51, iv f.blocks.length), (52, iv i)] [((5, 0, 0), .row true 4 1 (fun _ => encL m f))])
    (fun i => i ≤ f.blocks.length ∧ ∀ j, j < i → blkB m f (f.blocks.getD j default) = true) (fun i => f.blocks.length - i) 0 ⟨Nat.zero_le _, by simp⟩ ?_ ?_
  · refine Weak.list [((5, 0, 0), .old (5, 0, 0), .row true 4 1 (fun _ => encL m f))] rfl (by rfl) ?_ (.old rfl (BLe.rowW (Nat.le_refl _) (fun z hz => ?_)) .nil)
    · ((repeat' first | exact TLes.nil | refine TLes.cons (TLe.eq rfl) ?_); skip)
    · match z, hz with
      | 0, _ => exact Wks.of rfl
  rintro i ⟨hi, hc⟩
  (repeat' first | refine Zac ?_ | (refine Zab tok (by rfl) ?_; conv => whnf) | refine Zai ?_ | (refine Zag ?_; conv => whnf) | (refine Za3 ?_; conv => whnf) | (refine Zah ?_; conv => whnf) | refine Zae rfl (fun hb => ?_) (fun hb => ?_))
  · have hlt : i < f.blocks.length := by simp only [Zaa, kzz, kz11, kz12, maxL, Zad] at *; omega
    refine .inl ⟨_, _, _, uG (QC.fc (c_lblock hpad m f i hlt) rfl), ?_⟩
    conv => whnf
    (repeat' first | refine Zac ?_ | (refine Zab tok (by rfl) ?_; conv => whnf) | (refine Zag ?_; conv => whnf) | (refine Zah ?_; conv => whnf) | refine Zae rfl (fun hb => ?_) (fun hb => ?_))
    · refine ⟨_, rfl, Rel.bool ?_⟩
      unfold Ze8
      rw [all_no default hlt (p := blkB m f) (by simpa using hb)]
      simp
    · refine ⟨i + 1, ⟨hlt, fun j hj => ?_⟩, by omega, ?_⟩
      · by_cases e : j = i
        · subst e; simpa using hb
        · exact hc j (by omega)
      refine Weak.list [((5, 0, 0), .old (5, 0, 0), .row true 4 1 (fun _ => encL m f))] rfl (by rfl) ?_ (.old rfl (BLe.refl _) .nil)
      ((repeat' first | exact TLes.nil | refine TLes.cons (TLe.eq rfl) ?_ | refine TLes.cons (TLe.int ?_) ?_); (all_goals first | ((try (simp only [Zaa, kzz, kz11, kz12, maxL, Zad] at *)); exact Zal (by omega) (by omega)) | skip))
  · refine ⟨_, rfl, Rel.bool ?_⟩
    unfold Ze8
    rw [decide_eq_true hF, all_yes default (fun j hj => hc j (by simp only [Zaa, kzz, kz11, kz12, maxL, Zad] at *; omega))]; rfl
theorem c_lRight1 (hpad : LPad) (m : Zaj) (f : Func) : FC Tryz.prog 52 [.agg (Zbm f), .ip (Zav m)] (.bool (!Ze8 m f)) := by
  refine Zao tok Tryz.func52 rfl (by decide +kernel) (Nat.le_of_ble_eq_true rfl) ?_
  (repeat' first | refine Zac ?_ | (refine Zab tok (by rfl) ?_; conv => whnf))
  refine .inl ⟨_, _, _, uG (QC.fc (c_lFunc hpad m f) rfl), ?_⟩
  conv => whnf
  (repeat' (refine Zah ?_; conv => whnf))
  exact ⟨_, rfl, Rel.imm rfl⟩
theorem c_lRight (hpad : LPad) (m : Zaj) : FC Tryz.prog 15 [.agg (Zav m)] (.bool (Zbg m)) := by
  refine Zao tok Tryz.func15 rfl (by decide +kernel) (Nat.le_of_ble_eq_true rfl) ?_
  refine Zaw 0 (fun hl => ?_)
  have hl0 : m.funcs.length ≤ maxL := hl.1.1
  ((repeat' first | refine Zac ?_ | (refine Zab tok (by rfl) ?_; conv => whnf) | (refine Zag ?_; conv => whnf) | (refine Zah ?_; conv => whnf) | refine Zae rfl (fun hb => ?_) (fun hb => ?_) | (refine @And.intro (Zaa _ _ _ _) _ ?_ ?_; rotate_left; (conv => whnf); rotate_right)); all_goals (try ((guard_target = Zaa _ _ _ _); ((refine Za8 ?_; intro hgd; (conv at hgd => whnf))); (all_goals (try simp only [Zaa, kzz, kz11, kz12, maxL, Zad] at *)); all_goals omega)))
  · refine ⟨_, rfl, Rel.bool ?_⟩
    rw [show Int.toNat 0 = 0 from rfl] at hb
    unfold Zbg
    rw [decide_eq_false]
    · rfl
    · rintro ⟨h1, h2, h3⟩
      rw [h3] at hb; simp [-List.length_eq_zero_iff] at hb; omega
  have hF : 1 ≤ m.funcs.length ∧ m.funcs.length ≤ 16 ∧ (m.funcs.getD 0 default).params = 0 := by
    rw [show Int.toNat 0 = 0 from rfl] at hb
    simp only [Bool.cond_true_left, Bool.or_eq_false_iff] at hb
    refine ⟨?_, ?_, by simpa using hb.2⟩ <;> simp only [Zaa, kzz, kz11, kz12, maxL, Zad] at * <;> omega
  clear hb
  refine .inl ⟨_, _, _, uG (QC.sc (rd := [(1, 0, 0)]) (c_HasFunc (g := 52) (cap := [.ip (Zav m)]) (p := fun f => !Ze8 m f) rfl (fun f => c_lRight1 hpad m f) m.funcs) (.cons (.imm rfl) (.cons (.fn (.cons (.ip rfl (List.mem_singleton.2 rfl) (by decide) (Ress.imms rfl)) .nil)) .nil)) rfl), ?_⟩
  conv => whnf
  (repeat' (refine Zah ?_; conv => whnf))
  refine ⟨_, rfl, Rel.bool ?_⟩
  unfold Zbg
  rw [List.not_any_eq_all_not, decide_eq_true hF]
  simp
end Go.Proofs.YtoelbgjpmpoolaaGreat
namespace Go.Proofs.YtoelbgjpmpoolaaGreat
open Go Dv Go.RowKit Go.Maps Go.Sort Go.Shelf
set_option linter.unusedSimpArgs false
@[go_sem, reducible] def encU (k : Int) : Value := .int .u16 k
def SeqU (F : Fence) (n : Nat) (g : Nat) (lb : Array Value) (S : List Int → Prop) (N : Nat) (w : World) : Prop :=
  ∀ (l : Nat) (J : List Int → World → Prop) (W : World), RowKit.Below w.heap.size w W → (∀ pre W', J pre W' → RowKit.Below w.heap.size w W') →
    (∀ pre x W', J pre W' → pre.length < N → YieldAt F (n - 1) Tryz.prog l #[encU x] W' fun e W2 => e = .returned (.bool true) ∧ J (pre ++ [x]) W2 ∧ KeepsWalks W' W2) → J [] W →
    CallsIn F n Tryz.prog g (#[.func (.yield l) #[] #[]] ++ lb) W fun e W' => (∃ v, e = .returned v) ∧ ∃ ss, S ss ∧ J ss W'
def Sq.apAssign : Code := (Code.region 2 #[{ dst := some 5, op := Op.assign (Operand.tmp 7), type := 50, pos := "iter.go:51", after := #[], guard := none }] false)
def Sq.apBody : Code := (Code.block 1 (Code.region 3 #[{ dst := some 8, op := Op.load 25 (Operand.tmp 2), type := 25, pos := "iter.go:52", after := #[], guard := none }, { dst := some 9, op := Op.move (Operand.tmp 5), type := 50, pos := "iter.go:52", after := #[], guard := none }, { dst := some 10, op := Op.buildSlice 25 1 #[(0, Operand.tmp 9)], type := 25, pos := "iter.go:52", after := #[{ on := 1, ground := Ground.data }], guard := none }, { dst := some 11, op := Op.call { callee := Callee.builtin Builtin.append, args := #[Operand.tmp 8, Operand.tmp 10], argTypes := #[25, 25] }, type := 25, pos := "iter.go:52", after := #[{ on := 0, ground := Ground.data }, { on := 2, ground := Ground.data }], guard := none }, { dst := none, op := Op.store 25 (Operand.tmp 2) (Operand.tmp 11), type := 0, pos := "iter.go:52", after := #[{ on := 3, ground := Ground.data }, { on := 3, ground := Ground.chain }, { on := 0, ground := Ground.phase }, { on := 1, ground := Ground.phase }, { on := 2, ground := Ground.phase }, { on := 3, ground := Ground.phase }], guard := none }] false))
def Sq.apRec (fn : FuncId) (sv : Value) (Bs D : Nat) (st : LoopState) (pend : Option Code) : Loop :=
  { state := st, pending := pend, fn, tmps := #[.slice none 0 0, sv, .pointer (some ⟨Bs, 0, none⟩), undef, .slice none 0 0, undef, sv, undef, undef, undef, undef, undef, undef], params := #[7], assign := Sq.apAssign, body := Sq.apBody, defers := D }
structure Sq.ApAt (w0 : World) (fn : FuncId) (sv : Value) (Bs l D : Nat) (ss : List Int) (W : World) : Prop where
  box : ∃ v, W.heap[Bs]? = some (.cells #[v] 25 (0, 0)) ∧ W.ownsRow w0.heap.size 50 1 v ss.length (ss.map encU) ∧ (v = .slice none 0 0 ↔ ss = [])
  L : W.heap[l]? = some (.loop (Sq.apRec fn sv Bs D .ready none))
  K : W.heap[D]? = some (.deferred (some []))
  below : Below w0.heap.size w0 W
theorem Zcp (W : World) (l : Nat) (o : Obj) : W.grownBy (W.putObj l o) (some l) :=
  ⟨rfl, rfl, rfl, by simp, fun k _ hk => World.putObj_heap_other (fun e => hk (by rw [e]))⟩
theorem grownBy_setCell0 (W : World) (b : Nat) (v : Value) : W.grownBy (W.setCell ⟨b, 0, none⟩ v) (some b) :=
  ⟨rfl, rfl, rfl, (KeepsWalks.setCell W _ v).size, fun k _ hk => Below.heap_setCell _ _ _ k (fun e => hk (by rw [e]))⟩
theorem Zep {W : World} {base : Nat} {e : TypeId} {size : Nat} {v : Value} {k : Nat} {xs : List Value} (h : W.ownsRow base e size v k xs) {j : Nat} {o : Obj} (hj : W.heap[j]? = some o) (hno : ∀ cur, o ≠ .cells cur e (0, 0)) :
    v.ownBlock = none ∨ v.ownBlock ≠ some j := by
  rcases h.2 with ⟨rfl, _⟩ | ⟨g, cap, cur, rfl, _, hgb, _⟩
  · exact .inl rfl
  · refine .inr fun e' => ?_
    have : g = j := by simpa [Value.ownBlock] using e'
    subst this; rw [hgb] at hj; cases hj; exact hno cur rfl
theorem cell_of_box {W : World} {B : Nat} {v : Value} {t : TypeId} (h : W.heap[B]? = some (.cells #[v] t (0, 0))) : W.cell? ⟨B, 0, none⟩ = some v ∧ W.frozen? ⟨B, 0, none⟩ = false := by
  constructor <;> simp [World.cell?, World.frozen?, h]
theorem heap_setCell_box {W : World} {B : Nat} {v : Value} {t : TypeId} (v' : Value) (h : W.heap[B]? = some (.cells #[v] t (0, 0))) : (W.setCell ⟨B, 0, none⟩ v').heap[B]? = some (.cells #[v'] t (0, 0)) := by
  obtain ⟨hlt, hk⟩ := Array.getElem?_eq_some_iff.1 h
  show (W.heap.modify B _)[B]? = _
  rw [Array.getElem?_eq_getElem (by rw [Array.size_modify]; exact hlt), Array.getElem_modify_self, hk]
  rfl
theorem ownsRow_not_walk {W : World} {base : Nat} {e : TypeId} {size : Nat} {v : Value} {k : Nat} {xs : List Value} (h : W.ownsRow base e size v k xs) : ∀ (j : Nat) (o : Obj), v.ownBlock = some j → W.heap[j]? = some o → o.isWalk = false := by
  intro j o hj ho
  rcases h.2 with ⟨rfl, _⟩ | ⟨g, cap, cur, rfl, _, hgb, _⟩
  · simp [Value.ownBlock] at hj
  · have : g = j := by simpa [Value.ownBlock] using hj
    subst this; rw [hgb] at ho; cases ho; rfl
theorem Sq.infoU : (Tryz.prog.info? 50).map (fun i => (i.zero, i.size, i.bytes)) = some (some (.int .u16 0), 1, 2) := by kernel_rfl
set_option maxRecDepth 100000 in
set_option maxHeartbeats 2000000 in
theorem Sq.apYield (F : Fence) (m : Nat) (w0 : World) (fn : FuncId) (hfn : F.fn fn) (sv : Value) (Bs l D : Nat) (hBl : Bs ≠ l) (hDl : D ≠ l) (hDB : D ≠ Bs) (h0B : w0.heap.size ≤ Bs) (h0l : w0.heap.size ≤ l)
    (N : Nat) (hN : N ≤ maxLen) (hNb : N * 2 ≤ 140737488355328) (ss : List Int) (x : Int) (W : World) (h : Sq.ApAt w0 fn sv Bs l D ss W) (hlen : ss.length < N) :
    YieldAt F m Tryz.prog l #[encU x] W fun e W' => e = .returned (.bool true) ∧ Sq.ApAt w0 fn sv Bs l D (ss ++ [x]) W' ∧ KeepsWalks W W' := by
  obtain ⟨i0, hi, hz0, hz1, hz2⟩ := info_parts Sq.infoU
  obtain ⟨v, hv, hrow, _⟩ := h.box
  refine ⟨fn, #[.slice none 0 0, sv, .pointer (some ⟨Bs, 0, none⟩), undef, .slice none 0 0, undef, sv, encU x, undef, undef, undef, undef, undef], Sq.apAssign, Sq.apBody, by simpa [Sq.apRec] using run_yield (P := Tryz.prog) (args := #[encU x]) h.L rfl, roundIn_of_wpIn hfn ?_⟩
  have hl : l < W.heap.size := (Array.getElem?_eq_some_iff.1 h.L).1
  have hbr := run_beginRound (P := Tryz.prog) h.L rfl
  obtain ⟨W2, hW2⟩ : ∃ W2, W.putObj l (.loop { Sq.apRec fn sv Bs D .ready none with state := .busy }) = W2 := ⟨_, rfl⟩
  rw [hW2] at hbr
  have hg2 : W.grownBy W2 (some l) := by rw [← hW2]; exact Zcp _ _ _
  have hk2 : KeepsWalks W W2 := by rw [← hW2]; exact KeepsWalks.putObj _ h.L rfl
  have hv2 : W2.heap[Bs]? = some (.cells #[v] 25 (0, 0)) := by rw [← hW2]; exact (World.putObj_heap_other hBl).trans hv
  have hK2 : W2.heap[D]? = some (.deferred (some [])) := by rw [← hW2]; exact (World.putObj_heap_other hDl).trans h.K
  have hL2 : W2.heap[l]? = some (.loop { Sq.apRec fn sv Bs D .ready none with state := .busy }) := by rw [← hW2]; exact World.putObj_heap_same hl
  have hrow2 : W2.ownsRow w0.heap.size 50 1 v ss.length (ss.map encU) := hrow.kept hg2 (Zep hrow h.L (fun cur e => by cases e))
  have hb2 : Below w0.heap.size w0 W2 := h.below.grown hg2 h.below.size (fun k e => by cases e; exact h0l)
  obtain ⟨hc2, hf2⟩ := cell_of_box hv2
  have hBlt : Bs < W2.heap.size := (Array.getElem?_eq_some_iff.1 hv2).1
  have hl2 : l < W2.heap.size := (Array.getElem?_eq_some_iff.1 hL2).1
  have hDlt : D < W2.heap.size := (Array.getElem?_eq_some_iff.1 hK2).1
  have ne_of : ∀ {j : Nat} {o : Obj}, W2.heap[j]? = some o → (∀ cur, o ≠ .cells cur 50 (0, 0)) → some j ≠ v.ownBlock := fun hj hno => by
    rcases Zep hrow2 hj hno with e | e
    · rw [e]; simp
    · exact fun e' => e e'.symm
  clear hW2
  unfold Sq.apAssign
  gi_wp2_with (rw [Oper.semAt_eq _ _ _ (fun c h => by cases h)]; go_simp; try go_bits)
  unfold Sq.apBody
  gi_wp2_with (first
    | (gi_at_builtin; refine wpListIn_append_own _ rfl _ _ 25 rfl w0.heap.size 50 i0 (.int .u16 0) 1 2 Tryz.underlying25 hi hz0 hz1 hz2 rfl (by decide) _ _ _ rfl (hrow2.alloc _) ⟨W2.heap.size, 0, none⟩ 1 1 [encU x] rfl rfl (cell_one_new _ _ _) (by simp [Value.oneCell', encU]) (by omega) (by omega) (by have := hb2.size; simp; omega) ?_; intro v' w3 hown' hg3 hnil3
       have hv3 : w3.heap[Bs]? = some (.cells #[v] 25 (0, 0)) := (hg3.block Bs (by simp; omega) (ne_of hv2 (fun cur e => by cases e))).trans ((Below.heap_alloc _ _ Bs hBlt).trans hv2)
       obtain ⟨hc3, hf3⟩ := cell_of_box hv3
       obtain ⟨g', cap', cur', rfl, hbase', hgb', hr1, hr2, hr3, hr4⟩ : ∃ g' cap' cur', v' = .slice (some ⟨g', 0, none⟩) (ss.length + 1) cap' ∧ w0.heap.size ≤ g' ∧ w3.heap[g']? = some (.cells cur' 50 (0, 0)) ∧ ss.length + 1 ≤ cap' ∧ cap' ≤ maxLen ∧ cur'.size = cap' * 1 ∧ cur'.toList.take ((ss.length + 1) * 1) = ss.map encU ++ [encU x] := by
         rcases hown'.2 with ⟨_, h0⟩ | h'
         · exact absurd h0 (by omega)
         · exact h'
       go_frame)
    | (rw [Oper.semAt_eq _ _ _ (fun c h => by cases h)]; go_simp; try go_bits))
  have hg3' : (W2.alloc (.cells #[encU x] 50)).grownBy w3 v.ownBlock := hg3
  have hL3 : w3.heap[l]? = some (.loop { Sq.apRec fn sv Bs D .ready none with state := .busy }) := (hg3'.block l (by simp; omega) (ne_of hL2 (fun cur e => by cases e))).trans ((Below.heap_alloc _ _ l hl2).trans hL2)
  have hK3 : w3.heap[D]? = some (.deferred (some [])) := (hg3'.block D (by simp; omega) (ne_of hK2 (fun cur e => by cases e))).trans ((Below.heap_alloc _ _ D hDlt).trans hK2)
  obtain ⟨w4, hw4⟩ : ∃ w4, w3.setCell ⟨Bs, 0, none⟩ (.slice (some ⟨g', 0, none⟩) (ss.length + 1) cap') = w4 := ⟨_, rfl⟩
  rw [hw4]
  have hg4 : w3.grownBy w4 (some Bs) := by rw [← hw4]; exact grownBy_setCell0 _ _ _
  have hv4 : w4.heap[Bs]? = some (.cells #[.slice (some ⟨g', 0, none⟩) (ss.length + 1) cap'] 25 (0, 0)) := by rw [← hw4]; exact heap_setCell_box _ hv3
  have hL4 : w4.heap[l]? = some (.loop { Sq.apRec fn sv Bs D .ready none with state := .busy }) := (hg4.block l (Array.getElem?_eq_some_iff.1 hL3).1 (fun e => hBl (by cases e; rfl))).trans hL3
  have hK4 : w4.heap[D]? = some (.deferred (some [])) := (hg4.block D (Array.getElem?_eq_some_iff.1 hK3).1 (fun e => hDB (by cases e; rfl))).trans hK3
  have hrow4 := hown'.kept hg4 (Zep hown' hv3 (fun cur e => by cases e))
  have hl4 : l < w4.heap.size := (Array.getElem?_eq_some_iff.1 hL4).1
  have hb3 : Below w0.heap.size w0 w3 := (hb2.alloc hb2.size _).grown hg3' (by have := hb2.size; simp; omega) (fun k e => (hrow2.lt k e).1)
  have hb4 : Below w0.heap.size w0 w4 := hb3.grown hg4 hb3.size (fun k e => by cases e; exact h0B)
  have hk4 : KeepsWalks W w4 := ((hk2.trans (KeepsWalks.alloc _ _)).trans (KeepsWalks.of_grownBy hg3' (ownsRow_not_walk (hrow2.alloc _)))).trans (by rw [← hw4]; exact KeepsWalks.setCell _ _ _)
  clear hw4
  refine ⟨_, _, run_endRound none hL4, rfl, ⟨⟨_, (World.putObj_heap_other hBl).trans hv4, ?_, by simp⟩, World.putObj_heap_same hl4, (World.putObj_heap_other hDl).trans hK4, hb4.grown (Zcp _ _ _) hb4.size (fun k e => by cases e; exact h0l)⟩, hk4.trans (KeepsWalks.putObj _ hL4 rfl)⟩
  have := hrow4.kept (Zcp w4 l (.loop { { Sq.apRec fn sv Bs D .ready none with state := .busy } with state := if (none : Option Code).isNone then .ready else .done, pending := none })) (Zep hrow4 hL4 (fun cur e => by cases e))
  simpa using this
set_option maxRecDepth 100000 in
set_option maxHeartbeats 2000000 in
theorem Sq.appendSeq_in (F : Fence) (n : Nat) (h11 : F.fn 221) (hro : F.round = none) (hn : 2 ≤ n) (g : Nat) (lb : Array Value) (hFg : F.fn g) (eg : ∀ args w, (callFunc g args).run Tryz.prog w = .ok (.enter g args) w)
    (S : List Int → Prop) (N : Nat) (hN : N ≤ maxLen) (hNb : N * 2 ≤ 140737488355328) (w : World) (hseq : SeqU F (n - 1) g lb S N w) :
    CallsIn F n Tryz.prog 221 #[.slice none 0 0, .func (.func g) #[] lb] w fun e w' => ∃ (v : Value) (ss : List Int), e = .returned v ∧ S ss ∧ w'.ownsRow w.heap.size 50 1 v ss.length (ss.map encU) ∧ (v = .slice none 0 0 ↔ ss = []) ∧ Below w.heap.size w w' := by
  have h1 : 1 ≤ n := by omega
  refine callsIn_of_wp_marks Tryz.func221 rfl h11 ?_ hro
  simp only [Tryz.ntmps221, List.size_toArray, List.length_cons, List.length_nil, Nat.reduceAdd, Nat.reduceSub, Array.replicate_succ, Array.replicate_zero, List.push_toArray, List.append_toArray, List.nil_append, List.cons_append]
  gi_wp2
  refine wpIn_rangeFunc ?_
  intro fn hfn
  rw [hro]
  obtain ⟨W0, hW0⟩ : ∃ W0, w.alloc (.cells #[.slice none 0 0] 25) = W0 := ⟨_, rfl⟩
  have hs0 : W0.heap.size = w.heap.size + 1 := by rw [← hW0]; simp
  have hv0 : W0.heap[w.heap.size]? = some (.cells #[.slice none 0 0] 25 (0, 0)) := by rw [← hW0]; exact World.alloc_heap_new w _
  have hb0 : Below w.heap.size w W0 := by rw [← hW0]; exact (Below.refl _ w).alloc (Nat.le_refl _) _
  rw [hW0]
  obtain ⟨W1, hW1⟩ : ∃ W1, (W0.alloc (.deferred (some []))).alloc (.loop (Sq.apRec fn (.func (.func g) #[] lb) w.heap.size W0.heap.size .ready none)) = W1 := ⟨_, rfl⟩
  have hold : ∀ k, k < W0.heap.size → W1.heap[k]? = W0.heap[k]? := fun k hk => by
    rw [← hW1]; exact (Below.heap_alloc _ _ k (by simp; omega)).trans (Below.heap_alloc _ _ k hk)
  have hb1 : Below w.heap.size w W1 := by rw [← hW1]; exact (hb0.alloc hb0.size _).alloc (by have := hb0.size; simp; omega) _
  have hs1 : W1.heap.size = W0.heap.size + 2 := by rw [← hW1]; simp
  have hM : Sq.ApAt w fn (.func (.func g) #[] lb) w.heap.size (W0.heap.size + 1) W0.heap.size [] W1 :=
    ⟨⟨_, (hold w.heap.size (by omega)).trans hv0, ⟨rfl, .inl ⟨rfl, rfl⟩⟩, by simp⟩,
     by rw [← hW1]; have := World.alloc_heap_new (W0.alloc (.deferred (some []))) (.loop (Sq.apRec fn (.func (.func g) #[] lb) w.heap.size W0.heap.size .ready none)); rwa [World.size_alloc] at this,
     by rw [← hW1]; exact (Below.heap_alloc _ _ _ (by simp)).trans (World.alloc_heap_new W0 _), hb1⟩
  refine ⟨W0.heap.size + 1, [{ target := .collected W0.heap.size, args := #[] }], W1, { target := .fn (.func g) lb, args := #[.func (.yield (W0.heap.size + 1)) #[] #[]] }, W1, g,
    #[.func (.yield (W0.heap.size + 1)) #[] #[]] ++ lb, W1, ?_, ?_, ?_, ?_, fun _ => h1, ?_⟩
  · rw [← hW1]; exact run_enterLoop_outer _ _ _ _ _
  · simp [resolve, go_sem]
  · intro f' hf'; simp [Target.leads] at hf'; subst hf'; exact hFg
  · simp [invoke, go_sem, eg]
  · refine (hseq (W0.heap.size + 1) (Sq.ApAt w fn (.func (.func g) #[] lb) w.heap.size (W0.heap.size + 1) W0.heap.size) W1 hb1 (fun _ _ h => h.below)
      (fun pre x W hJ hl => Sq.apYield F (n - 1 - 1) w fn hfn _ w.heap.size (W0.heap.size + 1) W0.heap.size (by omega) (by omega) (by omega) (Nat.le_refl _) (by omega) N hN hNb pre x W hJ hl) hM).mono ?_
    rintro e W2 ⟨⟨v0, rfl⟩, ss, hS, h2⟩
    obtain ⟨v, hv, hrow, hnil⟩ := h2.box
    have hend := run_endLoop (P := Tryz.prog) h2.L (by simp [Sq.apRec])
    obtain ⟨W3, hW3⟩ : ∃ W3, W2.putObj (W0.heap.size + 1) (.loop { Sq.apRec fn (.func (.func g) #[] lb) w.heap.size W0.heap.size .ready none with state := .exhausted }) = W3 := ⟨_, rfl⟩
    rw [hW3] at hend
    have hg3 : W2.grownBy W3 (some (W0.heap.size + 1)) := by rw [← hW3]; exact Zcp _ _ _
    have hv3 : W3.heap[w.heap.size]? = some (.cells #[v] 25 (0, 0)) := by rw [← hW3]; exact (World.putObj_heap_other (by omega)).trans hv
    have hK3 : W3.heap[W0.heap.size]? = some (.deferred (some [])) := by rw [← hW3]; exact (World.putObj_heap_other (by omega)).trans h2.K
    have hrow3 := hrow.kept hg3 (Zep hrow h2.L (fun cur e => by cases e))
    have hb3 : Below w.heap.size w W3 := h2.below.grown hg3 h2.below.size (fun k e => by cases e; omega)
    obtain ⟨hc3, hf3⟩ := cell_of_box hv3
    clear hW3
    refine ⟨none, W3, hend, ?_⟩
    gi_wp2
    rw [← hs0]
    refine ⟨by simp, .inl ⟨_, _, rfl, run_takeDeferred hK3, ?_⟩⟩
    exact ⟨_, results_tmp rfl _ _ _, v, ss, rfl, hS, hrow3.kept (Zcp _ _ _) (Zep hrow3 hK3 (fun cur e => by cases e)), hnil, hb3.grown (Zcp _ _ _) hb3.size (fun k e => by cases e; omega)⟩
end Go.Proofs.YtoelbgjpmpoolaaGreat
namespace Go.Proofs.YtoelbgjpmpoolaaGreat
open Go Dv Go.RowKit Go.Maps Go.Sort Go.Shelf
attribute [local go_sem] Oper.semAt_some
set_option maxRecDepth 100000 in
set_option maxHeartbeats 2000000 in
theorem Sq.values1_in (F : Fence) (n : Nat) (h7 : F.fn 205) (hro : F.round = none) (hn : 1 ≤ n) (Bs bo b off cap : Nat) (zs : List Int) (hreach : zs.length * 2 ≤ 140737488351232) (w : World) (hBs0 : Bs < w.heap.size) (hb : b < w.heap.size)
    (hBs : w.cell? ⟨Bs, bo, none⟩ = some (.slice (some ⟨b, off, none⟩) zs.length cap)) (hc : ∀ j, j < zs.length → w.cell? ⟨b, off + j, none⟩ = some (.int .u16 (zs[j]?.getD 0))) :
    SeqU F n 205 #[.pointer (some ⟨Bs, bo, none⟩)] (fun ss => ss = zs) zs.length w := by
  intro l J W hW hJB hY h0
  have hBsW := (hW.cell (p := ⟨Bs, bo, none⟩) hBs0).trans hBs
  have hcW : ∀ W', RowKit.Below w.heap.size w W' → ∀ k, k < zs.length → W'.cell? ⟨b, off + k, none⟩ = some (.int .u16 (zs[k]?.getD 0)) := fun W' h k hk => (h.cell (p := ⟨b, off + k, none⟩) hb).trans (hc k hk)
  refine callsIn_of_wp Tryz.func205 rfl h7 ?_ hro
  simp only [Tryz.ntmps205, List.size_toArray, List.length_cons, List.length_nil, Nat.reduceAdd, Nat.reduceSub, Array.replicate_succ, Array.replicate_zero, List.push_toArray, List.append_toArray, List.nil_append, List.cons_append]
  gi_wp2
  gi_loopw [7] (fun i wr => ∃ k : Nat, k ≤ zs.length ∧ i = .int .i64 k ∧ J (zs.take k) wr)
    (fun i _ => zs.length - (intOf i).toNat)
  case atStart => exact ⟨0, Nat.zero_le _, rfl, by simpa using h0⟩
  case round =>
    obtain ⟨k, hk, rfl, hJs⟩ := hrel
    by_cases hlt : k < zs.length
    · have hcx' := hcW wr (hJB _ _ hJs) k hlt
      have hJx : ∀ W', J (zs.take k ++ [zs[k]?.getD 0]) W' → J (zs.take (k + 1)) W' := fun W' h => by rw [List.take_add_one]; simpa [List.getElem?_eq_getElem hlt] using h
      generalize zs[k]?.getD 0 = x at hcx' hJx
      obtain ⟨fn, tmps, assign, body, hy, hR⟩ := hY _ x wr hJs (by rw [List.length_take]; omega)
      unfold encU at hy
      gi_wp2
      refine hR.mono ?_
      rintro e W3 ⟨rfl, hJ3, _⟩
      gi_wp2
      go_roundw
      case rel => exact ⟨k + 1, by omega, by simp, hJx _ hJ3⟩
      case measure => simp [intOf]; omega
    · obtain rfl : k = zs.length := by omega
      gi_wp2
      go_end0
      exact ⟨⟨_, rfl⟩, _, rfl, by simpa using hJs⟩
set_option maxRecDepth 100000 in
set_option maxHeartbeats 1000000 in
theorem Sq.values1_nil (F : Fence) (n : Nat) (h7 : F.fn 205) (hro : F.round = none) (Bs bo cap : Nat) (p : Option Addr) (w : World) (hBs0 : Bs < w.heap.size)
    (hBs : w.cell? ⟨Bs, bo, none⟩ = some (.slice p 0 cap)) :
    SeqU F n 205 #[.pointer (some ⟨Bs, bo, none⟩)] (fun ss => ss = []) 0 w := by
  intro l J W hW hJB hY h0
  have hBsW := (hW.cell (p := ⟨Bs, bo, none⟩) hBs0).trans hBs
  refine callsIn_of_wp Tryz.func205 rfl h7 ?_ hro
  simp only [Tryz.ntmps205, List.size_toArray, List.length_cons, List.length_nil, Nat.reduceAdd, Nat.reduceSub, Array.replicate_succ, Array.replicate_zero, List.push_toArray, List.append_toArray, List.nil_append, List.cons_append]
  gi_wp2
  gi_loopw [7] (fun i wr => i = .int .i64 0 ∧ J [] wr) (fun _ _ => 0)
  case atStart => exact ⟨rfl, h0⟩
  case round =>
    obtain ⟨rfl, hJs⟩ := hrel
    gi_wp2
    go_end0
    exact ⟨⟨_, rfl⟩, _, rfl, hJs⟩
end Go.Proofs.YtoelbgjpmpoolaaGreat
namespace Go.Proofs.YtoelbgjpmpoolaaGreat
open Go Dv Go.RowKit Go.Maps Go.Sort Go.Shelf
set_option linter.unusedSimpArgs false
theorem fr_below {w w' : World} (h : RowKit.Below w.heap.size w w') : Fr (fun _ => False) w w' :=
  ⟨h.os, h.tape, h.output, h.size, fun b hb _ => h.block b hb, fun a ha => by simp only [World.frozen?, h.block a.block ha]⟩
theorem c_AppendSeq (l : List Int) (hl : l.length ≤ maxL) : FO Tryz.prog 221 [.nsl, .fn 205 [.ip [u16s l]]] 1 l.length (fun i => [.int .u16 (l.getD i 0)]) := by
  refine ⟨⟨_, Tryz.func221, rfl, by decide +kernel⟩, fun X w vals hX hv => ?_⟩
  simp only [Vs, V, Vc, u16s] at hv
  obtain ⟨_, _, rfl, rfl, _, _, rfl, ⟨a, rfl, _, _, rfl, ⟨Bs, bo, rfl, hBs, hnX, ⟨v, hcell, _, p, c, rfl, hnc, _, hrow⟩, _⟩, rfl⟩, rfl⟩ := hv
  have hu : ∀ i, i < l.length → IntKind.u16.min ≤ l.getD i 0 ∧ l.getD i 0 ≤ IntKind.u16.max := fun i hi => by
    rcases hrow with h0 | ⟨b, o, _, _, _, hc⟩
    · omega
    · exact (hc i hi).2.1.choose_spec.2.2.2
  have key : ∃ N, SeqU Fence.wide 1 205 #[.pointer (some ⟨Bs, bo, none⟩)] (fun ss => ss = l) N w ∧ N ≤ maxLen ∧ N * 2 ≤ 140737488355328 := by
    rcases hrow with h0 | ⟨b, o, rfl, hb, _, hc⟩
    · have : l = [] := List.length_eq_zero_iff.1 h0
      subst this
      exact ⟨0, Sq.values1_nil Fence.wide 1 trivial rfl Bs bo c p w hBs hcell, by decide, by decide⟩
    · refine ⟨l.length, Sq.values1_in Fence.wide 1 trivial rfl (by omega) Bs bo b o c l (by simp only [maxL] at hl; omega) w hBs hb hcell (fun j hj => ?_), by simp only [maxL] at hl; simp only [maxLen]; omega, by simp only [maxL] at hl; omega⟩
      obtain ⟨_, ⟨v, h1, _, h2, _⟩, _⟩ := hc j hj
      rw [Nat.mul_one] at h1
      rw [h1, h2]; simp
  obtain ⟨N, hseq, hN, hN2⟩ := key
  refine (callsIn_wide.1 (Sq.appendSeq_in Fence.wide 2 trivial rfl (by omega) 205 #[.pointer (some ⟨Bs, bo, none⟩)] trivial (fun args w => run_callFunc ⟨_, Tryz.func205, rfl, by decide +kernel⟩ args w) (fun ss => ss = l) N hN hN2 w hseq)).mono ?_
  rintro e w' ⟨v, ss, rfl, rfl, hown, hnil, hb⟩
  refine ⟨v, rfl, fr_below hb, hl, ?_⟩
  rcases hown.2 with ⟨h1, h2⟩ | ⟨g, cap, cur, h1, h2, h3, h4, h5, h6, h7⟩
  · exact .inl ⟨h1, h2⟩
  · refine .inr ⟨_, g, cap, h1, h2, .inr rfl, cur, 50, h3, h4, h6, fun i hi => ⟨rfl, ?_⟩⟩
    simp only [Vc, V]
    have hg : cur[i]? = some (.int .u16 (ss.getD i 0)) := by
      have := congrArg (fun l => l[i]?) h7
      simp only [Nat.mul_one, List.getElem?_take, hi, if_true, List.getElem?_map] at this
      rw [← Array.getElem?_toList, this, List.getElem?_eq_getElem hi, List.getD_eq_getElem?_getD, List.getElem?_eq_getElem hi]; rfl
    refine ⟨⟨_, ?_, rfl, rfl, ?_⟩, trivial⟩
    · simp [World.cell?, h3, hg]
    · exact hu i hi
theorem Rel.bp {h : Zap} {id : Dv.Id} {imm : Bool} {sz k : Nat} {f : Nat → List AV} {g : List AV} (hh : h id = some (.row imm sz k f)) (hk : 0 < k) (hm : Rels h (f 0) g) : Rel h (.bp id 0) (.ip g) := fun X ι w v s hv => by
  simp only [V] at hv ⊢
  cases hl : ι id with
  | none => simp [hl] at hv
  | some l =>
    cases l with
    | ghost => simp [hl] at hv
    | nil => simp [hl] at hv
    | «at» b c =>
      simp only [hl] at hv
      obtain ⟨arr, TT, hc, h4, h5, h6⟩ := s.rel id _ _ hh hl
      refine ⟨b, 0, hv, s.lt hl, s.apart id b c hl, ?_⟩
      obtain ⟨h7, h8⟩ := h6 0 hk
      have h9 := Zcl imm _ _ _ h8
      rw [Nat.zero_mul] at h9
      obtain ⟨vs, hvl, hvc, hvV, hv1⟩ := Vc_read h9
      exact Vc_of_Vs (hm X ι w vs s hvV) hvc hv1
theorem c_Values (l : List Int) : FC Tryz.prog 182 [u16s l] (.fn 205 [.ip [u16s l]]) := by
  refine Zao tok Tryz.func182 rfl (by decide +kernel) (Nat.le_of_ble_eq_true rfl) ?_
  (repeat' first | refine Zac ?_ | (refine Zab tok (by rfl) ?_; conv => whnf) | (refine Zah ?_; conv => whnf))
  exact ⟨_, rfl, Rel.fn (Rels.cons (Rel.bp rfl Nat.zero_lt_one (Rels.imm rfl)) Rels.nil)⟩
theorem c_Collect (l : List Int) (hl : l.length ≤ maxL) : FO Tryz.prog 203 [.fn 205 [.ip [u16s l]]] 1 l.length (fun i => [.int .u16 (l.getD i 0)]) := by
  refine FO_intro tok Tryz.func203 rfl (by decide +kernel) (Nat.le_of_ble_eq_true rfl) ?_
  (repeat' first | refine Zac ?_ | (refine Zab tok (by rfl) ?_; conv => whnf))
  refine .inl ⟨_, _, _, uG (QC.fo (rd := []) (c_AppendSeq l hl) (Ress.imms rfl) (.inl rfl) rfl), ?_⟩
  conv => whnf
  (repeat' (refine Zah ?_; conv => whnf))
  exact ⟨_, rfl, .rs rfl (Nat.le_refl _) rfl (fun _ _ => rfl)⟩
theorem c_Sorted (l : List Int) (hl : l.length ≤ maxL) : FO Tryz.prog 181 [.fn 205 [.ip [u16s l]]] 1 l.length (fun i => [.int .u16 ((Zdq l).getD i 0)]) := by
  refine FO_intro tok Tryz.func181 rfl (by decide +kernel) (Nat.le_of_ble_eq_true rfl) ?_
  (repeat' first | refine Zac ?_ | (refine Zab tok (by rfl) ?_; conv => whnf))
  refine .inl ⟨_, _, _, uG (QC.fo (rd := []) (c_Collect l hl) (Ress.imms rfl) (.inl rfl) rfl), ?_⟩
  conv => whnf
  (repeat' first | refine Zac ?_ | (refine Zab tok (by rfl) ?_; conv => whnf))
  have hS := c_Sort l.length l.toArray (by simp)
  refine .inr ⟨_, _, _, uG (QH.of (dead := []) [(i0, .old (5, 0, 0), arow l.length l.toArray)] hS rfl (.old rfl (BLe.row rfl (fun x h2 => ?_)) .nil) (.cons (.eq rfl) .nil) [(i0, (5, 0, 0))] rfl (.cons (b' := .row true 1 l.length (fun i => [.int .u16 ((Zdq l).getD i 0)])) rfl (BLe.row rfl (fun x h2 => ?_)) .nil) rfl), ?_⟩
  · show [AV.int .u16 (l.getD x 0)] = [.int .u16 l.toArray[x]!]
    rw [bang_list]
  · show [AV.int .u16 (Go.Sort.sort ltInt l.toArray)[x]!] = [.int .u16 ((Zdq l).getD x 0)]
    rw [← bang_list]; simp [Zdq]
  conv => whnf
  (repeat' first | refine Zac ?_ | (refine Zab tok (by rfl) ?_; conv => whnf) | (refine Zah ?_; conv => whnf))
  exact ⟨_, rfl, .rs rfl (Nat.le_refl _) rfl (fun _ _ => rfl)⟩
end Go.Proofs.YtoelbgjpmpoolaaGreat
namespace Go.Proofs.YtoelbgjpmpoolaaGreat
open Go Dv
set_option maxRecDepth 10000
set_option linter.unusedSimpArgs false
theorem sorted_perm (l : List Int) : (Zdq l).Perm l := by rw [sorted_eq]; exact List.mergeSort_perm l _
theorem sorted_asc (l : List Int) : ∀ i j, i < j → j < (Zdq l).length → (Zdq l).getD i 0 ≤ (Zdq l).getD j 0 := by
  have h : (Zdq l).Pairwise (fun x y => decide (x ≤ y) = true) := by
    rw [sorted_eq]
    exact List.pairwise_mergeSort (fun a b c h1 h2 => by simp at *; omega) (fun a b => by simp; omega) l
  intro i j hij hj
  rw [List.pairwise_iff_getElem] at h
  have := h i j (by omega) hj hij
  rw [Zb5 _ (by omega), Zb5 _ hj]; simpa using this
theorem runs_sorted (l : List Int) : runs (Zdq l).toArray l.length = l.length ↔ l.Nodup := by
  have h := runs_all (sorted_asc l) l.length (by rw [sorted_len]; omega)
  rw [h, ← (sorted_perm l).nodup_iff]
  constructor
  · intro hh; exact nodup_getD (fun i hi k hk => hh i (by rw [sorted_len] at hi; exact hi) k hk)
  · intro hn x hx y hy he
    exact not_nodup (by rw [sorted_len]; exact hx) hy he hn
theorem c_lpad : LPad := by
  intro m f b
  refine Zao tok Tryz.func138 rfl (by decide +kernel) (Nat.le_of_ble_eq_true rfl) ?_
  refine Zaw 1 (fun hl => ?_)
  have hl0 : b.pad.catch_.length ≤ maxL := hl.2.2.1.1
  (repeat' first | refine Zac ?_ | (refine Zab tok (by rfl) ?_; conv => whnf) | (refine Zag ?_; conv => whnf) | refine Zae rfl (fun hb => ?_) (fun hb => ?_))
  · refine .inl ⟨_, _, _, uG (QC.sc (rd := []) (c_samePad b.pad ⟨0, [], false, false⟩) (.cons (.imm rfl) (.cons (.agg (.cons (.imm rfl) (.cons .nsl (.cons (.imm rfl) (.cons (.imm rfl) .nil))))) .nil)) rfl), ?_⟩
    conv => whnf
    (repeat' (refine Zah ?_; conv => whnf))
    refine ⟨_, rfl, Rel.bool ?_⟩
    rw [decide_eq_decide]
    obtain ⟨land, ⟨d, c, al, cl⟩, _, _⟩ := b
    simp at hb
    simp [PadP, hb, and_assoc]
  refine .inl ⟨_, _, _, uG (QC.fc (c_Values b.pad.catch_) rfl), ?_⟩
  conv => whnf
  skip
  refine .inl ⟨_, _, _, uG (QC.fo (rd := []) (c_Sorted b.pad.catch_ hl0) (Ress.imms rfl) (.inl rfl) rfl), ?_⟩
  conv => whnf
  (repeat' first | refine Zac ?_ | (refine Zat tok mix (by rfl) ?_; conv => whnf))
  refine .inl ⟨_, _, _, uG (QC.fc (c_place m f b.pad.dst) rfl), ?_⟩
  conv => whnf
  skip
  have hC := c_Compact b.pad.catch_.length (Zdq b.pad.catch_).toArray (by simp [sorted_len])
  refine .inl ⟨_, _, _, uG (QC.turn (i := (18, 0, 0)) (rd := [(18, 0, 0)]) (b := .row true 1 0 (fun _ => [])) (List.mem_singleton.2 rfl) (fun h' hh => QH.of (dead := []) [(i0, .old (18, 0, 0), arow b.pad.catch_.length (Zdq b.pad.catch_).toArray)] hC rfl (.old (hh _ (List.mem_singleton.2 rfl)) (BLe.row rfl (fun x h2 => ?_)) .nil) (.cons (.eq rfl) .nil) [(i0, (18, 0, 0))] rfl (.cons (b' := .row true 1 0 (fun _ => [])) rfl (BLe.rowW (Nat.zero_le _) (fun x h2 => absurd h2 (Nat.not_lt_zero x))) .nil) rfl)), ?_⟩
  · show [AV.int .u16 ((Zdq b.pad.catch_).getD x 0)] = [.int .u16 (Zdq b.pad.catch_).toArray[x]!]
    rw [bang_list]
  conv => whnf
  (repeat' (refine Zah ?_; conv => whnf))
  refine ⟨_, rfl, Rel.bool ?_⟩
  have h1 := runs_sorted b.pad.catch_
  generalize runs (Zdq b.pad.catch_).toArray b.pad.catch_.length = rr at h1 ⊢
  have hland : b.landing = true := by simpa using hb
  rw [Bool.eq_iff_iff]
  have e1 : ((rr : Int) = (b.pad.catch_.length : Int)) ↔ b.pad.catch_.Nodup := by rw [← h1]; omega
  have e2 : ((b.pad.catch_.length : Int) ≤ 8) ↔ b.pad.catch_.length ≤ 8 := by omega
  have e3 : (0 : Int) < (b.pad.catch_.length : Int) ↔ b.pad.catch_ ≠ [] := by
    rw [← List.length_pos_iff]; omega
  simp only [cond_eq_ite, Bool.if_false_right, Bool.if_true_left, Bool.and_eq_true, Bool.or_eq_true, decide_eq_true_eq, e1, e2, e3, PadP, hland, Bool.decide_eq_true]
  simp
  constructor
  · rintro ⟨⟨⟨h2, h3⟩, h4⟩, h5⟩
    refine ⟨h3, h4, h2, ?_⟩
    rcases h5 with (h5 | h5) | h5 <;> simp [h5]
  · rintro ⟨h3, h4, h2, h5⟩
    refine ⟨⟨⟨h2, h3⟩, h4⟩, ?_⟩
    rcases h5 with h5 | h5 | h5 <;> simp [h5]
end Go.Proofs.YtoelbgjpmpoolaaGreat
namespace Go.Proofs.YtoelbgjpmpoolaaGreat
open Go Dv
def leL (a b : List Bool) : Prop := ∀ i, a.getD i false = true → b.getD i false = true
theorem leL.refl (a : List Bool) : leL a a := fun _ h => h
theorem leL.trans {a b c : List Bool} (h : leL a b) (k : leL b c) : leL a c := fun i e => k i (h i e)
def cnt (a : List Bool) : Nat := a.count true
theorem cnt_le {a : List Bool} : cnt a ≤ a.length := List.count_le_length
theorem cnt_mono : ∀ {a b : List Bool}, a.length = b.length → leL a b → cnt a ≤ cnt b ∧ (cnt b ≤ cnt a → a = b)
  | [], [], _, _ => ⟨Nat.le_refl _, fun _ => rfl⟩
  | x :: a, y :: b, hl, h => by
      have hl' : a.length = b.length := by simpa using hl
      have h' : leL a b := fun i e => by have := h (i + 1) (by simpa using e); simpa using this
      have h0 : x = true → y = true := fun e => by have := h 0 (by simpa using e); simpa using this
      obtain ⟨h1, h2⟩ := cnt_mono hl' h'
      unfold cnt at h1 h2 ⊢
      cases x <;> cases y
      · refine ⟨by simpa using h1, fun k => ?_⟩
        rw [h2 (by simpa using k)]
      · refine ⟨by simp; omega, fun k => ?_⟩
        simp at k; omega
      · exact absurd (h0 rfl) (by simp)
      · refine ⟨by simpa using h1, fun k => ?_⟩
        rw [h2 (by simpa using k)]
theorem set_get {a : List Bool} {n i : Nat} (hn : n < a.length) : (a.set n true).getD i false = (decide (n = i) || a.getD i false) := by
  rw [getD_set]
  by_cases h : n = i
  · subst h; simp [hn]
  · simp [h]
theorem leL_set (a : List Bool) (n : Nat) : leL a (a.set n true) := fun i h => by
  by_cases hn : n < a.length
  · rw [set_get hn, h]; simp
  · rw [List.set_eq_of_length_le (by omega)]; exact h
section
variable (len : Nat) (D : Nat → List Bool → Bool)
def MonoD : Prop := ∀ n a b, leL a b → D n a = true → D n b = true
structure Closed (a : List Bool) : Prop where
  sz : a.length = len
  cl : ∀ n, n < len → D n a = true → a.getD n false = true
def Zf5 (a : List Bool) : Prop := ∀ c, Closed len D c → leL a c
def nxt (a : List Bool) : List Bool := (List.range len).map fun n => a.getD n false || D n a
def iterN : Nat → List Bool → List Bool
  | 0, a => a
  | k + 1, a => iterN k (nxt len D a)
def lfp : List Bool := iterN len D (len + 1) (List.replicate len false)
variable {len D}
theorem nxt_len (a : List Bool) : (nxt len D a).length = len := by simp [nxt]
theorem nxt_get (a : List Bool) {i : Nat} (hi : i < len) : (nxt len D a).getD i false = (a.getD i false || D i a) := by simp [nxt, List.getD_eq_getElem?_getD, hi]
theorem getD_ge {a : List Bool} {i : Nat} (h : a.length ≤ i) : a.getD i false = false := by simp [List.getD_eq_getElem?_getD, h]
theorem nxt_le {a : List Bool} (hl : a.length = len) : leL a (nxt len D a) := fun i h => by
  by_cases hi : i < len
  · rw [nxt_get a hi, h]; rfl
  · rw [getD_ge (by omega)] at h; cases h
theorem nxt_beneath (hD : MonoD D) {a : List Bool} (h : Zf5 len D a) : Zf5 len D (nxt len D a) := fun c hc i e => by
  by_cases hi : i < len
  · rw [nxt_get a hi, Bool.or_eq_true] at e
    rcases e with e | e
    · exact h c hc i e
    · exact hc.cl i hi (hD i a c (h c hc) e)
  · rw [getD_ge (by rw [nxt_len]; omega)] at e; cases e
theorem nxt_same {a : List Bool} (hl : a.length = len) (h : cnt (nxt len D a) ≤ cnt a) : Closed len D a := by
  have e := (cnt_mono (by rw [hl, nxt_len]) (nxt_le hl)).2 h
  refine ⟨hl, fun n hn hd => ?_⟩
  rw [e, nxt_get a hn, hd]; simp
theorem nxt_closed {a : List Bool} (h : Closed len D a) : nxt len D a = a := by
  refine Zdm false (by rw [nxt_len, h.sz]) (fun i hi => ?_)
  rw [nxt_len] at hi
  rw [nxt_get a hi]
  cases e : D i a with
  | false => simp
  | true => rw [h.cl i hi e]; rfl
theorem iterN_ok (hD : MonoD D) : ∀ (k : Nat) (a : List Bool), a.length = len → Zf5 len D a → (iterN len D k a).length = len ∧ Zf5 len D (iterN len D k a) ∧ (Closed len D (iterN len D k a) ∨ k + cnt a ≤ cnt (iterN len D k a))
  | 0, a, hl, hb => ⟨hl, hb, .inr (by simp [iterN])⟩
  | k + 1, a, hl, hb => by
      have ih := iterN_ok hD k (nxt len D a) (nxt_len a) (nxt_beneath hD hb)
      simp only [iterN]
      refine ⟨ih.1, ih.2.1, ?_⟩
      by_cases hc : cnt (nxt len D a) ≤ cnt a
      · have h0 := nxt_same hl hc
        left
        have : ∀ k, iterN len D k a = a := fun k => by
          induction k with
          | zero => rfl
          | succ k ih => rw [iterN, nxt_closed h0, ih]
        rw [nxt_closed h0, this k]; exact h0
      · rcases ih.2.2 with h | h
        · exact .inl h
        · right; omega
theorem lfp_ok (hD : MonoD D) : Closed len D (lfp len D) ∧ Zf5 len D (lfp len D) := by
  have h0 : Zf5 len D (List.replicate len false) := fun c _ i e => by
    exfalso; simp only [List.getD_eq_getElem?_getD, List.getElem?_replicate] at e; split at e <;> simp at e
  have := iterN_ok hD (len + 1) (List.replicate len false) (by simp) h0
  refine ⟨?_, this.2.1⟩
  rcases this.2.2 with h | h
  · exact h
  · have h2 : cnt (iterN len D (len + 1) (List.replicate len false)) ≤ (iterN len D (len + 1) (List.replicate len false)).length := cnt_le
    rw [this.1] at h2; omega
theorem lfp_uniq (hD : MonoD D) {a : List Bool} (h1 : Closed len D a) (h2 : Zf5 len D a) : a = lfp len D := by
  obtain ⟨h3, h4⟩ := lfp_ok hD (len := len)
  refine Zdm false (by rw [h1.sz, h3.sz]) (fun i _ => ?_)
  have e1 := h2 _ h3 i
  have e2 := h4 _ h1 i
  cases hx : a.getD i false <;> cases hy : (lfp len D).getD i false
  · rfl
  · rw [e2 hy] at hx; cases hx
  · rw [e1 hx] at hy; cases hy
  · rfl
end
end Go.Proofs.YtoelbgjpmpoolaaGreat
namespace Go.Proofs.YtoelbgjpmpoolaaGreat
open Go Dv
set_option maxRecDepth 10000
set_option linter.unusedSimpArgs false
def hasB (l : List Int) (n : Int) : Bool := l.any fun y => decide (n = y)
theorem all_at {α : Type} (d : α) {p : α → Bool} {l : List α} (h : l.all p = true) {i : Nat} (hi : i < l.length) : p (l.getD i d) = true := by
  rw [List.all_eq_true] at h; rw [Zb5 d hi]; exact h _ (List.getElem_mem hi)
theorem func_blocks {m : Zaj} {f : Func} (h : Ze8 m f = true) {i : Nat} (hi : i < f.blocks.length) : blkB m f (f.blocks.getD i default) = true := by
  unfold Ze8 at h; rw [Bool.and_eq_true] at h
  exact all_at default h.2 hi
end Go.Proofs.YtoelbgjpmpoolaaGreat
namespace Go.Proofs.YtoelbgjpmpoolaaGreat
open Go Dv
set_option maxRecDepth 10000
set_option linter.unusedSimpArgs false
theorem Zd4 {m : Zaj} (h : Zbg m = true) {n : Nat} (hn : n < m.funcs.length) : Ze8 m (m.funcs.getD n default) = true := by
  unfold Zbg at h; rw [Bool.and_eq_true] at h
  exact List.all_eq_true.1 h.2 _ (Zcz default hn)
theorem okF_fun {m : Zaj} {f : Za2} (hr : Zbg m = true) (h : OkF m f) : Ze8 m (Zdb m f) = true := Zd4 hr (by have := h.f0; have := h.f1; omega)
theorem okF_blk {m : Zaj} {f : Za2} (hr : Zbg m = true) (h : OkF m f) {q : Int} (q0 : 0 ≤ q) (q1 : q < (Zdb m f).blocks.length) : blkB m (Zdb m f) ((Zdb m f).blocks.getD q.toNat default) = true := func_blocks (okF_fun hr h) (by omega)
theorem Zeu {m : Zaj} {f : Za2} (hr : Zbg m = true) (h : OkF m f) : (Za0 m f).ins.length ≤ 64 ∧ EndP m (Zdb m f) (Za0 m f).fin := by
  have := okF_blk hr h h.b0 h.b1
  unfold blkB at this
  rw [Bool.and_eq_true, decide_eq_true_eq] at this
  exact ⟨this.1.1, this.1.2.2⟩
theorem okF_pad {m : Zaj} {f : Za2} (hr : Zbg m = true) (h : OkF m f) (hk : (Za0 m f).fin.kind = 4) :
    (0 ≤ (Za0 m f).fin.pad ∧ (Za0 m f).fin.pad < (Zdb m f).blocks.length) ∧ ((Zdb m f).blocks.getD (Za0 m f).fin.pad.toNat default).landing = true ∧
    0 ≤ ((Zdb m f).blocks.getD (Za0 m f).fin.pad.toNat default).pad.dst ∧ ((Zdb m f).blocks.getD (Za0 m f).fin.pad.toNat default).pad.dst < f.regs.length := by
  have he := (Zeu hr h).2
  have h4 : inn (Za0 m f).fin.pad (Zdb m f).blocks.length = true ∧ ((Zdb m f).blocks.getD (Za0 m f).fin.pad.toNat default).landing = true := by
    rcases he with h | h | h | h | h
    · omega
    · omega
    · omega
    · exact ⟨h.2.2.2.2.2.2.1, h.2.2.2.2.2.2.2⟩
    · omega
  obtain ⟨h5, h6⟩ := h4
  rw [Zad] at h5
  have hp := okF_blk hr h h5.1 h5.2
  unfold blkB at hp
  rw [Bool.and_eq_true, decide_eq_true_eq] at hp
  have hP := hp.1.2.1
  refine ⟨h5, h6, ?_⟩
  unfold PadP at hP
  rcases hP with h7 | h7
  · rw [h6] at h7; exact absurd h7.1 (by simp)
  · have := h7.2.2.2.1
    rw [Zad] at this
    rw [h.regs]; exact this
def Zfb (p : Nat → Bool) : Nat → Nat
  | 0 => 0
  | n + 1 => if p (n + 1) = true then n + 1 else Zfb p n
theorem downK_spec {p : Nat → Bool} : ∀ {n : Nat}, (∃ i, i ≤ n ∧ p i = true) → p (Zfb p n) = true ∧ Zfb p n ≤ n
  | 0, ⟨i, hi, h⟩ => by have : i = 0 := by omega
                        subst this; exact ⟨h, Nat.le_refl _⟩
  | n + 1, ⟨i, hi, h⟩ => by
      unfold Zfb
      split
      · rename_i h2; exact ⟨h2, Nat.le_refl _⟩
      · rename_i h2
        have := downK_spec (p := p) (n := n) ⟨i, by
          rcases Nat.lt_or_ge n i with h3 | h3
          · have : i = n + 1 := by omega
            subst this; exact absurd h h2
          · exact h3, h⟩
        exact ⟨this.1, by omega⟩
theorem downK_no {p : Nat → Bool} {n : Nat} (h : ∃ i, i ≤ n ∧ p i = true) (hn : ¬ p n = true) : 0 < n ∧ Zfb p n = Zfb p (n - 1) := by
  cases n with
  | zero => obtain ⟨i, hi, h⟩ := h; have : i = 0 := by omega
            subst this; exact absurd h hn
  | succ n => refine ⟨by omega, ?_⟩; show (if p (n + 1) = true then n + 1 else Zfb p n) = _; rw [if_neg hn]; rfl
theorem downK_yes {p : Nat → Bool} {n : Nat} (hn : p n = true) : Zfb p n = n := by
  cases n with
  | zero => rfl
  | succ n => show (if p (n + 1) = true then n + 1 else _) = _; rw [if_pos hn]
def Zbt (m : Zaj) (l : List Za2) (w : Int) (c : Bool) (i : Nat) : Bool := Zeg m (l.getD i default) w c
def Zdj (s : Mach) (k : Nat) : Mach := { s with stack := s.stack.take k }
def Zbu (m : Zaj) (s : Mach) (w : Int) : Mach :=
  let l := (popM s).stack
  if (List.range l.length).any (Zbt m l w false) = true then
    let k := Zfb (Zbt m l w true) (l.length - 1)
    Zbo (Zdj (popM s) (k + 1)) (landF m (l.getD k default) (Za0 m (l.getD k default)).fin.pad w)
  else endM (popM s) 2 w
theorem catch_more {m : Zaj} {f : Za2} {w : Int} (h : Zeg m f w false = true) : Zeg m f w true = true := by
  unfold Zeg at h ⊢
  simp only [Bool.false_and, Bool.or_false, Bool.and_eq_true, Bool.true_and, Bool.or_eq_true] at h ⊢
  exact ⟨h.1, h.2.1, .inl h.2.2⟩
theorem wk_take {l : List Za2} {n k : Nat} (hn : n = k) (hk : k ≤ l.length) : Wk (.sl 5 n (fun i => (fun i => Zar (l.getD i default)) (Int.toNat 0 + i))) (frs (l.take k)) := by
  subst hn
  refine .sl (by simp; omega) (fun i hi => ?_)
  show Zar (l.getD (Int.toNat 0 + i) default) = Zar ((l.take n).getD i default)
  rw [show Int.toNat 0 + i = i from Nat.zero_add i, Zb3 _ hi]
set_option maxHeartbeats 4000000 in
theorem c_thrown (m : Zaj) (s : Mach) (w : Int) (hr : Zbg m = true) (h : 0 < s.stack.length) (hF : ∀ i, i < s.stack.length → OkF m (s.stack.getD i default)) :
    FC Tryz.prog 109 [.agg (Zav m), .agg (Zas s), .int .u16 w] (.agg (Zas (Zbu m s w))) := by
  refine Zao tok Tryz.func109 rfl (by decide +kernel) (Nat.le_of_ble_eq_true rfl) ?_
  refine Zaw 1 (fun hl => ?_)
  have hl0 : s.stack.length ≤ maxL := hl.1.1
  have hmx : maxL = 4294967296 := rfl
  clear hl
  have hq : (IntKind.i64.wrap ((s.stack.length : Int) - 1)).toNat = s.stack.length - 1 := by rw [Zal (by omega) (by omega)]; omega
  have hpl := Zct (s := s)
  have hF2 : ∀ i, i < (popM s).stack.length → OkF m ((popM s).stack.getD i default) := fun i hi => by
    rw [show (popM s).stack.getD i default = s.stack.getD i default from Zb3 _ (by omega)]
    exact hF i (by omega)
  have hC : ∀ i, i < (popM s).stack.length → ∀ f, f = (popM s).stack.getD i default → ∀ c, FC Tryz.prog 152 [.agg (Zav m), .agg (Zar f), .int .u16 w, .bool c] (.bool (Zbt m (popM s).stack w c i)) := fun i hi f e c => by
    rw [e]; exact c_catcher m _ w c (hF2 i hi) (fun hk => (okF_pad hr (hF2 i hi) hk).1)
  ((repeat' ((fail_if_success (show AWp _ _ _ (Code.region 2 _ _) _ _)); first | refine Zac ?_ | (refine Zab tok (by rfl) ?_; conv => whnf) | (refine @And.intro (Zaa _ _ _ _) _ ?_ ?_; rotate_left; (conv => whnf); rotate_right))); all_goals (try ((guard_target = Zaa _ _ _ _); refine Zaf ?_; (all_goals (try simp only [Zaa, kzz, kz11, kz12, maxL, Zad] at *)); (all_goals (try (simp (disch := omega) only [Zal]))); all_goals omega)))
  (repeat' ((fail_if_success (show AWp _ _ _ (Code.region 3 _ _) _ _)); first | (refine Zab tok (by rfl) ?_; conv => whnf) | refine Zai ?_))
  refine Za1 (fun i : Nat => mkS [(2, .int .u16 w), (3, .bp (3, 0, 0) 0), (4, .bp (4, 0, 0) 0), (6, .bp (6, 0, 0) 0), (7, iv i)] [((3, 0, 0), Zam (Zav m)), ((4, 0, 0), Zam (Zas (popM s))), ((6, 0, 0), Zam Zbz)]) (fun i => i ≤ (popM s).stack.length ∧ ∀ j, j < i → Zbt m (popM s).stack w false j = false) (fun i => (popM s).stack.length - i) 0 ⟨Nat.zero_le _, fun j h => absurd h (Nat.not_lt_zero j)⟩ ?_ ?_
  · refine Weak.list [((3, 0, 0), .old (3, 0, 0), Zam (Zav m)), ((4, 0, 0), .old (4, 0, 0), Zam (Zas (popM s))), ((6, 0, 0), .old (6, 0, 0), Zam Zbz)] rfl (by rfl) ?_ (.old rfl (BLe.refl _) (.old rfl (BLe.rowW (Nat.le_refl _) (ltS (.cons (wk_pop (by rw [hq]; simp)) (Wks.refl _)) lt0)) (.old rfl (BLe.refl _) .nil)))
    ((repeat' first | exact TLes.nil | refine TLes.cons (TLe.eq rfl) ?_); skip)
  rintro i ⟨hi, hno⟩
  (repeat' ((fail_if_success (show AWp _ _ _ (Code.region 5 _ _) _ _)); first | refine Zac ?_ | (refine Zab tok (by rfl) ?_; conv => whnf) | refine Zai ?_ | (refine Zag ?_; conv => whnf) | (refine Za3 ?_; conv => whnf) | refine Zae rfl (fun hb => ?_) (fun hb => ?_)))
  · have hlt : i < (popM s).stack.length := by simp only [decide_eq_true_eq] at hb; omega
    clear hb
    have hiz : (i : Int).toNat = i := by simp
    ((repeat' first | (refine Zat tok mix (by rfl) ?_; conv => whnf) | (refine @And.intro (Zaa _ _ _ _) _ ?_ ?_; rotate_left; (conv => whnf); rotate_right)); all_goals (try ((guard_target = Zaa _ _ _ _); refine Zaf ?_; (all_goals (try simp only [Zaa, kzz, kz11, kz12, maxL, Zad] at *)); all_goals omega)))
    refine .inl ⟨_, _, _, uG (QC.fc (hC i hlt ((popM s).stack.getD (i : Int).toNat default) (by rw [hiz]) false) rfl), ?_⟩
    conv => whnf
    (repeat' ((fail_if_success (show AWp _ _ _ (Code.region 6 _ _) _ _)); first | refine Zac ?_ | (refine Zab tok (by rfl) ?_; conv => whnf) | (refine Zag ?_; conv => whnf) | refine Zae rfl (fun hb => ?_) (fun hb => ?_)))
    · have hex : ∃ j, j ≤ (popM s).stack.length - 1 ∧ Zbt m (popM s).stack w true j = true := ⟨i, by omega, catch_more hb⟩
      have hany : (List.range (popM s).stack.length).any (Zbt m (popM s).stack w false) = true := List.any_eq_true.2 ⟨i, List.mem_range.2 hlt, hb⟩
      clear hb
      have hgen : ∃ K, Zfb (Zbt m (popM s).stack w true) ((popM s).stack.length - 1) = K := ⟨_, rfl⟩
      obtain ⟨K, hK⟩ := hgen
      obtain ⟨hK1, hK2⟩ := downK_spec hex
      rw [hK] at hK1 hK2
      have hT : Zbu m s w = Zbo (Zdj (popM s) (K + 1)) (landF m ((popM s).stack.getD K default) (Za0 m ((popM s).stack.getD K default)).fin.pad w) := by
        unfold Zbu; rw [if_pos hany, hK]
      rw [hT]
      have hKl : K < (popM s).stack.length := by omega
      have hkOk := hF2 K hKl
      have hk4 : (Za0 m ((popM s).stack.getD K default)).fin.kind = 4 := by
        unfold Zbt Zeg at hK1
        simp only [Bool.and_eq_true, decide_eq_true_eq] at hK1
        exact hK1.2.1
      obtain ⟨⟨g1, g2⟩, g3, g4, g5⟩ := okF_pad hr hkOk hk4
      have hL := c_Land m ((popM s).stack.getD K default) (Za0 m ((popM s).stack.getD K default)).fin.pad w hkOk.f0 hkOk.f1 g1 g2 g3 ⟨g4, g5⟩
      have htl : (Zdj (popM s) (K + 1)).stack.length = K + 1 := by simp [Zdj]; omega
      have hwi := fun f => Ze1 (Zdj (popM s) (K + 1)) f (by omega)
      have htk : (Zdj (popM s) (K + 1)).stack.getD K default = (popM s).stack.getD K default := Zb3 _ (by omega)
      (repeat' ((fail_if_success (show AWp _ _ _ (Code.region 7 _ _) _ _)); first | refine Zac ?_ | (refine Zab tok (by rfl) ?_; conv => whnf) | refine Zai ?_))
      refine Za1 (fun n : Nat => mkS [(2, .int .u16 w), (3, .bp (3, 0, 0) 0), (4, .bp (4, 0, 0) 0), (6, .bp (6, 0, 0) 0), (7, iv i), (8, iv n)] [((3, 0, 0), Zam (Zav m)), ((4, 0, 0), Zam (Zas (popM s))), ((6, 0, 0), Zam Zbz)]) (fun n => n ≤ (popM s).stack.length - 1 ∧ Zfb (Zbt m (popM s).stack w true) n = K ∧ ∃ j, j ≤ n ∧ Zbt m (popM s).stack w true j = true) (fun n => n) ((popM s).stack.length - 1) ⟨Nat.le_refl _, hK, hex⟩ ?_ ?_
      · refine Weak.list [((3, 0, 0), .old (3, 0, 0), Zam (Zav m)), ((4, 0, 0), .old (4, 0, 0), Zam (Zas (popM s))), ((6, 0, 0), .old (6, 0, 0), Zam Zbz)] rfl (by rfl) ?_ (.old rfl (BLe.refl _) (.old rfl (BLe.refl _) (.old rfl (BLe.refl _) .nil)))
        ((repeat' first | exact TLes.nil | refine TLes.cons (TLe.eq rfl) ?_ | refine TLes.cons (TLe.int ?_) ?_); (all_goals first | ((try (simp only [Zaa, kzz, kz11, kz12, maxL, Zad] at *)); (simp (disch := omega) only [Zal]; omega)) | skip))
      rintro n ⟨hn1, hn2, hn3⟩
      have hnz : (n : Int).toNat = n := by simp
      ((repeat' first | refine Zac ?_ | (refine Zat tok mix (by rfl) ?_; conv => whnf) | (refine @And.intro (Zaa _ _ _ _) _ ?_ ?_; rotate_left; (conv => whnf); rotate_right)); all_goals (try ((guard_target = Zaa _ _ _ _); refine Zaf ?_; (all_goals (try simp only [Zaa, kzz, kz11, kz12, maxL, Zad] at *)); all_goals omega)))
      refine .inl ⟨_, _, _, uG (QC.fc (hC n (by omega) ((popM s).stack.getD (n : Int).toNat default) (by rw [hnz]) true) rfl), ?_⟩
      conv => whnf
      (repeat' ((fail_if_success (show AWp _ _ _ (Code.region 8 _ _) _ _)); (fail_if_success (show AWp _ _ _ (Code.region 9 _ _) _ _)); first | refine Zac ?_ | refine Zai ?_ | (refine Zag ?_; conv => whnf) | (refine Za3 ?_; conv => whnf) | refine Zae rfl (fun hb => ?_) (fun hb => ?_)))
      · have hnp : ¬ Zbt m (popM s).stack w true n = true := by simpa using hb
        clear hb
        obtain ⟨e1, e2⟩ := downK_no hn3 hnp
        (repeat' (refine Zab tok (by rfl) ?_; conv => whnf))
        refine ⟨n - 1, ⟨by omega, by rw [← e2]; exact hn2, ?_⟩, by omega, ?_⟩
        · obtain ⟨j, j1, j2⟩ := hn3
          refine ⟨j, ?_, j2⟩
          rcases Nat.lt_or_ge j n with h3 | h3
          · omega
          · have : j = n := by omega
            subst this; exact absurd j2 hnp
        · refine Weak.list [((3, 0, 0), .old (3, 0, 0), Zam (Zav m)), ((4, 0, 0), .old (4, 0, 0), Zam (Zas (popM s))), ((6, 0, 0), .old (6, 0, 0), Zam Zbz)] rfl (by rfl) ?_ (.old rfl (BLe.refl _) (.old rfl (BLe.refl _) (.old rfl (BLe.refl _) .nil)))
          ((repeat' first | exact TLes.nil | refine TLes.cons (TLe.eq rfl) ?_ | refine TLes.cons (TLe.int ?_) ?_); (all_goals first | ((try (simp only [Zaa, kzz, kz11, kz12, maxL, Zad] at *)); (simp (disch := omega) only [Zal]; omega)) | skip))
      · have hnp : Zbt m (popM s).stack w true n = true := by simpa using hb
        clear hb
        have hnK : n = K := by rw [← hn2, downK_yes hnp]
        subst hnK
        have hw1 : IntKind.i64.wrap ((n : Int) + 1) = (n : Int) + 1 := Zal (by omega) (by omega)
        ((repeat' ((fail_if_success (show AWp _ _ _ (Code.region 10 _ _) _ _)); first | refine Zac ?_ | (refine Zab tok (by rfl) ?_; conv => whnf) | (refine @And.intro (Zaa _ _ _ _) _ ?_ ?_; rotate_left; (conv => whnf); rotate_right))); all_goals (try ((guard_target = Zaa _ _ _ _); refine Zaf ?_; (all_goals (try simp only [Zaa, kzz, kz11, kz12, maxL, Zad] at *)); (all_goals (try (simp (disch := omega) only [Zal]))); all_goals omega)))
        refine Zau (Weak.list (tl := [(2, .int .u16 w), (3, .bp (3, 0, 0) 0), (4, .bp (4, 0, 0) 0), (6, .bp (6, 0, 0) 0), (7, iv i), (8, iv n)]) [((3, 0, 0), .old (3, 0, 0), Zam (Zav m)), ((4, 0, 0), .old (4, 0, 0), Zam (Zas (Zdj (popM s) (n + 1)))), ((6, 0, 0), .old (6, 0, 0), Zam Zbz)] rfl (by rfl) ?_ (.old rfl (BLe.refl _) (.old rfl (BLe.rowW (Nat.le_refl _) (ltS (.cons (wk_take (by rw [hw1]; simp) (by omega)) (Wks.refl _)) lt0)) (.old rfl (BLe.refl _) .nil)))) ?_
        · ((repeat' first | exact TLes.nil | refine TLes.cons (TLe.eq rfl) ?_); skip)
        ((repeat' ((fail_if_success (show AWp _ _ _ (Code.region 11 _ _) _ _)); first | refine Zac ?_ | (refine Zab tok (by rfl) ?_; conv => whnf) | (refine @And.intro (Zaa _ _ _ _) _ ?_ ?_; rotate_left; (conv => whnf); rotate_right))); all_goals (try ((guard_target = Zaa _ _ _ _); refine Zaf ?_; (all_goals (try simp only [Zaa, kzz, kz11, kz12, maxL, Zad] at *)); all_goals omega)))
        have hgen : ∃ t, (popM s).stack.getD n default = t := ⟨_, rfl⟩
        obtain ⟨t, hte⟩ := hgen
        rw [hte] at htk hL hkOk ⊢
        refine Zau (Weak.list (tl := [(2, .int .u16 w), (3, .bp (3, 0, 0) 0), (4, .bp (4, 0, 0) 0), (6, .bp (6, 0, 0) 0), (7, iv i), (8, iv n), (9, .bp (9, 0, 0) 0)]) [((3, 0, 0), .old (3, 0, 0), Zam (Zav m)), ((4, 0, 0), .old (4, 0, 0), Zam (Zas (Zdj (popM s) (n + 1)))), ((6, 0, 0), .old (6, 0, 0), Zam Zbz), ((9, 0, 0), .old (9, 0, 0), .row true 5 1 (fun _ => Zar t))] rfl (by rfl) ?_ (.old rfl (BLe.refl _) (.old rfl (BLe.refl _) (.old rfl (BLe.refl _) (.old rfl (BLe.rowW (Nat.le_refl _) (ltS (Wks.of (by rw [← htk, hnz]; rfl)) lt0)) .nil))))) ?_
        · ((repeat' first | exact TLes.nil | refine TLes.cons (TLe.eq rfl) ?_); skip)
        have f0 := hkOk.f0
        have f1 := hkOk.f1
        have b0 := hkOk.b0
        have b1 : t.block < (m.funcs.getD t.f.toNat default).blocks.length := hkOk.b1
        ((repeat' first | (refine Zat tok mix (by rfl) ?_; conv => whnf) | (refine @And.intro (Zaa _ _ _ _) _ ?_ ?_; rotate_left; (conv => whnf); rotate_right)); all_goals (try ((guard_target = Zaa _ _ _ _); refine Zaf ?_; (all_goals (try simp only [Zaa, kzz, kz11, kz12, maxL, Zad] at *)); all_goals omega)))
        refine .inl ⟨_, _, _, uG (QC.fc hL rfl), ?_⟩
        conv => whnf
        (repeat' first | refine Zac ?_ | (refine Zab tok (by rfl) ?_; conv => whnf))
        refine .inl ⟨_, _, _, uG (QC.fc (hwi (landF m t (Za0 m t).fin.pad w)) rfl), ?_⟩
        conv => whnf
        (repeat' (refine Zah ?_; conv => whnf))
        exact ⟨_, rfl, Rel.agg (Rels.imm rfl)⟩
    · refine ⟨i + 1, ⟨hlt, fun j hj => ?_⟩, by omega, ?_⟩
      · by_cases e : j = i
        · rw [e]; exact hb
        · exact hno j (by omega)
      refine Weak.list [((3, 0, 0), .old (3, 0, 0), Zam (Zav m)), ((4, 0, 0), .old (4, 0, 0), Zam (Zas (popM s))), ((6, 0, 0), .old (6, 0, 0), Zam Zbz)] rfl (by rfl) ?_ (.old rfl (BLe.refl _) (.old rfl (BLe.refl _) (.old rfl (BLe.refl _) .nil)))
      ((repeat' first | exact TLes.nil | refine TLes.cons (TLe.eq rfl) ?_ | refine TLes.cons (TLe.int ?_) ?_); (all_goals first | ((try (simp only [Zaa, kzz, kz11, kz12, maxL, Zad] at *)); exact Zal (by omega) (by omega)) | skip))
  · have hil : i = (popM s).stack.length := by simp only [decide_eq_false_iff_not] at hb; omega
    clear hb
    subst hil
    have hT : Zbu m s w = endM (popM s) 2 w := by
      unfold Zbu
      rw [if_neg (fun h => ?_)]
      rw [List.any_eq_true] at h
      obtain ⟨j, hj, h2⟩ := h
      rw [List.mem_range] at hj
      rw [hno j hj] at h2; cases h2
    rw [hT]
    skip
    refine .inl ⟨_, _, _, uG (QC.fc (c_ended (popM s) 2 w) rfl), ?_⟩
    conv => whnf
    (repeat' (refine Zah ?_; conv => whnf))
    exact ⟨_, rfl, Rel.agg (Rels.imm rfl)⟩
end Go.Proofs.YtoelbgjpmpoolaaGreat
namespace Go.Proofs.YtoelbgjpmpoolaaGreat
open Go Dv
set_option maxRecDepth 10000
set_option linter.unusedSimpArgs false
theorem c_fFun (m : Zaj) (n : Int) (hr : Zbg m = true) (h0 : 0 ≤ n) (h1 : n < m.funcs.length) : FC Tryz.prog 118 [.agg (Zav m), iv n] (.tup [.agg (Zbm (m.funcs.getD n.toNat default)), .bool true]) := by
  refine Zao tok Tryz.func118 rfl (by decide +kernel) (Nat.le_of_ble_eq_true rfl) ?_
  have hR := c_lRight c_lpad m
  rw [hr] at hR
  (repeat' first | refine Zac ?_ | (refine Zab tok (by rfl) ?_; conv => whnf))
  refine .inl ⟨_, _, _, uG (QC.fc hR rfl), ?_⟩
  conv => whnf
  ((repeat' first | refine Zac ?_ | (refine Zab tok (by rfl) ?_; conv => whnf) | (refine Zag ?_; conv => whnf) | (refine Zah ?_; conv => whnf) | refine Zae rfl (fun hb => ?_) (fun hb => ?_) | (refine @And.intro (Zaa _ _ _ _) _ ?_ ?_; rotate_left; (conv => whnf); rotate_right)); all_goals (try ((guard_target = Zaa _ _ _ _); refine Zaf ?_; (all_goals (try simp only [Zaa, kzz, kz11, kz12, maxL, Zad] at *)); all_goals omega)))
  · exfalso
    rw [decide_eq_false (show ¬ n < 0 by omega), decide_eq_false (show ¬ (m.funcs.length : Int) ≤ n by omega)] at hb
    cases hb
  · exact ⟨_, rfl, Rel.tup (.cons (Rel.agg (Rels.imm rfl)) (.cons (Rel.imm rfl) .nil))⟩
theorem c_fAt (f : Za2) (n : Int) : FC Tryz.prog 195 [.agg (Zar f), iv n] (.tup [.int .u16 (if thereB f n = true then f.regs.getD n.toNat 0 else 0), .bool (thereB f n)]) := by
  refine Zao tok Tryz.func195 rfl (by decide +kernel) (Nat.le_of_ble_eq_true rfl) ?_
  ((repeat' first | refine Zac ?_ | (refine Zab tok (by rfl) ?_; conv => whnf) | (refine Zag ?_; conv => whnf) | (refine Zah ?_; conv => whnf) | refine Zae rfl (fun hb => ?_) (fun hb => ?_) | (refine @And.intro (Zaa _ _ _ _) _ ?_ ?_; rotate_left; (conv => whnf); rotate_right)); all_goals (try ((guard_target = Zaa _ _ _ _); refine Zaf ?_; (all_goals (try simp only [Zaa, kzz, kz11, kz12, maxL, Zad] at *)); all_goals omega)))
  · have hn : thereB f n = false := by
      unfold thereB; rw [decide_eq_false_iff_not]; intro h
      rw [decide_eq_false (show ¬ n < 0 by omega), decide_eq_false (show ¬ (f.regs.length : Int) ≤ n by omega)] at hb
      cases hb
    rw [hn]
    exact ⟨_, rfl, Rel.tup (.cons (Rel.imm rfl) (.cons (Rel.imm rfl) .nil))⟩
  · have hn : thereB f n = true := by
      unfold thereB; rw [decide_eq_true_eq]
      by_cases e1 : n < 0
      · rw [decide_eq_true e1] at hb; cases hb
      · rw [decide_eq_false e1] at hb
        by_cases e2 : (f.regs.length : Int) ≤ n
        · rw [decide_eq_true e2] at hb; cases hb
        · omega
    rw [hn]
    exact ⟨_, rfl, Rel.tup (.cons (Rel.imm rfl) (.cons (Rel.imm rfl) .nil))⟩
theorem c_fRight (m : Zaj) (f : Za2) (hr : Zbg m = true) (h : OkF m f) : FC Tryz.prog 122 [.agg (Zav m), .agg (Zar f)] (.bool true) := by
  refine Zao tok Tryz.func122 rfl (by decide +kernel) (Nat.le_of_ble_eq_true rfl) ?_
  have h1 := c_fFun m f.f hr h.f0 h.f1
  have f0 := h.f0
  have f1 := h.f1
  have b0 := h.b0
  have b1 : f.block < (m.funcs.getD f.f.toNat default).blocks.length := h.b1
  have a0 := h.a0
  have a1 : f.at_ ≤ ((m.funcs.getD f.f.toNat default).blocks.getD f.block.toNat default).ins.length := h.a1
  have hg : (f.regs.length : Int) = (m.funcs.getD f.f.toNat default).regs := h.regs
  generalize m.funcs.getD f.f.toNat default = F at *
  (repeat' first | refine Zac ?_ | (refine Zab tok (by rfl) ?_; conv => whnf))
  refine .inl ⟨_, _, _, uG (QC.fc h1 rfl), ?_⟩
  conv => whnf
  ((repeat' first | refine Zac ?_ | (refine Zab tok (by rfl) ?_; conv => whnf) | (refine Zat tok mix (by rfl) ?_; conv => whnf) | (refine Zag ?_; conv => whnf) | (refine Zah ?_; conv => whnf) | refine Zae rfl (fun hb => ?_) (fun hb => ?_) | (refine @And.intro (Zaa _ _ _ _) _ ?_ ?_; rotate_left; (conv => whnf); rotate_right)); all_goals (try ((guard_target = Zaa _ _ _ _); ((refine Za8 ?_; intro hgd; (conv at hgd => whnf))); (all_goals (try simp only [Zaa, kzz, kz11, kz12, maxL, Zad] at *)); all_goals omega)))
  · exfalso
    rw [decide_eq_false (show ¬ f.block < 0 by omega), decide_eq_false (show ¬ (F.blocks.length : Int) ≤ f.block by omega), decide_eq_true hg] at hb
    cases hb
  · refine ⟨_, rfl, Rel.bool ?_⟩
    rw [decide_eq_true a0, decide_eq_true a1]; rfl
end Go.Proofs.YtoelbgjpmpoolaaGreat
namespace Go.Proofs.YtoelbgjpmpoolaaGreat
open Go Dv
set_option maxRecDepth 10000
set_option linter.unusedSimpArgs false
theorem c_fAns (f : Za2) (x : Ins) (h1 : 1 ≤ x.op) (h8 : x.op ≤ 8) (ha : 1 < x.op → 0 ≤ x.a ∧ x.a < f.regs.length) (hb' : 2 < x.op → 0 ≤ x.b ∧ x.b < f.regs.length) :
    FC Tryz.prog 194 [.agg (Zar f), .agg (Zba x)] (.tup [.int .u16 (reckV f x).1, .bool (reckV f x).2]) := by
  refine Zao tok Tryz.func194 rfl (by decide +kernel) (Nat.le_of_ble_eq_true rfl) ?_
  have hat : ∀ n, (0 ≤ n ∧ n < (f.regs.length : Int)) → FC Tryz.prog 195 [.agg (Zar f), iv n] (.tup [.int .u16 (f.regs.getD n.toNat 0), .bool true]) := fun n h => by
    have := c_fAt f n
    rw [show thereB f n = true from decide_eq_true h, if_pos rfl] at this; exact this
  by_cases h2 : 1 < x.op
  · have hA := hat x.a (ha h2)
    (repeat' ((fail_if_success (show AWp _ _ _ (Code.region 2 _ _) _ _)); (fail_if_success (show AWp _ _ _ (Code.region 3 _ _) _ _)); first | refine Zac ?_ | (refine Zab tok (by rfl) ?_; conv => whnf) | (refine Zag ?_; conv => whnf) | refine Zae rfl (fun hb => ?_) (fun hb => ?_)))
    · exfalso; simp at hb; omega
    clear hb
    have hV : reckV f x = doW x.op (f.regs.getD x.a.toNat 0) (if 2 < x.op then f.regs.getD x.b.toNat 0 else 0) := if_neg (by omega)
    rw [hV]
    (repeat' (refine Zab tok (by rfl) ?_; conv => whnf))
    refine .inl ⟨_, _, _, uG (QC.fc hA rfl), ?_⟩
    conv => whnf
    (repeat' first | refine Zac ?_ | (refine Zab tok (by rfl) ?_; conv => whnf))
    refine .inl ⟨_, _, _, uG (QC.fc (c_Two x.op) rfl), ?_⟩
    conv => whnf
    (repeat' ((fail_if_success (show AWp _ _ _ (Code.region 6 _ _) _ _)); (fail_if_success (show AWp _ _ _ (Code.region 7 _ _) _ _)); first | refine Zac ?_ | (refine Zag ?_; conv => whnf) | refine Zae rfl (fun hb => ?_) (fun hb => ?_)))
    · have h3 : 2 < x.op := by
        have : twoO x.op = true := by simpa using hb
        unfold twoO at this
        cases e : decide (2 < x.op) with
        | true => simpa using e
        | false => rw [e] at this; cases this
      clear hb
      rw [if_pos h3]
      (repeat' (refine Zab tok (by rfl) ?_; conv => whnf))
      refine .inl ⟨_, _, _, uG (QC.fc (hat x.b (hb' h3)) rfl), ?_⟩
      conv => whnf
      (repeat' ((fail_if_success (show AWp _ _ _ (Code.region 8 _ _) _ _)); (fail_if_success (show AWp _ _ _ (Code.region 9 _ _) _ _)); first | refine Zac ?_ | (refine Zab tok (by rfl) ?_; conv => whnf) | (refine Zag ?_; conv => whnf) | refine Zae rfl (fun hb => ?_) (fun hb => ?_)))
      · cases hb
      clear hb
      (repeat' (refine Zab tok (by rfl) ?_; conv => whnf))
      refine .inl ⟨_, _, _, uG (QC.fc (c_Do x.op (f.regs.getD x.a.toNat 0) (f.regs.getD x.b.toNat 0)) rfl), ?_⟩
      conv => whnf
      (repeat' (refine Zah ?_; conv => whnf))
      exact ⟨_, rfl, Rel.tup (.cons (Rel.imm rfl) (.cons (Rel.imm rfl) .nil))⟩
    · have h3 : ¬ 2 < x.op := by
        have : twoO x.op = false := by simpa using hb
        unfold twoO at this
        intro h
        rw [decide_eq_true h, cond_true, decide_eq_true h8] at this; cases this
      clear hb
      rw [if_neg h3]
      (repeat' ((fail_if_success (show AWp _ _ _ (Code.region 8 _ _) _ _)); (fail_if_success (show AWp _ _ _ (Code.region 9 _ _) _ _)); first | refine Zac ?_ | (refine Zab tok (by rfl) ?_; conv => whnf) | (refine Zag ?_; conv => whnf) | refine Zae rfl (fun hb => ?_) (fun hb => ?_)))
      · cases hb
      clear hb
      (repeat' (refine Zab tok (by rfl) ?_; conv => whnf))
      refine .inl ⟨_, _, _, uG (QC.fc (c_Do x.op (f.regs.getD x.a.toNat 0) 0) rfl), ?_⟩
      conv => whnf
      (repeat' (refine Zah ?_; conv => whnf))
      exact ⟨_, rfl, Rel.tup (.cons (Rel.imm rfl) (.cons (Rel.imm rfl) .nil))⟩
  · have h2' : x.op = 1 := by omega
    have hV : reckV f x = (x.k, true) := if_pos h2'
    rw [hV]
    (repeat' first | refine Zac ?_ | (refine Zab tok (by rfl) ?_; conv => whnf) | (refine Zag ?_; conv => whnf) | (refine Zah ?_; conv => whnf) | refine Zae rfl (fun hb => ?_) (fun hb => ?_))
    · exact ⟨_, rfl, Rel.tup (.cons (Rel.imm rfl) (.cons (Rel.imm rfl) .nil))⟩
    all_goals (exfalso; rw [h2'] at hb; cases hb)
abbrev r0 : Dv.Id := (905, 0, 0)
def regB (l : List Int) : Zan := .row true 1 l.length (fun x => [.int .u16 (l.getD x 0)])
def oneR (l : List Int) : Zap := orH (Za4 [(r0, regB l)]) noH
def frO (f : Za2) (r : AV) : List AV := [iv f.f, iv f.block, iv f.at_, r, .int .u16 f.fly]
theorem leaveR {h : Zap} {hl : List (Dv.Id × Zan)} {F : Zap} (S : List (Dv.Id × Option Dv.Id)) (hn : Zcn (tgts S) = true) (hf : ∀ i ∈ tgts S, orH (Za4 hl) F i = none ∨ i ∈ S.map (·.1)) (hh : HLs (srcL S) h (orH (Za4 hl) F) hl)
    (hF : ∀ j b, F j = some b → HOk (srcL S) h (orH (Za4 hl) F) j b) :
    (∀ j j' i, (orH (Za4 hl) F j).isSome = true → (orH (Za4 hl) F j').isSome = true → srcL S j = some i → srcL S j' = some i → j = j') ∧ ∀ j b, orH (Za4 hl) F j = some b → HOk (srcL S) h (orH (Za4 hl) F) j b :=
  ⟨Zez hn hf, fun j b e => by
    rcases orH_some e with e1 | ⟨_, e1⟩
    · exact hh.spec e1
    · exact hF j b e1⟩
theorem c_copied (f : Za2) : HF Tryz.prog 158 [.agg (Zar f)] (.agg (frO f (.rs r0 1 0 f.regs.length))) (oneR f.regs) := by
  refine Zf3 tok Tryz.func158 rfl (by decide +kernel) (Nat.le_of_ble_eq_true rfl) ?_
  (repeat' first | refine Zac ?_ | (refine Zab tok (by rfl) ?_; conv => whnf))
  refine .inl ⟨_, _, _, uG (QC.fo (rd := []) (Zf1 f.regs) (Ress.imms rfl) (.inl rfl) rfl), ?_⟩
  conv => whnf
  (repeat' first | refine Zac ?_ | (refine Zab tok (by rfl) ?_; conv => whnf) | (refine Zah ?_; conv => whnf))
  refine ⟨_, srcL [(r0, some (5, 0, 0))], rfl, ?_⟩
  rw [← and_assoc]
  refine ⟨leaveR [(r0, some (5, 0, 0))] rfl (fun c hc => ?_) (.old rfl rfl (GB.rowI (Nat.le_refl _) (fun q hq => ⟨rfl, rfl⟩)) .nil) (fun j b e => by cases e), .agg (.cons (.imm rfl) (.cons (.imm rfl) (.cons (.imm rfl) (.cons (.rs rfl rfl rfl rfl) (.cons (.imm rfl) .nil)))))⟩
  simp only [tgts, List.mem_cons, List.not_mem_nil, or_false] at hc
  subst hc; exact .inl rfl
theorem Zc3 {l : List Int} {i : Dv.Id} (h : (oneR l i).isSome = true) : i = r0 := by
  unfold oneR orH noH at h
  simp only [Za4] at h
  cases e : idEq r0 i with
  | true => exact (Za6.1 e).symm
  | false => rw [e] at h; cases h
theorem c_Go (f : Za2) (b : Int) : HF Tryz.prog 115 [.agg (Zar f), iv b] (.agg (frO { f with block := b, at_ := 0 } (.rs r0 1 0 f.regs.length))) (oneR f.regs) := by
  refine Zf3 tok Tryz.func115 rfl (by decide +kernel) (Nat.le_of_ble_eq_true rfl) ?_
  (repeat' first | refine Zac ?_ | (refine Zab tok (by rfl) ?_; conv => whnf))
  refine .inr ⟨_, _, _, uG (QH.ofF (c_copied f) rfl (fun i hi => by rw [Zc3 hi]; rfl)), ?_⟩
  conv => whnf
  (repeat' first | refine Zac ?_ | (refine Zab tok (by rfl) ?_; conv => whnf) | (refine Zah ?_; conv => whnf))
  refine ⟨_, srcL [], rfl, ?_⟩
  rw [← and_assoc]
  refine ⟨leaveR [] rfl (fun c hc => by cases hc) (.old rfl rfl (GB.rowI (Nat.le_refl _) (fun q hq => ⟨rfl, rfl⟩)) .nil) (fun j b e => by cases e), .agg (.cons (.imm rfl) (.cons (.imm rfl) (.cons (.imm rfl) (.cons (.rs rfl rfl rfl rfl) (.cons (.imm rfl) .nil)))))⟩
end Go.Proofs.YtoelbgjpmpoolaaGreat
namespace Go.Proofs.YtoelbgjpmpoolaaGreat
open Go Dv
set_option maxRecDepth 10000
set_option linter.unusedSimpArgs false
abbrev r1 : Dv.Id := (906, 0, 0)
set_option maxHeartbeats 2000000 in
theorem c_fReckon (f : Za2) (x : Ins) (hat0 : 0 ≤ f.at_) (hat : f.at_ < 1000000) (h1 : 1 ≤ x.op) (h8 : x.op ≤ 8) (hd : 0 ≤ x.dst ∧ x.dst < f.regs.length) (ha : 1 < x.op → 0 ≤ x.a ∧ x.a < f.regs.length) (hb' : 2 < x.op → 0 ≤ x.b ∧ x.b < f.regs.length) :
    HF Tryz.prog 156 [.agg (Zar f), .agg (Zba x)] (.tup [.agg (frO (Zce f x).1 (.rs r0 1 0 (Zce f x).1.regs.length)), .bool (Zce f x).2]) (oneR (Zce f x).1.regs) := by
  refine Zf3 tok Tryz.func156 rfl (by decide +kernel) (Nat.le_of_ble_eq_true rfl) ?_
  refine Zaw 0 (fun hl => ?_)
  have hl0 : f.regs.length ≤ maxL := hl.2.2.2.1.1
  have hmx : maxL = 4294967296 := rfl
  clear hl
  have hT : FC Tryz.prog 195 [.agg (Zar f), iv x.dst] (.tup [.int .u16 (f.regs.getD x.dst.toNat 0), .bool true]) := by
    have := c_fAt f x.dst
    rw [show thereB f x.dst = true from decide_eq_true hd, if_pos rfl] at this; exact this
  have hA := c_fAns f x h1 h8 ha hb'
  (repeat' first | refine Zac ?_ | (refine Zab tok (by rfl) ?_; conv => whnf))
  refine .inr ⟨_, _, _, uG (QH.ofF (c_copied f) rfl (fun i hi => by rw [Zc3 hi]; rfl)), ?_⟩
  conv => whnf
  (repeat' first | refine Zac ?_ | (refine Zab tok (by rfl) ?_; conv => whnf))
  refine .inl ⟨_, _, _, uG (QC.sc (rd := [r0]) hA (.cons (.agg (.cons (.imm rfl) (.cons (.imm rfl) (.cons (.imm rfl) (.cons (.row rfl (.head _) rfl rfl (fun _ _ => rfl)) (.cons (.imm rfl) .nil)))))) (.cons (.imm rfl) .nil)) rfl), ?_⟩
  conv => whnf
  (repeat' first | refine Zac ?_ | (refine Zab tok (by rfl) ?_; conv => whnf))
  refine .inl ⟨_, _, _, uG (QC.sc (rd := [r0]) hT (.cons (.agg (.cons (.imm rfl) (.cons (.imm rfl) (.cons (.imm rfl) (.cons (.row rfl (.head _) rfl rfl (fun _ _ => rfl)) (.cons (.imm rfl) .nil)))))) (.cons (.imm rfl) .nil)) rfl), ?_⟩
  conv => whnf
  (repeat' ((fail_if_success (show AWp _ _ _ (Code.region 5 _ _) _ _)); (fail_if_success (show AWp _ _ _ (Code.region 6 _ _) _ _)); first | refine Zac ?_ | (refine Zab tok (by rfl) ?_; conv => whnf) | (refine Zag ?_; conv => whnf) | refine Zae rfl (fun hb => ?_) (fun hb => ?_)))
  · have hv : Zce f x = (f, false) := if_neg (by simpa using hb)
    rw [hv]
    (repeat' first | (refine Zab tok (by rfl) ?_; conv => whnf) | (refine Zah ?_; conv => whnf))
    refine ⟨_, srcL [], rfl, ?_⟩
    rw [← and_assoc]
    exact ⟨leaveR [] rfl (fun c hc => by cases hc) (.old rfl rfl (GB.rowI (Nat.le_refl _) (fun q hq => ⟨rfl, rfl⟩)) .nil) (fun j b e => by cases e), .tup (.cons (.agg (.cons (.imm rfl) (.cons (.imm rfl) (.cons (.imm rfl) (.cons (.rs rfl rfl rfl rfl) (.cons (.imm rfl) .nil)))))) (.cons (.imm rfl) .nil))⟩
  · have hv : Zce f x = ({ frW f x.dst (reckV f x).1 with at_ := f.at_ + 1 }, true) := if_pos (by simpa using hb)
    rw [hv]
    have hz : x.dst.toNat < f.regs.length := by omega
    have hlen : (frW f x.dst (reckV f x).1).regs.length = f.regs.length := by simp [frW]
    ((repeat' first | refine Zac ?_ | (refine Zab tok (by rfl) ?_; conv => whnf) | (refine Zah ?_; conv => whnf) | (refine @And.intro (Zaa _ _ _ _) _ ?_ ?_; rotate_left; (conv => whnf); rotate_right)); all_goals (try ((guard_target = Zaa _ _ _ _); refine Zaf ?_; (all_goals (try simp only [Zaa, kzz, kz11, kz12, maxL, Zad] at *)); all_goals omega)))
    refine ⟨_, srcL [], rfl, ?_⟩
    rw [← and_assoc]
    refine ⟨leaveR [] rfl (fun c hc => by cases hc) (.old rfl rfl (GB.rowI (Nat.le_of_eq hlen) (fun q hq => ⟨?_, ?_⟩)) .nil) (fun j b e => by cases e), .tup (.cons (.agg (.cons (.imm rfl) (.cons (.imm rfl) (.cons (.int (Zal (by omega) (by omega))) (.cons (.rs rfl rfl rfl hlen.symm) (.cons (.imm rfl) .nil)))))) (.cons (.imm rfl) .nil))⟩
    · rw [Nat.zero_add, rowSet (l := f.regs) hz]; rfl
    · rw [Nat.zero_add]; exact rowSet (l := f.regs) hz
set_option maxHeartbeats 2000000 in
theorem c_fLand (m : Zaj) (f : Za2) (pad w : Int) (hr : Zbg m = true) (hF : OkF m f) (p0 : 0 ≤ pad) (p1 : pad < (m.funcs.getD f.f.toNat default).blocks.length) (hl : (padOf m f pad).landing = true)
    (hd : 0 ≤ (padOf m f pad).pad.dst ∧ (padOf m f pad).pad.dst < f.regs.length) :
    HF Tryz.prog 163 [.agg (Zav m), .agg (Zar f), iv pad, .int .u16 w] (.tup [.agg (frO (landF m f pad w) (.rs r0 1 0 (landF m f pad w).regs.length)), iv 0]) (oneR (landF m f pad w).regs) := by
  refine Zf3 tok Tryz.func163 rfl (by decide +kernel) (Nat.le_of_ble_eq_true rfl) ?_
  refine Zaw 1 (fun hl => ?_)
  have hl0 : f.regs.length ≤ maxL := hl.2.2.2.1.1
  have hmx : maxL = 4294967296 := rfl
  clear hl
  have hRt := c_fRight m f hr hF
  have hG : FC Tryz.prog 122 [.agg (Zav m), .agg (Zar f)] (.bool true) := hRt
  have f0 := hF.f0
  have f1 := hF.f1
  have hz : (padOf m f pad).pad.dst.toNat < f.regs.length := by omega
  have hlen : (landF m f pad w).regs.length = f.regs.length := by simp [landF, frW]
  unfold padOf at hl hd hz
  (repeat' first | refine Zac ?_ | (refine Zab tok (by rfl) ?_; conv => whnf))
  refine .inr ⟨_, _, _, uG (QH.ofF (c_copied f) rfl (fun i hi => by rw [Zc3 hi]; rfl)), ?_⟩
  conv => whnf
  (repeat' first | refine Zac ?_ | (refine Zab tok (by rfl) ?_; conv => whnf))
  refine .inl ⟨_, _, _, uG (QC.sc (rd := [r0]) hRt (.cons (.imm rfl) (.cons (.agg (.cons (.imm rfl) (.cons (.imm rfl) (.cons (.imm rfl) (.cons (.row rfl (.head _) rfl rfl (fun _ _ => rfl)) (.cons (.imm rfl) .nil)))))) .nil)) rfl), ?_⟩
  conv => whnf
  ((repeat' ((fail_if_success (show AWp _ _ _ (Code.region 3 _ _) _ _)); (fail_if_success (show AWp _ _ _ (Code.region 4 _ _) _ _)); first | refine Zac ?_ | (refine Zag ?_; conv => whnf) | refine Zae rfl (fun hb => ?_) (fun hb => ?_) | (refine @And.intro (Zaa _ _ _ _) _ ?_ ?_; rotate_left; (conv => whnf); rotate_right))); all_goals (try ((guard_target = Zaa _ _ _ _); ((refine Za8 ?_; intro hgd; (conv at hgd => whnf))); (all_goals (try simp only [Zaa, kzz, kz11, kz12, maxL, Zad] at *)); all_goals omega)))
  · exfalso
    rw [decide_eq_false (show ¬ pad < 0 by omega), decide_eq_false (show ¬ ((m.funcs.getD f.f.toNat default).blocks.length : Int) ≤ pad by omega), hl] at hb
    cases hb
  clear hb
  refine Zau (Weak.fam (L := []) (tl := [(2, iv pad), (3, .int .u16 w), (4, .bp (4, 0, 0) 0), (5, .bp (5, 0, 0) 0), (8, .bp (8, 0, 0) 0)]) (hl := [((4, 0, 0), Zam (Zav m)), ((5, 0, 0), .row false 5 1 (fun _ => frO f (.rs r1 1 0 f.regs.length))), ((8, 0, 0), Zam [iv 0, iv 0, iv 0, .nsl, .int .u16 0]), ((906, 0, 0), regB f.regs)]) (F := noH) [(r1, some r0)] rfl (fun c hc => ?_) ?_ ?_ noF (fun i hi => by cases hi)) ?_
  · simp only [tgts, List.mem_cons, List.not_mem_nil, or_false] at hc
    subst hc; exact .inl rfl
  · (repeat' first | exact TLg.nil | refine TLg.cons (GV.imm rfl) ?_ | refine TLg.cons (GV.bp rfl rfl) ?_)
    all_goals rfl
  · exact .old rfl rfl (GB.one (GVs.imm rfl) (fun _ => rfl)) (.old rfl rfl (GB.one (.cons (.imm rfl) (.cons (.imm rfl) (.cons (.imm rfl) (.cons (.rs rfl rfl rfl rfl) (.cons (.imm rfl) .nil))))) (fun e => by cases e)) (.old rfl rfl (GB.one (GVs.imm rfl) (fun _ => rfl)) (.old rfl rfl (GB.rowI (Nat.le_refl _) (fun q hq => ⟨rfl, rfl⟩)) .nil)))
  (repeat' (refine Zab tok (by rfl) ?_; conv => whnf))
  refine .inr ⟨_, _, _, uG (QH.lendF (rd := [r1]) (c_Go f pad) (.cons (.agg (.cons (.imm rfl) (.cons (.imm rfl) (.cons (.imm rfl) (.cons (.row rfl (.head _) rfl rfl (fun _ _ => rfl)) (.cons (.imm rfl) .nil)))))) (.cons (.imm rfl) .nil)) (fun i hi => by rw [Zc3 hi]; rfl) rfl (fun j b e => by
    have := Zc3 (i := j) (by rw [e]; rfl)
    subst this; cases e; exact fun i hi => rfl)), ?_⟩
  conv => whnf
  ((repeat' first | refine Zac ?_ | (refine Zab tok (by rfl) ?_; conv => whnf) | (refine Zat tok mix (by rfl) ?_; conv => whnf) | (refine Zah ?_; conv => whnf) | (refine @And.intro (Zaa _ _ _ _) _ ?_ ?_; rotate_left; (conv => whnf); rotate_right)); all_goals (try ((guard_target = Zaa _ _ _ _); refine Zaf ?_; (all_goals (try simp only [Zaa, kzz, kz11, kz12, maxL, Zad] at *)); all_goals omega)))
  refine ⟨_, srcL [], rfl, ?_⟩
  rw [← and_assoc]
  refine ⟨leaveR [] rfl (fun c hc => by cases hc) (.old rfl rfl (GB.rowI (Nat.le_of_eq hlen) (fun q hq => ⟨?_, ?_⟩)) .nil) (fun j b e => by cases e), .tup (.cons (.agg (.cons (.imm rfl) (.cons (.imm rfl) (.cons (.imm rfl) (.cons (.rs rfl rfl rfl hlen.symm) (.cons (.imm rfl) .nil)))))) (.cons (.imm rfl) .nil))⟩
  · rw [Nat.zero_add, rowSet (l := f.regs) hz]; rfl
  · rw [Nat.zero_add]; exact rowSet (l := f.regs) hz
end Go.Proofs.YtoelbgjpmpoolaaGreat
namespace Go.Proofs.YtoelbgjpmpoolaaGreat
open Go Dv
set_option maxRecDepth 10000
set_option linter.unusedSimpArgs false
def goOn (f : Za2) : Za2 := { f with at_ := f.at_ + 1 }
def cellN (f : Za2) (x : Ins) : Nat := (f.regs.getD x.a.toNat 0).toNat
def insM (m : Zaj) (s : Mach) (f : Za2) (x : Ins) : Mach :=
  if x.op = 11 then Zb2 m s x.f x.args
  else if x.op ≤ 8 then (if (Zce f x).2 = true then Zbo s (Zce f x).1 else endM s 3 0)
  else if x.op = 9 then (if 16 ≤ f.regs.getD x.a.toNat 0 then endM s 4 0 else Zbo s (goOn (frW f x.dst (s.cells.getD (cellN f x) 0))))
  else if x.op = 10 then (if 16 ≤ f.regs.getD x.a.toNat 0 then endM s 4 0 else Zbo { s with cells := s.cells.set (cellN f x) (f.regs.getD x.b.toNat 0) } (goOn f))
  else if x.op = 12 then Zbo { s with events := s.events ++ [f.regs.getD x.a.toNat 0] } (goOn f)
  else if x.op = 13 then (if s.inputs.length = 0 then endM s 6 0 else Zbo { s with inputs := s.inputs.drop 1, events := s.events ++ [s.inputs.getD 0 0 + 65536] } (goOn (frW f x.dst (s.inputs.getD 0 0))))
  else Zbo s (goOn f)
def evM (s : Mach) (e : Int) : Mach := { s with events := s.events ++ [e] }
theorem appI {k z : Nat} {l : List Int} {v v' : Int} {F : Nat → List AV} (hk : k = l.length) (hz : z < l.length + 1) (hv : v' = v) (hF : ∀ i, i < l.length → F i = [iv (l.getD i 0)]) : appR k F (fun i => rowOf 1 [iv v'] (0 + i)) z = [iv ((l ++ [v]).getD z 0)] := by
  subst hk; subst hv
  unfold appR
  by_cases e : z < l.length
  · rw [show Nat.blt z l.length = true from by rw [Nat.blt_eq]; exact e, cond_true, hF z e]
    simp [List.getD_eq_getElem?_getD, List.getElem?_append_left e]
  · have e2 : z = l.length := by omega
    subst e2
    rw [show Nat.blt l.length l.length = false from by rw [Bool.eq_false_iff]; intro h; rw [Nat.blt_eq] at h; omega, cond_false, Nat.sub_self]
    have e4 : (l ++ [v']).getD l.length 0 = v' := by simp [List.getD_eq_getElem?_getD]
    rw [e4]; rfl
abbrev FCins (m : Zaj) (s : Mach) (f : Za2) (x : Ins) : Prop := FC Tryz.prog 106 [.agg (Zav m), .agg (Zas s), .agg (Zar f), .agg (Zba x)] (.agg (Zas (insM m s f x)))
theorem c_ins11 (m : Zaj) (s : Mach) (f : Za2) (x : Ins) (ho : x.op = 11) (hc : FC Tryz.prog 108 [.agg (Zav m), .agg (Zas s), iv x.f, ints x.args] (.agg (Zas (Zb2 m s x.f x.args)))) : FCins m s f x := by
  refine Zao tok Tryz.func106 rfl (by decide +kernel) (Nat.le_of_ble_eq_true rfl) ?_
  rw [show insM m s f x = Zb2 m s x.f x.args from if_pos ho]
  (repeat' ((fail_if_success (show AWp _ _ _ (Code.region 2 _ _) _ _)); (fail_if_success (show AWp _ _ _ (Code.region 3 _ _) _ _)); first | refine Zac ?_ | (refine Zab tok (by rfl) ?_; conv => whnf) | (refine Zag ?_; conv => whnf) | refine Zae rfl (fun hb => ?_) (fun hb => ?_)))
  · (repeat' (refine Zab tok (by rfl) ?_; conv => whnf))
    refine .inl ⟨_, _, _, uG (QC.fc hc rfl), ?_⟩
    conv => whnf
    (repeat' (refine Zah ?_; conv => whnf))
    exact ⟨_, rfl, Rel.agg (Rels.imm rfl)⟩
  · exfalso; rw [ho] at hb; cases hb
set_option maxHeartbeats 1000000 in
theorem c_ins8 (m : Zaj) (s : Mach) (f : Za2) (x : Ins) (hs : 0 < s.stack.length) (h8 : x.op ≤ 8) (hc : FC Tryz.prog 149 [.agg (Zar f), .agg (Zba x)] (.tup [.agg (Zar (Zce f x).1), .bool (Zce f x).2])) : FCins m s f x := by
  refine Zao tok Tryz.func106 rfl (by decide +kernel) (Nat.le_of_ble_eq_true rfl) ?_
  rw [show insM m s f x = (if (Zce f x).2 = true then Zbo s (Zce f x).1 else endM s 3 0) from (if_neg (by omega)).trans (if_pos h8)]
  (repeat' ((fail_if_success (show AWp _ _ _ (Code.region 2 _ _) _ _)); (fail_if_success (show AWp _ _ _ (Code.region 4 _ _) _ _)); (fail_if_success (show AWp _ _ _ (Code.region 8 _ _) _ _)); first | refine Zac ?_ | (refine Zab tok (by rfl) ?_; conv => whnf) | (refine Zag ?_; conv => whnf) | refine Zae rfl (fun hb => ?_) (fun hb => ?_)))
  · exfalso; simp at hb; omega
  · (repeat' (refine Zab tok (by rfl) ?_; conv => whnf))
    refine .inl ⟨_, _, _, uG (QC.fc hc rfl), ?_⟩
    conv => whnf
    (repeat' first | refine Zac ?_ | (refine Zab tok (by rfl) ?_; conv => whnf) | (refine Zag ?_; conv => whnf) | refine Zae rfl (fun hb => ?_) (fun hb => ?_))
    · rw [if_neg (by simpa using hb)]
      refine .inl ⟨_, _, _, uG (QC.fc (c_ended s 3 0) rfl), ?_⟩
      conv => whnf
      (repeat' (refine Zah ?_; conv => whnf))
      exact ⟨_, rfl, Rel.agg (Rels.imm rfl)⟩
    · rw [if_pos (by simpa using hb)]
      refine .inl ⟨_, _, _, uG (QC.fc (Ze1 s (Zce f x).1 hs) rfl), ?_⟩
      conv => whnf
      (repeat' (refine Zah ?_; conv => whnf))
      exact ⟨_, rfl, Rel.agg (Rels.imm rfl)⟩
  · exfalso; simp at hb; omega
set_option maxHeartbeats 2000000 in
theorem c_ins12 (m : Zaj) (s : Mach) (f : Za2) (x : Ins) (hs : 0 < s.stack.length) (ho : x.op = 12) (ha : 0 ≤ x.a ∧ x.a < f.regs.length) (h0 : 0 ≤ f.at_) (h1 : f.at_ < 1000000) (he : s.events.length < 1000000) : FCins m s f x := by
  refine Zao tok Tryz.func106 rfl (by decide +kernel) (Nat.le_of_ble_eq_true rfl) ?_
  refine Zaw 2 (fun hl => ?_)
  have hreg : 0 ≤ f.regs.getD x.a.toNat 0 ∧ f.regs.getD x.a.toNat 0 ≤ 65535 := (hl.2.2.2.1.2 x.a.toNat (by omega)).1
  clear hl
  have hmx : maxL = 4294967296 := rfl
  (repeat' ((fail_if_success (show AWp _ _ _ (Code.region 2 _ _) _ _)); (fail_if_success (show AWp _ _ _ (Code.region 4 _ _) _ _)); (fail_if_success (show AWp _ _ _ (Code.region 9 _ _) _ _)); (fail_if_success (show AWp _ _ _ (Code.region 16 _ _) _ _)); (fail_if_success (show AWp _ _ _ (Code.region 18 _ _) _ _)); (fail_if_success (show AWp _ _ _ (Code.region 23 _ _) _ _)); first | refine Zac ?_ | (refine Zab tok (by rfl) ?_; conv => whnf) | (refine Zag ?_; conv => whnf) | refine Zae rfl (fun hb => ?_) (fun hb => ?_)))
  all_goals (try (exfalso; rw [ho] at hb; cases hb; done))
  · have hM : insM m s f x = Zbo (evM s (f.regs.getD x.a.toNat 0)) (goOn f) := by
      unfold insM
      rw [if_neg (by omega), if_neg (by omega), if_neg (by omega), if_neg (by omega), if_pos ho]; rfl
    rw [hM]
    refine Zc9 tok mix (by rfl) [1, 2, 4, 5, 6, 7, 8, 9, 10, 13] 30 (by rfl) (by rfl) (by rfl) ?_
    conv => whnf
    repeat' first
      | (refine @And.intro (Zaa _ _ _ _) _ ?_ ?_; rotate_left; (conv => whnf); rotate_right)
      | (guard_target = And _ _; refine @And.intro (gOp _ _ _ _ _ _ _ _ _) _ (by (conv => whnf); exact ⟨rfl, rfl⟩) ?_; conv => whnf)
      | (guard_target = And _ _; refine And.intro ?_ ?_ <;> (conv => whnf))
    all_goals (try ((guard_target = Zaa _ _ _ _); refine Zaf ?_; (first | refine And.intro (Zc5 rfl ?_) ?_ | refine And.intro Zd3 ?_ | skip); (all_goals (try simp only [Zaa, kzz, kz11, kz12, maxL, Zad] at *)); all_goals omega))
    all_goals (try rfl)
    all_goals
      refine Zau (Weak.fam (L := []) (tl := [(4, .bp (4, 0, 0) 0), (5, .bp (5, 0, 0) 0), (6, .bp (6, 0, 0) 0), (7, .bp (7, 0, 0) 0), (8, .bp (8, 0, 0) 0)]) (hl := [((4, 0, 0), Zam (Zav m)), ((5, 0, 0), Zam (Zas (evM s (f.regs.getD x.a.toNat 0)))), ((6, 0, 0), Zam (Zar f)), ((7, 0, 0), Zam (Zba x)), ((8, 0, 0), Zam Zbz)]) (F := noH) [] rfl (fun c hc => by cases hc) ?_ ?_ noF (fun i hi => by cases hi)) ?_
      · exact .cons (.bp rfl rfl) (.cons (.bp rfl rfl) (.cons (.bp rfl rfl) (.cons (.bp rfl rfl) (.cons (.bp rfl rfl) .nil))))
      · refine .old rfl rfl (GB.one (GVs.imm rfl) (fun _ => rfl)) (.old rfl rfl (GB.one (.cons (.imm rfl) (.cons (.imm rfl) (.cons (.imm rfl) (.cons (.imm rfl) (.cons (.imm rfl) (.cons (.imm rfl) (.cons (.imm rfl) (.cons (.imm rfl) (.cons (.imm rfl) (.cons (.imm rfl) (.cons (.imm rfl) (.cons (.imm rfl) (.cons (.imm rfl) (.cons (.imm rfl) (.cons (.imm rfl) (.cons (.imm rfl) (.cons (.imm rfl) (.cons (.imm rfl) (.cons (.frz (hd_no rfl) rfl (Nat.le_of_eq (Nat.zero_add _)) ?_ (fun z hz => GVs.eqI rfl ?_) (fun _ _ => rfl)) (.cons (.imm rfl) (.cons (.imm rfl) .nil))))))))))))))))))))) (fun _ => rfl)) (.old rfl rfl (GB.one (GVs.imm rfl) (fun _ => rfl)) (.old rfl rfl (GB.one (GVs.imm rfl) (fun _ => rfl)) (.old rfl rfl (GB.one (GVs.imm rfl) (fun _ => rfl)) .nil))))
        · show 0 + s.events.length + 1 = (s.events ++ [_]).length
          simp
        · have hz2 : z < s.events.length + 1 := by rw [Nat.zero_add] at hz; exact hz
          rw [show 0 + z = z from Nat.zero_add z]
          simp only [allB, Zca, Bool.true_and, Bool.and_true, Bool.and_self, cond_true]
          exact appI (Nat.zero_add _) hz2 (Zal (by omega) (by omega)) (fun i hi => rfl)
      (repeat' ((fail_if_success (show AWp _ _ _ (Code.region 18 _ _) _ _)); (fail_if_success (show AWp _ _ _ (Code.region 23 _ _) _ _)); first | refine Zac ?_ | (refine Zab tok (by rfl) ?_; conv => whnf) | (refine Zag ?_; conv => whnf) | refine Zae rfl (fun hb => ?_) (fun hb => ?_)))
      · exfalso; rw [ho] at hb; cases hb
      clear hb
      (repeat' first | refine Zac ?_ | (refine Zab tok (by rfl) ?_; conv => whnf))
      rw [show goOn f = { f with at_ := IntKind.i64.wrap (f.at_ + 1) } from by unfold goOn; rw [Zal (by omega) (by omega)]]
      refine .inl ⟨_, _, _, uG (QC.fc (Ze1 (evM s (f.regs.getD x.a.toNat 0)) { f with at_ := IntKind.i64.wrap (f.at_ + 1) } hs) rfl), ?_⟩
      conv => whnf
      (repeat' (refine Zah ?_; conv => whnf))
      exact ⟨_, rfl, Rel.agg (Rels.imm rfl)⟩
  all_goals (exfalso; simp_all)
end Go.Proofs.YtoelbgjpmpoolaaGreat
namespace Go.Proofs.YtoelbgjpmpoolaaGreat
open Go Dv
set_option maxRecDepth 10000
set_option linter.unusedSimpArgs false
def inM (s : Mach) : Mach := { evM s (s.inputs.getD 0 0 + 65536) with inputs := s.inputs.drop 1 }
theorem wk_drop {l : List Int} {n : Nat} {F : Nat → List AV} (hl : ¬ l.length = 0) (hn : n = l.length - 1) (hF : ∀ i, F i = [.int .u16 (l.getD (1 + i) 0)]) : Wk (.sl 1 n F) (u16s (l.drop 1)) := by
  subst hn
  refine .sl (by simp) (fun i hi => ?_)
  rw [hF i, List.getD_eq_getElem?_getD, List.getD_eq_getElem?_getD, List.getElem?_drop]
set_option maxHeartbeats 4000000 in
theorem c_ins13 (m : Zaj) (s : Mach) (f : Za2) (x : Ins) (hs : 0 < s.stack.length) (ho : x.op = 13) (hd : 0 ≤ x.dst ∧ x.dst < f.regs.length) (h0 : 0 ≤ f.at_) (h1 : f.at_ < 1000000) (he : s.events.length < 1000000) (hin : ∀ i, i < s.inputs.length → 0 ≤ s.inputs.getD i 0 ∧ s.inputs.getD i 0 ≤ 65535) (hil : s.inputs.length < 1000000) : FCins m s f x := by
  refine Zao tok Tryz.func106 rfl (by decide +kernel) (Nat.le_of_ble_eq_true rfl) ?_
  have hmx : maxL = 4294967296 := rfl
  have hM : insM m s f x = if s.inputs.length = 0 then endM s 6 0 else Zbo (inM s) (goOn (frW f x.dst (s.inputs.getD 0 0))) := by
    unfold insM
    rw [if_neg (by omega), if_neg (by omega), if_neg (by omega), if_neg (by omega), if_neg (by omega), if_pos ho]; rfl
  rw [hM]
  (repeat' ((fail_if_success (show AWp _ _ _ (Code.region 2 _ _) _ _)); (fail_if_success (show AWp _ _ _ (Code.region 4 _ _) _ _)); (fail_if_success (show AWp _ _ _ (Code.region 9 _ _) _ _)); (fail_if_success (show AWp _ _ _ (Code.region 16 _ _) _ _)); (fail_if_success (show AWp _ _ _ (Code.region 18 _ _) _ _)); (fail_if_success (show AWp _ _ _ (Code.region 23 _ _) _ _)); first | refine Zac ?_ | (refine Zab tok (by rfl) ?_; conv => whnf) | (refine Zag ?_; conv => whnf) | refine Zae rfl (fun hb => ?_) (fun hb => ?_)))
  all_goals (try (exfalso; simp_all; done))
  (repeat' ((fail_if_success (show AWp _ _ _ (Code.region 19 _ _) _ _)); (fail_if_success (show AWp _ _ _ (Code.region 20 _ _) _ _)); first | refine Zac ?_ | (refine Zab tok (by rfl) ?_; conv => whnf) | (refine Zag ?_; conv => whnf) | refine Zae rfl (fun hb => ?_) (fun hb => ?_)))
  · have hz0 : s.inputs.length = 0 := by simp only [decide_eq_true_eq] at hb; omega
    rw [if_pos hz0]
    (repeat' (refine Zab tok (by rfl) ?_; conv => whnf))
    refine .inl ⟨_, _, _, uG (QC.fc (c_ended s 6 0) rfl), ?_⟩
    conv => whnf
    (repeat' (refine Zah ?_; conv => whnf))
    exact ⟨_, rfl, Rel.agg (Rels.imm rfl)⟩
  have hz0 : ¬ s.inputs.length = 0 := by simp only [decide_eq_false_iff_not] at hb; omega
  clear hb
  rw [if_neg hz0]
  have hw := hin 0 (by omega)
  ((repeat' first | (refine Zat tok mix (by rfl) ?_; conv => whnf) | (refine @And.intro (Zaa _ _ _ _) _ ?_ ?_; rotate_left; (conv => whnf); rotate_right)); all_goals (try ((guard_target = Zaa _ _ _ _); refine Zaf ?_; (all_goals (try simp only [Zaa, kzz, kz11, kz12, maxL, Zad] at *)); all_goals omega)))
  refine .inl ⟨_, _, _, uG (QC.fc (c_With f x.dst (s.inputs.getD 0 0) hd.1 hd.2) rfl), ?_⟩
  conv => whnf
  (repeat' ((fail_if_success (show AWp _ _ _ (Code.region 21 _ _) _ _)); refine Zac ?_))
  refine Zc9 tok mix (by rfl) [1, 2, 4, 5, 6, 7, 8, 9, 12] 30 (by rfl) (by rfl) (by rfl) ?_
  conv => whnf
  repeat' first
    | (refine @And.intro (Zaa _ _ _ _) _ ?_ ?_; rotate_left; (conv => whnf); rotate_right)
    | (guard_target = And _ _; refine @And.intro (gOp _ _ _ _ _ _ _ _ _) _ (by (conv => whnf); exact ⟨rfl, rfl⟩) ?_; conv => whnf)
    | (guard_target = And _ _; refine And.intro ?_ ?_ <;> (conv => whnf))
  all_goals (try ((guard_target = Zaa _ _ _ _); refine Zaf ?_; (first | refine And.intro (Zc5 rfl ?_) ?_ | refine And.intro Zd3 ?_ | skip); (all_goals (try simp only [Zaa, kzz, kz11, kz12, maxL, Zad] at *)); all_goals omega))
  all_goals (try rfl)
  all_goals
    refine Zau (Weak.fam (L := []) (tl := [(4, .bp (4, 0, 0) 0), (5, .bp (5, 0, 0) 0), (6, .bp (6, 0, 0) 0), (7, .bp (7, 0, 0) 0), (8, .bp (8, 0, 0) 0)]) (hl := [((4, 0, 0), Zam (Zav m)), ((5, 0, 0), Zam (Zas (evM s (s.inputs.getD 0 0 + 65536)))), ((6, 0, 0), Zam (Zar (frW f x.dst (s.inputs.getD 0 0)))), ((7, 0, 0), Zam (Zba x)), ((8, 0, 0), Zam Zbz)]) (F := noH) [] rfl (fun c hc => by cases hc) ?_ ?_ noF (fun i hi => by cases hi)) ?_
    · exact .cons (.bp rfl rfl) (.cons (.bp rfl rfl) (.cons (.bp rfl rfl) (.cons (.bp rfl rfl) (.cons (.bp rfl rfl) .nil))))
    · refine .old rfl rfl (GB.one (GVs.imm rfl) (fun _ => rfl)) (.old rfl rfl (GB.one (.cons (.imm rfl) (.cons (.imm rfl) (.cons (.imm rfl) (.cons (.imm rfl) (.cons (.imm rfl) (.cons (.imm rfl) (.cons (.imm rfl) (.cons (.imm rfl) (.cons (.imm rfl) (.cons (.imm rfl) (.cons (.imm rfl) (.cons (.imm rfl) (.cons (.imm rfl) (.cons (.imm rfl) (.cons (.imm rfl) (.cons (.imm rfl) (.cons (.imm rfl) (.cons (.imm rfl) (.cons (.frz (hd_no rfl) rfl (Nat.le_of_eq (Nat.zero_add _)) ?_ (fun z hz => GVs.eqI rfl ?_) (fun _ _ => rfl)) (.cons (.imm rfl) (.cons (.imm rfl) .nil))))))))))))))))))))) (fun _ => rfl)) (.old rfl rfl (GB.one (GVs.imm rfl) (fun _ => rfl)) (.old rfl rfl (GB.one (GVs.imm rfl) (fun _ => rfl)) (.old rfl rfl (GB.one (GVs.imm rfl) (fun _ => rfl)) .nil))))
      · show 0 + s.events.length + 1 = (s.events ++ [_]).length
        simp
      · have hz2 : z < s.events.length + 1 := by rw [Nat.zero_add] at hz; exact hz
        rw [show 0 + z = z from Nat.zero_add z]
        simp only [allB, Zca, Bool.true_and, Bool.and_true, Bool.and_self, cond_true]
        exact appI (Nat.zero_add _) hz2 (by
          show IntKind.i64.wrap (IntKind.i64.wrap (s.inputs.getD 0 0) + 65536) = _
          rw [Zal (x := s.inputs.getD 0 0) (by omega) (by omega), Zal (by omega) (by omega)]) (fun i hi => rfl)
    have hz3 : (evM s (s.inputs.getD 0 0 + 65536)).inputs.length = s.inputs.length := rfl
    have hz4 : (evM s (s.inputs.getD 0 0 + 65536)).inputs = s.inputs := rfl
    ((repeat' ((fail_if_success (show AWp _ _ _ (Code.region 23 _ _) _ _)); first | refine Zac ?_ | (refine Zab tok (by rfl) ?_; conv => whnf) | (refine @And.intro (Zaa _ _ _ _) _ ?_ ?_; rotate_left; (conv => whnf); rotate_right))); all_goals (try ((guard_target = Zaa _ _ _ _); refine Zaf ?_; (all_goals (try simp only [Zaa, kzz, kz11, kz12, maxL, Zad] at *)); all_goals omega)))
    refine Zau (Weak.list (tl := [(4, .bp (4, 0, 0) 0), (5, .bp (5, 0, 0) 0), (6, .bp (6, 0, 0) 0), (7, .bp (7, 0, 0) 0), (8, .bp (8, 0, 0) 0)]) [((4, 0, 0), .old (4, 0, 0), Zam (Zav m)), ((5, 0, 0), .old (5, 0, 0), Zam (Zas (inM s))), ((6, 0, 0), .old (6, 0, 0), Zam (Zar (frW f x.dst (s.inputs.getD 0 0)))), ((7, 0, 0), .old (7, 0, 0), Zam (Zba x)), ((8, 0, 0), .old (8, 0, 0), Zam Zbz)] rfl (by rfl) ?_ (.old rfl (BLe.refl _) (.old rfl (BLe.rowW (Nat.le_refl _) (ltS (.cons .refl (.cons .refl (.cons .refl (.cons .refl (.cons .refl (.cons .refl (.cons .refl (.cons .refl (.cons .refl (.cons .refl (.cons .refl (.cons .refl (.cons .refl (.cons .refl (.cons .refl (.cons .refl (.cons .refl (.cons (wk_drop hz0 (by simp [evM]) (fun i => rfl)) (.cons .refl (.cons .refl (.cons .refl .nil))))))))))))))))))))) lt0)) (.old rfl (BLe.refl _) (.old rfl (BLe.refl _) (.old rfl (BLe.refl _) .nil)))))) ?_
    · ((repeat' first | exact TLes.nil | refine TLes.cons (TLe.eq rfl) ?_); skip)
    (repeat' first | refine Zac ?_ | (refine Zab tok (by rfl) ?_; conv => whnf))
    rw [show goOn (frW f x.dst (s.inputs.getD 0 0)) = { frW f x.dst (s.inputs.getD 0 0) with at_ := IntKind.i64.wrap (f.at_ + 1) } from by unfold goOn; rw [show (frW f x.dst (s.inputs.getD 0 0)).at_ = f.at_ from rfl, Zal (by omega) (by omega)]]
    refine .inl ⟨_, _, _, uG (QC.fc (Ze1 (inM s) { frW f x.dst (s.inputs.getD 0 0) with at_ := IntKind.i64.wrap (f.at_ + 1) } hs) rfl), ?_⟩
    conv => whnf
    (repeat' (refine Zah ?_; conv => whnf))
    exact ⟨_, rfl, Rel.agg (Rels.imm rfl)⟩
end Go.Proofs.YtoelbgjpmpoolaaGreat
namespace Go.Proofs.YtoelbgjpmpoolaaGreat
open Go Dv
set_option maxRecDepth 10000
set_option linter.unusedSimpArgs false
set_option maxHeartbeats 4000000 in
theorem c_ins9 (m : Zaj) (s : Mach) (f : Za2) (x : Ins) (hs : 0 < s.stack.length) (ho : x.op = 9) (hd : 0 ≤ x.dst ∧ x.dst < f.regs.length) (ha : 0 ≤ x.a ∧ x.a < f.regs.length) (h0 : 0 ≤ f.at_) (h1 : f.at_ < 1000000) : FCins m s f x := by
  refine Zao tok Tryz.func106 rfl (by decide +kernel) (Nat.le_of_ble_eq_true rfl) ?_
  refine Zaw 2 (fun hl => ?_)
  have hreg : 0 ≤ f.regs.getD x.a.toNat 0 ∧ f.regs.getD x.a.toNat 0 ≤ 65535 := (hl.2.2.2.1.2 x.a.toNat (by omega)).1
  clear hl
  have hmx : maxL = 4294967296 := rfl
  have hgen : ∃ n, f.regs.getD x.a.toNat 0 = n := ⟨_, rfl⟩
  obtain ⟨n, hn⟩ := hgen
  have hM : insM m s f x = if 16 ≤ n then endM s 4 0 else Zbo s (goOn (frW f x.dst (s.cells.getD n.toNat 0))) := by
    unfold insM cellN
    rw [if_neg (by omega), if_neg (by omega), if_pos ho, hn]
  rw [hM]
  rw [hn] at hreg
  have hw : IntKind.i64.wrap n = n := Zal (by omega) (by omega)
  (repeat' ((fail_if_success (show AWp _ _ _ (Code.region 2 _ _) _ _)); (fail_if_success (show AWp _ _ _ (Code.region 4 _ _) _ _)); (fail_if_success (show AWp _ _ _ (Code.region 9 _ _) _ _)); (fail_if_success (show AWp _ _ _ (Code.region 15 _ _) _ _)); first | refine Zac ?_ | (refine Zab tok (by rfl) ?_; conv => whnf) | (refine Zag ?_; conv => whnf) | refine Zae rfl (fun hb => ?_) (fun hb => ?_)))
  all_goals (try (exfalso; simp_all; done))
  ((repeat' ((fail_if_success (show AWp _ _ _ (Code.region 11 _ _) _ _)); (fail_if_success (show AWp _ _ _ (Code.region 12 _ _) _ _)); first | refine Zac ?_ | (refine Zab tok (by rfl) ?_; conv => whnf) | (refine Zag ?_; conv => whnf) | refine Zae rfl (fun hb => ?_) (fun hb => ?_) | (refine @And.intro (Zaa _ _ _ _) _ ?_ ?_; rotate_left; (conv => whnf); rotate_right))); all_goals (try ((guard_target = Zaa _ _ _ _); refine Zaf ?_; (all_goals (try simp only [Zaa, kzz, kz11, kz12, maxL, Zad] at *)); all_goals omega)))
  · have h16 : 16 ≤ n := by rw [hn, hw] at hb; simpa using hb
    rw [if_pos h16]
    (repeat' (refine Zab tok (by rfl) ?_; conv => whnf))
    refine .inl ⟨_, _, _, uG (QC.fc (c_ended s 4 0) rfl), ?_⟩
    conv => whnf
    (repeat' (refine Zah ?_; conv => whnf))
    exact ⟨_, rfl, Rel.agg (Rels.imm rfl)⟩
  have h16 : ¬ 16 ≤ n := by rw [hn, hw] at hb; simpa using hb
  clear hb
  rw [if_neg h16]
  have hn' : IntKind.i64.wrap (f.regs.getD x.a.toNat 0) = n := by rw [hn]; exact hw
  refine Zau (Weak.list (tl := [(4, .bp (4, 0, 0) 0), (5, .bp (5, 0, 0) 0), (6, .bp (6, 0, 0) 0), (7, .bp (7, 0, 0) 0), (8, .bp (8, 0, 0) 0), (11, iv n)]) [((4, 0, 0), .old (4, 0, 0), Zam (Zav m)), ((5, 0, 0), .old (5, 0, 0), Zam (Zas s)), ((6, 0, 0), .old (6, 0, 0), Zam (Zar f)), ((7, 0, 0), .old (7, 0, 0), Zam (Zba x)), ((8, 0, 0), .old (8, 0, 0), Zam Zbz)] rfl (by rfl) ?_ (.old rfl (BLe.refl _) (.old rfl (BLe.refl _) (.old rfl (BLe.refl _) (.old rfl (BLe.refl _) (.old rfl (BLe.refl _) .nil)))))) ?_
  · exact .cons (.eq rfl) (.cons (.eq rfl) (.cons (.eq rfl) (.cons (.eq rfl) (.cons (.eq rfl) (.cons (.int hn') .nil)))))
  (repeat' ((fail_if_success (show AWp _ _ _ (Code.region 13 _ _) _ _)); (fail_if_success (show AWp _ _ _ (Code.region 14 _ _) _ _)); first | (refine Zab tok (by rfl) ?_; conv => whnf) | refine Zae rfl (fun hb => ?_) (fun hb => ?_)))
  · clear hb
    have hwi : ∀ (k : Nat) (l : List AV), l = Zar { frW f x.dst (s.cells.getD k 0) with at_ := IntKind.i64.wrap (f.at_ + 1) } → FC Tryz.prog 110 [.agg (Zas s), .agg l] (.agg (Zas (Zbo s (goOn (frW f x.dst (s.cells.getD k 0)))))) := fun k l e => by
      rw [e, show goOn (frW f x.dst (s.cells.getD k 0)) = { frW f x.dst (s.cells.getD k 0) with at_ := IntKind.i64.wrap (f.at_ + 1) } from by unfold goOn; rw [show (frW f x.dst (s.cells.getD k 0)).at_ = f.at_ from rfl, Zal (by omega) (by omega)]]
      exact Ze1 s _ hs
    clear hM hn hw hn'
    rcases (show n = 0 ∨ n = 1 ∨ n = 2 ∨ n = 3 ∨ n = 4 ∨ n = 5 ∨ n = 6 ∨ n = 7 ∨ n = 8 ∨ n = 9 ∨ n = 10 ∨ n = 11 ∨ n = 12 ∨ n = 13 ∨ n = 14 ∨ n = 15 by omega) with e | e | e | e | e | e | e | e | e | e | e | e | e | e | e | e
    all_goals subst e
    all_goals ((repeat' first | (refine Zat tok mix (by rfl) ?_; conv => whnf) | (refine @And.intro (Zaa _ _ _ _) _ ?_ ?_; rotate_left; (conv => whnf); rotate_right)); all_goals (try ((guard_target = Zaa _ _ _ _); refine Zaf ?_; (all_goals (try simp only [Zaa, kzz, kz11, kz12, maxL, Zad] at *)); all_goals omega)))
    all_goals refine .inl ⟨_, _, _, uG (QC.fc (c_With f x.dst _ hd.1 hd.2) rfl), ?_⟩
    all_goals (conv => whnf)
    all_goals (repeat' ((fail_if_success (show AWp _ _ _ (Code.region 16 _ _) _ _)); (fail_if_success (show AWp _ _ _ (Code.region 18 _ _) _ _)); (fail_if_success (show AWp _ _ _ (Code.region 23 _ _) _ _)); first | refine Zac ?_ | (refine Zab tok (by rfl) ?_; conv => whnf) | (refine Zag ?_; conv => whnf) | refine Zae rfl (fun hb => ?_) (fun hb => ?_)))
    all_goals (try (exfalso; rw [ho] at hb; cases hb; done))
    all_goals clear hb
    all_goals (repeat' first | refine Zac ?_ | (refine Zab tok (by rfl) ?_; conv => whnf))
    all_goals refine .inl ⟨_, _, _, uG (QC.fc (hwi _ _ rfl) rfl), ?_⟩
    all_goals (conv => whnf)
    all_goals (repeat' (refine Zah ?_; conv => whnf))
    all_goals exact ⟨_, rfl, Rel.agg (Rels.imm rfl)⟩
  · exfalso; rw [ho] at hb; cases hb
end Go.Proofs.YtoelbgjpmpoolaaGreat
namespace Go.Proofs.YtoelbgjpmpoolaaGreat
open Go Dv
set_option maxRecDepth 10000
set_option linter.unusedSimpArgs false
def stM (s : Mach) (k : Nat) (v : Int) : Mach := { s with cells := s.cells.set k v }
theorem wkc {l : List Int} {v : Int} {k j : Nat} (h : k ≠ j) : Wk (cw l j) (cw (l.set k v) j) := by
  unfold cw; rw [getD_set, if_neg (fun e => h e.1)]; exact .refl
theorem wks {l : List Int} {v : Int} {k : Nat} (h : k < l.length) : Wk (.int .u16 v) (cw (l.set k v) k) := by
  unfold cw; rw [getD_set, if_pos ⟨rfl, h⟩]; exact .refl
set_option maxHeartbeats 4000000 in
theorem c_ins10 (m : Zaj) (s : Mach) (f : Za2) (x : Ins) (hs : 0 < s.stack.length) (ho : x.op = 10) (hb' : 0 ≤ x.b ∧ x.b < f.regs.length) (hcl : s.cells.length = 16) (ha : 0 ≤ x.a ∧ x.a < f.regs.length) (h0 : 0 ≤ f.at_) (h1 : f.at_ < 1000000) : FCins m s f x := by
  refine Zao tok Tryz.func106 rfl (by decide +kernel) (Nat.le_of_ble_eq_true rfl) ?_
  refine Zaw 2 (fun hl => ?_)
  have hreg : 0 ≤ f.regs.getD x.a.toNat 0 ∧ f.regs.getD x.a.toNat 0 ≤ 65535 := (hl.2.2.2.1.2 x.a.toNat (by omega)).1
  clear hl
  have hmx : maxL = 4294967296 := rfl
  have hgen : ∃ n, f.regs.getD x.a.toNat 0 = n := ⟨_, rfl⟩
  obtain ⟨n, hn⟩ := hgen
  have hM : insM m s f x = if 16 ≤ n then endM s 4 0 else Zbo (stM s n.toNat (f.regs.getD x.b.toNat 0)) (goOn f) := by
    unfold insM cellN
    rw [if_neg (by omega), if_neg (by omega), if_neg (by omega), if_pos ho, hn]; rfl
  rw [hM]
  rw [hn] at hreg
  have hw : IntKind.i64.wrap n = n := Zal (by omega) (by omega)
  (repeat' ((fail_if_success (show AWp _ _ _ (Code.region 2 _ _) _ _)); (fail_if_success (show AWp _ _ _ (Code.region 4 _ _) _ _)); (fail_if_success (show AWp _ _ _ (Code.region 9 _ _) _ _)); (fail_if_success (show AWp _ _ _ (Code.region 15 _ _) _ _)); first | refine Zac ?_ | (refine Zab tok (by rfl) ?_; conv => whnf) | (refine Zag ?_; conv => whnf) | refine Zae rfl (fun hb => ?_) (fun hb => ?_)))
  all_goals (try (exfalso; simp_all; done))
  ((repeat' ((fail_if_success (show AWp _ _ _ (Code.region 11 _ _) _ _)); (fail_if_success (show AWp _ _ _ (Code.region 12 _ _) _ _)); first | refine Zac ?_ | (refine Zab tok (by rfl) ?_; conv => whnf) | (refine Zag ?_; conv => whnf) | refine Zae rfl (fun hb => ?_) (fun hb => ?_) | (refine @And.intro (Zaa _ _ _ _) _ ?_ ?_; rotate_left; (conv => whnf); rotate_right))); all_goals (try ((guard_target = Zaa _ _ _ _); refine Zaf ?_; (all_goals (try simp only [Zaa, kzz, kz11, kz12, maxL, Zad] at *)); all_goals omega)))
  · have h16 : 16 ≤ n := by rw [hn, hw] at hb; simpa using hb
    rw [if_pos h16]
    (repeat' (refine Zab tok (by rfl) ?_; conv => whnf))
    refine .inl ⟨_, _, _, uG (QC.fc (c_ended s 4 0) rfl), ?_⟩
    conv => whnf
    (repeat' (refine Zah ?_; conv => whnf))
    exact ⟨_, rfl, Rel.agg (Rels.imm rfl)⟩
  have h16 : ¬ 16 ≤ n := by rw [hn, hw] at hb; simpa using hb
  clear hb
  rw [if_neg h16]
  have hn' : IntKind.i64.wrap (f.regs.getD x.a.toNat 0) = n := by rw [hn]; exact hw
  refine Zau (Weak.list (tl := [(4, .bp (4, 0, 0) 0), (5, .bp (5, 0, 0) 0), (6, .bp (6, 0, 0) 0), (7, .bp (7, 0, 0) 0), (8, .bp (8, 0, 0) 0), (11, iv n)]) [((4, 0, 0), .old (4, 0, 0), Zam (Zav m)), ((5, 0, 0), .old (5, 0, 0), Zam (Zas s)), ((6, 0, 0), .old (6, 0, 0), Zam (Zar f)), ((7, 0, 0), .old (7, 0, 0), Zam (Zba x)), ((8, 0, 0), .old (8, 0, 0), Zam Zbz)] rfl (by rfl) ?_ (.old rfl (BLe.refl _) (.old rfl (BLe.refl _) (.old rfl (BLe.refl _) (.old rfl (BLe.refl _) (.old rfl (BLe.refl _) .nil)))))) ?_
  · exact .cons (.eq rfl) (.cons (.eq rfl) (.cons (.eq rfl) (.cons (.eq rfl) (.cons (.eq rfl) (.cons (.int hn') .nil)))))
  (repeat' ((fail_if_success (show AWp _ _ _ (Code.region 13 _ _) _ _)); (fail_if_success (show AWp _ _ _ (Code.region 14 _ _) _ _)); first | (refine Zab tok (by rfl) ?_; conv => whnf) | refine Zae rfl (fun hb => ?_) (fun hb => ?_)))
  · exfalso; rw [ho] at hb; cases hb
  · clear hb
    have hwi : ∀ (k : Nat), FC Tryz.prog 110 [.agg (Zas (stM s k (f.regs.getD x.b.toNat 0))), .agg (Zar { f with at_ := IntKind.i64.wrap (f.at_ + 1) })] (.agg (Zas (Zbo (stM s k (f.regs.getD x.b.toNat 0)) (goOn f)))) := fun k => by
      rw [show goOn f = { f with at_ := IntKind.i64.wrap (f.at_ + 1) } from by unfold goOn; rw [Zal (by omega) (by omega)]]
      exact Ze1 _ _ hs
    clear hM hw hn'
    rcases (show n = 0 ∨ n = 1 ∨ n = 2 ∨ n = 3 ∨ n = 4 ∨ n = 5 ∨ n = 6 ∨ n = 7 ∨ n = 8 ∨ n = 9 ∨ n = 10 ∨ n = 11 ∨ n = 12 ∨ n = 13 ∨ n = 14 ∨ n = 15 by omega) with e | e | e | e | e | e | e | e | e | e | e | e | e | e | e | e
    all_goals subst e
    all_goals ((repeat' ((fail_if_success (show AWp _ _ _ (Code.region 15 _ _) _ _)); first | refine Zac ?_ | (refine Zab tok (by rfl) ?_; conv => whnf) | (refine @And.intro (Zaa _ _ _ _) _ ?_ ?_; rotate_left; (conv => whnf); rotate_right))); all_goals (try ((guard_target = Zaa _ _ _ _); refine Zaf ?_; (all_goals (try simp only [Zaa, kzz, kz11, kz12, maxL, Zad] at *)); all_goals omega)))
    · refine Zau (Weak.list (tl := [(4, .bp (4, 0, 0) 0), (5, .bp (5, 0, 0) 0), (6, .bp (6, 0, 0) 0), (7, .bp (7, 0, 0) 0), (8, .bp (8, 0, 0) 0)]) [((4, 0, 0), .old (4, 0, 0), Zam (Zav m)), ((5, 0, 0), .old (5, 0, 0), Zam (Zas (stM s 0 (f.regs.getD x.b.toNat 0)))), ((6, 0, 0), .old (6, 0, 0), Zam (Zar f)), ((7, 0, 0), .old (7, 0, 0), Zam (Zba x)), ((8, 0, 0), .old (8, 0, 0), Zam Zbz)] rfl (by rfl) ?_ (.old rfl (BLe.refl _) (.old rfl (BLe.rowW (Nat.le_refl _) (ltS (.cons .refl (.cons (wks (by omega)) (.cons (wkc (by decide)) (.cons (wkc (by decide)) (.cons (wkc (by decide)) (.cons (wkc (by decide)) (.cons (wkc (by decide)) (.cons (wkc (by decide)) (.cons (wkc (by decide)) (.cons (wkc (by decide)) (.cons (wkc (by decide)) (.cons (wkc (by decide)) (.cons (wkc (by decide)) (.cons (wkc (by decide)) (.cons (wkc (by decide)) (.cons (wkc (by decide)) (.cons (wkc (by decide)) (Wks.refl _)))))))))))))))))) lt0)) (.old rfl (BLe.refl _) (.old rfl (BLe.refl _) (.old rfl (BLe.refl _) .nil)))))) ?_
      · ((repeat' first | exact TLes.nil | refine TLes.cons (TLe.eq rfl) ?_); skip)
      (repeat' ((fail_if_success (show AWp _ _ _ (Code.region 16 _ _) _ _)); (fail_if_success (show AWp _ _ _ (Code.region 18 _ _) _ _)); (fail_if_success (show AWp _ _ _ (Code.region 23 _ _) _ _)); first | refine Zac ?_ | (refine Zab tok (by rfl) ?_; conv => whnf) | (refine Zag ?_; conv => whnf) | refine Zae rfl (fun hb => ?_) (fun hb => ?_)))
      · exfalso; rw [ho] at hb; cases hb
      · exfalso; rw [ho] at hb; cases hb
      clear hb
      (repeat' first | refine Zac ?_ | (refine Zab tok (by rfl) ?_; conv => whnf))
      refine .inl ⟨_, _, _, uG (QC.fc (hwi 0) rfl), ?_⟩
      conv => whnf
      (repeat' (refine Zah ?_; conv => whnf))
      exact ⟨_, rfl, Rel.agg (Rels.imm rfl)⟩
    · refine Zau (Weak.list (tl := [(4, .bp (4, 0, 0) 0), (5, .bp (5, 0, 0) 0), (6, .bp (6, 0, 0) 0), (7, .bp (7, 0, 0) 0), (8, .bp (8, 0, 0) 0)]) [((4, 0, 0), .old (4, 0, 0), Zam (Zav m)), ((5, 0, 0), .old (5, 0, 0), Zam (Zas (stM s 1 (f.regs.getD x.b.toNat 0)))), ((6, 0, 0), .old (6, 0, 0), Zam (Zar f)), ((7, 0, 0), .old (7, 0, 0), Zam (Zba x)), ((8, 0, 0), .old (8, 0, 0), Zam Zbz)] rfl (by rfl) ?_ (.old rfl (BLe.refl _) (.old rfl (BLe.rowW (Nat.le_refl _) (ltS (.cons .refl (.cons (wkc (by decide)) (.cons (wks (by omega)) (.cons (wkc (by decide)) (.cons (wkc (by decide)) (.cons (wkc (by decide)) (.cons (wkc (by decide)) (.cons (wkc (by decide)) (.cons (wkc (by decide)) (.cons (wkc (by decide)) (.cons (wkc (by decide)) (.cons (wkc (by decide)) (.cons (wkc (by decide)) (.cons (wkc (by decide)) (.cons (wkc (by decide)) (.cons (wkc (by decide)) (.cons (wkc (by decide)) (Wks.refl _)))))))))))))))))) lt0)) (.old rfl (BLe.refl _) (.old rfl (BLe.refl _) (.old rfl (BLe.refl _) .nil)))))) ?_
      · ((repeat' first | exact TLes.nil | refine TLes.cons (TLe.eq rfl) ?_); skip)
      (repeat' ((fail_if_success (show AWp _ _ _ (Code.region 16 _ _) _ _)); (fail_if_success (show AWp _ _ _ (Code.region 18 _ _) _ _)); (fail_if_success (show AWp _ _ _ (Code.region 23 _ _) _ _)); first | refine Zac ?_ | (refine Zab tok (by rfl) ?_; conv => whnf) | (refine Zag ?_; conv => whnf) | refine Zae rfl (fun hb => ?_) (fun hb => ?_)))
      · exfalso; rw [ho] at hb; cases hb
      · exfalso; rw [ho] at hb; cases hb
      clear hb
      (repeat' first | refine Zac ?_ | (refine Zab tok (by rfl) ?_; conv => whnf))
      refine .inl ⟨_, _, _, uG (QC.fc (hwi 1) rfl), ?_⟩
      conv => whnf
      (repeat' (refine Zah ?_; conv => whnf))
      exact ⟨_, rfl, Rel.agg (Rels.imm rfl)⟩
    · refine Zau (Weak.list (tl := [(4, .bp (4, 0, 0) 0), (5, .bp (5, 0, 0) 0), (6, .bp (6, 0, 0) 0), (7, .bp (7, 0, 0) 0), (8, .bp (8, 0, 0) 0)]) [((4, 0, 0), .old (4, 0, 0), Zam (Zav m)), ((5, 0, 0), .old (5, 0, 0), Zam (Zas (stM s 2 (f.regs.getD x.b.toNat 0)))), ((6, 0, 0), .old (6, 0, 0), Zam (Zar f)), ((7, 0, 0), .old (7, 0, 0), Zam (Zba x)), ((8, 0, 0), .old (8, 0, 0), Zam Zbz)] rfl (by rfl) ?_ (.old rfl (BLe.refl _) (.old rfl (BLe.rowW (Nat.le_refl _) (ltS (.cons .refl (.cons (wkc (by decide)) (.cons (wkc (by decide)) (.cons (wks (by omega)) (.cons (wkc (by decide)) (.cons (wkc (by decide)) (.cons (wkc (by decide)) (.cons (wkc (by decide)) (.cons (wkc (by decide)) (.cons (wkc (by decide)) (.cons (wkc (by decide)) (.cons (wkc (by decide)) (.cons (wkc (by decide)) (.cons (wkc (by decide)) (.cons (wkc (by decide)) (.cons (wkc (by decide)) (.cons (wkc (by decide)) (Wks.refl _)))))))))))))))))) lt0)) (.old rfl (BLe.refl _) (.old rfl (BLe.refl _) (.old rfl (BLe.refl _) .nil)))))) ?_
      · ((repeat' first | exact TLes.nil | refine TLes.cons (TLe.eq rfl) ?_); skip)
      (repeat' ((fail_if_success (show AWp _ _ _ (Code.region 16 _ _) _ _)); (fail_if_success (show AWp _ _ _ (Code.region 18 _ _) _ _)); (fail_if_success (show AWp _ _ _ (Code.region 23 _ _) _ _)); first | refine Zac ?_ | (refine Zab tok (by rfl) ?_; conv => whnf) | (refine Zag ?_; conv => whnf) | refine Zae rfl (fun hb => ?_) (fun hb => ?_)))
      · exfalso; rw [ho] at hb; cases hb
      · exfalso; rw [ho] at hb; cases hb
      clear hb
      (repeat' first | refine Zac ?_ | (refine Zab tok (by rfl) ?_; conv => whnf))
      refine .inl ⟨_, _, _, uG (QC.fc (hwi 2) rfl), ?_⟩
      conv => whnf
      (repeat' (refine Zah ?_; conv => whnf))
      exact ⟨_, rfl, Rel.agg (Rels.imm rfl)⟩
    · refine Zau (Weak.list (tl := [(4, .bp (4, 0, 0) 0), (5, .bp (5, 0, 0) 0), (6, .bp (6, 0, 0) 0), (7, .bp (7, 0, 0) 0), (8, .bp (8, 0, 0) 0)]) [((4, 0, 0), .old (4, 0, 0), Zam (Zav m)), ((5, 0, 0), .old (5, 0, 0), Zam (Zas (stM s 3 (f.regs.getD x.b.toNat 0)))), ((6, 0, 0), .old (6, 0, 0), Zam (Zar f)), ((7, 0, 0), .old (7, 0, 0), Zam (Zba x)), ((8, 0, 0), .old (8, 0, 0), Zam Zbz)] rfl (by rfl) ?_ (.old rfl (BLe.refl _) (.old rfl (BLe.rowW (Nat.le_refl _) (ltS (.cons .refl (.cons (wkc (by decide)) (.cons (wkc (by decide)) (.cons (wkc (by decide)) (.cons (wks (by omega)) (.cons (wkc (by decide)) (.cons (wkc (by decide)) (.cons (wkc (by decide)) (.cons (wkc (by decide)) (.cons (wkc (by decide)) (.cons (wkc (by decide)) (.cons (wkc (by decide)) (.cons (wkc (by decide)) (.cons (wkc (by decide)) (.cons (wkc (by decide)) (.cons (wkc (by decide)) (.cons (wkc (by decide)) (Wks.refl _)))))))))))))))))) lt0)) (.old rfl (BLe.refl _) (.old rfl (BLe.refl _) (.old rfl (BLe.refl _) .nil)))))) ?_
      · ((repeat' first | exact TLes.nil | refine TLes.cons (TLe.eq rfl) ?_); skip)
      (repeat' ((fail_if_success (show AWp _ _ _ (Code.region 16 _ _) _ _)); (fail_if_success (show AWp _ _ _ (Code.region 18 _ _) _ _)); (fail_if_success (show AWp _ _ _ (Code.region 23 _ _) _ _)); first | refine Zac ?_ | (refine Zab tok (by rfl) ?_; conv => whnf) | (refine Zag ?_; conv => whnf) | refine Zae rfl (fun hb => ?_) (fun hb => ?_)))
      · exfalso; rw [ho] at hb; cases hb
      · exfalso; rw [ho] at hb; cases hb
      clear hb
      (repeat' first | refine Zac ?_ | (refine Zab tok (by rfl) ?_; conv => whnf))
      refine .inl ⟨_, _, _, uG (QC.fc (hwi 3) rfl), ?_⟩
      conv => whnf
      (repeat' (refine Zah ?_; conv => whnf))
      exact ⟨_, rfl, Rel.agg (Rels.imm rfl)⟩
    · refine Zau (Weak.list (tl := [(4, .bp (4, 0, 0) 0), (5, .bp (5, 0, 0) 0), (6, .bp (6, 0, 0) 0), (7, .bp (7, 0, 0) 0), (8, .bp (8, 0, 0) 0)]) [((4, 0, 0), .old (4, 0, 0), Zam (Zav m)), ((5, 0, 0), .old (5, 0, 0), Zam (Zas (stM s 4 (f.regs.getD x.b.toNat 0)))), ((6, 0, 0), .old (6, 0, 0), Zam (Zar f)), ((7, 0, 0), .old (7, 0, 0), Zam (Zba x)), ((8, 0, 0), .old (8, 0, 0), Zam Zbz)] rfl (by rfl) ?_ (.old rfl (BLe.refl _) (.old rfl (BLe.rowW (Nat.le_refl _) (ltS (.cons .refl (.cons (wkc (by decide)) (.cons (wkc (by decide)) (.cons (wkc (by decide)) (.cons (wkc (by decide)) (.cons (wks (by omega)) (.cons (wkc (by decide)) (.cons (wkc (by decide)) (.cons (wkc (by decide)) (.cons (wkc (by decide)) (.cons (wkc (by decide)) (.cons (wkc (by decide)) (.cons (wkc (by decide)) (.cons (wkc (by decide)) (.cons (wkc (by decide)) (.cons (wkc (by decide)) (.cons (wkc (by decide)) (Wks.refl _)))))))))))))))))) lt0)) (.old rfl (BLe.refl _) (.old rfl (BLe.refl _) (.old rfl (BLe.refl _) .nil)))))) ?_
      · ((repeat' first | exact TLes.nil | refine TLes.cons (TLe.eq rfl) ?_); skip)
      (repeat' ((fail_if_success (show AWp _ _ _ (Code.region 16 _ _) _ _)); (fail_if_success (show AWp _ _ _ (Code.region 18 _ _) _ _)); (fail_if_success (show AWp _ _ _ (Code.region 23 _ _) _ _)); first | refine Zac ?_ | (refine Zab tok (by rfl) ?_; conv => whnf) | (refine Zag ?_; conv => whnf) | refine Zae rfl (fun hb => ?_) (fun hb => ?_)))
      · exfalso; rw [ho] at hb; cases hb
      · exfalso; rw [ho] at hb; cases hb
      clear hb
      (repeat' first | refine Zac ?_ | (refine Zab tok (by rfl) ?_; conv => whnf))
      refine .inl ⟨_, _, _, uG (QC.fc (hwi 4) rfl), ?_⟩
      conv => whnf
      (repeat' (refine Zah ?_; conv => whnf))
      exact ⟨_, rfl, Rel.agg (Rels.imm rfl)⟩
    · refine Zau (Weak.list (tl := [(4, .bp (4, 0, 0) 0), (5, .bp (5, 0, 0) 0), (6, .bp (6, 0, 0) 0), (7, .bp (7, 0, 0) 0), (8, .bp (8, 0, 0) 0)]) [((4, 0, 0), .old (4, 0, 0), Zam (Zav m)), ((5, 0, 0), .old (5, 0, 0), Zam (Zas (stM s 5 (f.regs.getD x.b.toNat 0)))), ((6, 0, 0), .old (6, 0, 0), Zam (Zar f)), ((7, 0, 0), .old (7, 0, 0), Zam (Zba x)), ((8, 0, 0), .old (8, 0, 0), Zam Zbz)] rfl (by rfl) ?_ (.old rfl (BLe.refl _) (.old rfl (BLe.rowW (Nat.le_refl _) (ltS (.cons .refl (.cons (wkc (by decide)) (.cons (wkc (by decide)) (.cons (wkc (by decide)) (.cons (wkc (by decide)) (.cons (wkc (by decide)) (.cons (wks (by omega)) (.cons (wkc (by decide)) (.cons (wkc (by decide)) (.cons (wkc (by decide)) (.cons (wkc (by decide)) (.cons (wkc (by decide)) (.cons (wkc (by decide)) (.cons (wkc (by decide)) (.cons (wkc (by decide)) (.cons (wkc (by decide)) (.cons (wkc (by decide)) (Wks.refl _)))))))))))))))))) lt0)) (.old rfl (BLe.refl _) (.old rfl (BLe.refl _) (.old rfl (BLe.refl _) .nil)))))) ?_
      · ((repeat' first | exact TLes.nil | refine TLes.cons (TLe.eq rfl) ?_); skip)
      (repeat' ((fail_if_success (show AWp _ _ _ (Code.region 16 _ _) _ _)); (fail_if_success (show AWp _ _ _ (Code.region 18 _ _) _ _)); (fail_if_success (show AWp _ _ _ (Code.region 23 _ _) _ _)); first | refine Zac ?_ | (refine Zab tok (by rfl) ?_; conv => whnf) | (refine Zag ?_; conv => whnf) | refine Zae rfl (fun hb => ?_) (fun hb => ?_)))
      · exfalso; rw [ho] at hb; cases hb
      · exfalso; rw [ho] at hb; cases hb
      clear hb
      (repeat' first | refine Zac ?_ | (refine Zab tok (by rfl) ?_; conv => whnf))
      refine .inl ⟨_, _, _, uG (QC.fc (hwi 5) rfl), ?_⟩
      conv => whnf
      (repeat' (refine Zah ?_; conv => whnf))
      exact ⟨_, rfl, Rel.agg (Rels.imm rfl)⟩
    · refine Zau (Weak.list (tl := [(4, .bp (4, 0, 0) 0), (5, .bp (5, 0, 0) 0), (6, .bp (6, 0, 0) 0), (7, .bp (7, 0, 0) 0), (8, .bp (8, 0, 0) 0)]) [((4, 0, 0), .old (4, 0, 0), Zam (Zav m)), ((5, 0, 0), .old (5, 0, 0), Zam (Zas (stM s 6 (f.regs.getD x.b.toNat 0)))), ((6, 0, 0), .old (6, 0, 0), Zam (Zar f)), ((7, 0, 0), .old (7, 0, 0), Zam (Zba x)), ((8, 0, 0), .old (8, 0, 0), Zam Zbz)] rfl (by rfl) ?_ (.old rfl (BLe.refl _) (.old rfl (BLe.rowW (Nat.le_refl _) (ltS (.cons .refl (.cons (wkc (by decide)) (.cons (wkc (by decide)) (.cons (wkc (by decide)) (.cons (wkc (by decide)) (.cons (wkc (by decide)) (.cons (wkc (by decide)) (.cons (wks (by omega)) (.cons (wkc (by decide)) (.cons (wkc (by decide)) (.cons (wkc (by decide)) (.cons (wkc (by decide)) (.cons (wkc (by decide)) (.cons (wkc (by decide)) (.cons (wkc (by decide)) (.cons (wkc (by decide)) (.cons (wkc (by decide)) (Wks.refl _)))))))))))))))))) lt0)) (.old rfl (BLe.refl _) (.old rfl (BLe.refl _) (.old rfl (BLe.refl _) .nil)))))) ?_
      · ((repeat' first | exact TLes.nil | refine TLes.cons (TLe.eq rfl) ?_); skip)
      (repeat' ((fail_if_success (show AWp _ _ _ (Code.region 16 _ _) _ _)); (fail_if_success (show AWp _ _ _ (Code.region 18 _ _) _ _)); (fail_if_success (show AWp _ _ _ (Code.region 23 _ _) _ _)); first | refine Zac ?_ | (refine Zab tok (by rfl) ?_; conv => whnf) | (refine Zag ?_; conv => whnf) | refine Zae rfl (fun hb => ?_) (fun hb => ?_)))
      · exfalso; rw [ho] at hb; cases hb
      · exfalso; rw [ho] at hb; cases hb
      clear hb
      (repeat' first | refine Zac ?_ | (refine Zab tok (by rfl) ?_; conv => whnf))
      refine .inl ⟨_, _, _, uG (QC.fc (hwi 6) rfl), ?_⟩
      conv => whnf
      (repeat' (refine Zah ?_; conv => whnf))
      exact ⟨_, rfl, Rel.agg (Rels.imm rfl)⟩
    · refine Zau (Weak.list (tl := [(4, .bp (4, 0, 0) 0), (5, .bp (5, 0, 0) 0), (6, .bp (6, 0, 0) 0), (7, .bp (7, 0, 0) 0), (8, .bp (8, 0, 0) 0)]) [((4, 0, 0), .old (4, 0, 0), Zam (Zav m)), ((5, 0, 0), .old (5, 0, 0), Zam (Zas (stM s 7 (f.regs.getD x.b.toNat 0)))), ((6, 0, 0), .old (6, 0, 0), Zam (Zar f)), ((7, 0, 0), .old (7, 0, 0), Zam (Zba x)), ((8, 0, 0), .old (8, 0, 0), Zam Zbz)] rfl (by rfl) ?_ (.old rfl (BLe.refl _) (.old rfl (BLe.rowW (Nat.le_refl _) (ltS (.cons .refl (.cons (wkc (by decide)) (.cons (wkc (by decide)) (.cons (wkc (by decide)) (.cons (wkc (by decide)) (.cons (wkc (by decide)) (.cons (wkc (by decide)) (.cons (wkc (by decide)) (.cons (wks (by omega)) (.cons (wkc (by decide)) (.cons (wkc (by decide)) (.cons (wkc (by decide)) (.cons (wkc (by decide)) (.cons (wkc (by decide)) (.cons (wkc (by decide)) (.cons (wkc (by decide)) (.cons (wkc (by decide)) (Wks.refl _)))))))))))))))))) lt0)) (.old rfl (BLe.refl _) (.old rfl (BLe.refl _) (.old rfl (BLe.refl _) .nil)))))) ?_
      · ((repeat' first | exact TLes.nil | refine TLes.cons (TLe.eq rfl) ?_); skip)
      (repeat' ((fail_if_success (show AWp _ _ _ (Code.region 16 _ _) _ _)); (fail_if_success (show AWp _ _ _ (Code.region 18 _ _) _ _)); (fail_if_success (show AWp _ _ _ (Code.region 23 _ _) _ _)); first | refine Zac ?_ | (refine Zab tok (by rfl) ?_; conv => whnf) | (refine Zag ?_; conv => whnf) | refine Zae rfl (fun hb => ?_) (fun hb => ?_)))
      · exfalso; rw [ho] at hb; cases hb
      · exfalso; rw [ho] at hb; cases hb
      clear hb
      (repeat' first | refine Zac ?_ | (refine Zab tok (by rfl) ?_; conv => whnf))
      refine .inl ⟨_, _, _, uG (QC.fc (hwi 7) rfl), ?_⟩
      conv => whnf
      (repeat' (refine Zah ?_; conv => whnf))
      exact ⟨_, rfl, Rel.agg (Rels.imm rfl)⟩
    · refine Zau (Weak.list (tl := [(4, .bp (4, 0, 0) 0), (5, .bp (5, 0, 0) 0), (6, .bp (6, 0, 0) 0), (7, .bp (7, 0, 0) 0), (8, .bp (8, 0, 0) 0)]) [((4, 0, 0), .old (4, 0, 0), Zam (Zav m)), ((5, 0, 0), .old (5, 0, 0), Zam (Zas (stM s 8 (f.regs.getD x.b.toNat 0)))), ((6, 0, 0), .old (6, 0, 0), Zam (Zar f)), ((7, 0, 0), .old (7, 0, 0), Zam (Zba x)), ((8, 0, 0), .old (8, 0, 0), Zam Zbz)] rfl (by rfl) ?_ (.old rfl (BLe.refl _) (.old rfl (BLe.rowW (Nat.le_refl _) (ltS (.cons .refl (.cons (wkc (by decide)) (.cons (wkc (by decide)) (.cons (wkc (by decide)) (.cons (wkc (by decide)) (.cons (wkc (by decide)) (.cons (wkc (by decide)) (.cons (wkc (by decide)) (.cons (wkc (by decide)) (.cons (wks (by omega)) (.cons (wkc (by decide)) (.cons (wkc (by decide)) (.cons (wkc (by decide)) (.cons (wkc (by decide)) (.cons (wkc (by decide)) (.cons (wkc (by decide)) (.cons (wkc (by decide)) (Wks.refl _)))))))))))))))))) lt0)) (.old rfl (BLe.refl _) (.old rfl (BLe.refl _) (.old rfl (BLe.refl _) .nil)))))) ?_
      · ((repeat' first | exact TLes.nil | refine TLes.cons (TLe.eq rfl) ?_); skip)
      (repeat' ((fail_if_success (show AWp _ _ _ (Code.region 16 _ _) _ _)); (fail_if_success (show AWp _ _ _ (Code.region 18 _ _) _ _)); (fail_if_success (show AWp _ _ _ (Code.region 23 _ _) _ _)); first | refine Zac ?_ | (refine Zab tok (by rfl) ?_; conv => whnf) | (refine Zag ?_; conv => whnf) | refine Zae rfl (fun hb => ?_) (fun hb => ?_)))
      · exfalso; rw [ho] at hb; cases hb
      · exfalso; rw [ho] at hb; cases hb
      clear hb
      (repeat' first | refine Zac ?_ | (refine Zab tok (by rfl) ?_; conv => whnf))
      refine .inl ⟨_, _, _, uG (QC.fc (hwi 8) rfl), ?_⟩
      conv => whnf
      (repeat' (refine Zah ?_; conv => whnf))
      exact ⟨_, rfl, Rel.agg (Rels.imm rfl)⟩
    · refine Zau (Weak.list (tl := [(4, .bp (4, 0, 0) 0), (5, .bp (5, 0, 0) 0), (6, .bp (6, 0, 0) 0), (7, .bp (7, 0, 0) 0), (8, .bp (8, 0, 0) 0)]) [((4, 0, 0), .old (4, 0, 0), Zam (Zav m)), ((5, 0, 0), .old (5, 0, 0), Zam (Zas (stM s 9 (f.regs.getD x.b.toNat 0)))), ((6, 0, 0), .old (6, 0, 0), Zam (Zar f)), ((7, 0, 0), .old (7, 0, 0), Zam (Zba x)), ((8, 0, 0), .old (8, 0, 0), Zam Zbz)] rfl (by rfl) ?_ (.old rfl (BLe.refl _) (.old rfl (BLe.rowW (Nat.le_refl _) (ltS (.cons .refl (.cons (wkc (by decide)) (.cons (wkc (by decide)) (.cons (wkc (by decide)) (.cons (wkc (by decide)) (.cons (wkc (by decide)) (.cons (wkc (by decide)) (.cons (wkc (by decide)) (.cons (wkc (by decide)) (.cons (wkc (by decide)) (.cons (wks (by omega)) (.cons (wkc (by decide)) (.cons (wkc (by decide)) (.cons (wkc (by decide)) (.cons (wkc (by decide)) (.cons (wkc (by decide)) (.cons (wkc (by decide)) (Wks.refl _)))))))))))))))))) lt0)) (.old rfl (BLe.refl _) (.old rfl (BLe.refl _) (.old rfl (BLe.refl _) .nil)))))) ?_
      · ((repeat' first | exact TLes.nil | refine TLes.cons (TLe.eq rfl) ?_); skip)
      (repeat' ((fail_if_success (show AWp _ _ _ (Code.region 16 _ _) _ _)); (fail_if_success (show AWp _ _ _ (Code.region 18 _ _) _ _)); (fail_if_success (show AWp _ _ _ (Code.region 23 _ _) _ _)); first | refine Zac ?_ | (refine Zab tok (by rfl) ?_; conv => whnf) | (refine Zag ?_; conv => whnf) | refine Zae rfl (fun hb => ?_) (fun hb => ?_)))
      · exfalso; rw [ho] at hb; cases hb
      · exfalso; rw [ho] at hb; cases hb
      clear hb
      (repeat' first | refine Zac ?_ | (refine Zab tok (by rfl) ?_; conv => whnf))
      refine .inl ⟨_, _, _, uG (QC.fc (hwi 9) rfl), ?_⟩
      conv => whnf
      (repeat' (refine Zah ?_; conv => whnf))
      exact ⟨_, rfl, Rel.agg (Rels.imm rfl)⟩
    · refine Zau (Weak.list (tl := [(4, .bp (4, 0, 0) 0), (5, .bp (5, 0, 0) 0), (6, .bp (6, 0, 0) 0), (7, .bp (7, 0, 0) 0), (8, .bp (8, 0, 0) 0)]) [((4, 0, 0), .old (4, 0, 0), Zam (Zav m)), ((5, 0, 0), .old (5, 0, 0), Zam (Zas (stM s 10 (f.regs.getD x.b.toNat 0)))), ((6, 0, 0), .old (6, 0, 0), Zam (Zar f)), ((7, 0, 0), .old (7, 0, 0), Zam (Zba x)), ((8, 0, 0), .old (8, 0, 0), Zam Zbz)] rfl (by rfl) ?_ (.old rfl (BLe.refl _) (.old rfl (BLe.rowW (Nat.le_refl _) (ltS (.cons .refl (.cons (wkc (by decide)) (.cons (wkc (by decide)) (.cons (wkc (by decide)) (.cons (wkc (by decide)) (.cons (wkc (by decide)) (.cons (wkc (by decide)) (.cons (wkc (by decide)) (.cons (wkc (by decide)) (.cons (wkc (by decide)) (.cons (wkc (by decide)) (.cons (wks (by omega)) (.cons (wkc (by decide)) (.cons (wkc (by decide)) (.cons (wkc (by decide)) (.cons (wkc (by decide)) (.cons (wkc (by decide)) (Wks.refl _)))))))))))))))))) lt0)) (.old rfl (BLe.refl _) (.old rfl (BLe.refl _) (.old rfl (BLe.refl _) .nil)))))) ?_
      · ((repeat' first | exact TLes.nil | refine TLes.cons (TLe.eq rfl) ?_); skip)
      (repeat' ((fail_if_success (show AWp _ _ _ (Code.region 16 _ _) _ _)); (fail_if_success (show AWp _ _ _ (Code.region 18 _ _) _ _)); (fail_if_success (show AWp _ _ _ (Code.region 23 _ _) _ _)); first | refine Zac ?_ | (refine Zab tok (by rfl) ?_; conv => whnf) | (refine Zag ?_; conv => whnf) | refine Zae rfl (fun hb => ?_) (fun hb => ?_)))
      · exfalso; rw [ho] at hb; cases hb
      · exfalso; rw [ho] at hb; cases hb
      clear hb
      (repeat' first | refine Zac ?_ | (refine Zab tok (by rfl) ?_; conv => whnf))
      refine .inl ⟨_, _, _, uG (QC.fc (hwi 10) rfl), ?_⟩
      conv => whnf
      (repeat' (refine Zah ?_; conv => whnf))
      exact ⟨_, rfl, Rel.agg (Rels.imm rfl)⟩
    · refine Zau (Weak.list (tl := [(4, .bp (4, 0, 0) 0), (5, .bp (5, 0, 0) 0), (6, .bp (6, 0, 0) 0), (7, .bp (7, 0, 0) 0), (8, .bp (8, 0, 0) 0)]) [((4, 0, 0), .old (4, 0, 0), Zam (Zav m)), ((5, 0, 0), .old (5, 0, 0), Zam (Zas (stM s 11 (f.regs.getD x.b.toNat 0)))), ((6, 0, 0), .old (6, 0, 0), Zam (Zar f)), ((7, 0, 0), .old (7, 0, 0), Zam (Zba x)), ((8, 0, 0), .old (8, 0, 0), Zam Zbz)] rfl (by rfl) ?_ (.old rfl (BLe.refl _) (.old rfl (BLe.rowW (Nat.le_refl _) (ltS (.cons .refl (.cons (wkc (by decide)) (.cons (wkc (by decide)) (.cons (wkc (by decide)) (.cons (wkc (by decide)) (.cons (wkc (by decide)) (.cons (wkc (by decide)) (.cons (wkc (by decide)) (.cons (wkc (by decide)) (.cons (wkc (by decide)) (.cons (wkc (by decide)) (.cons (wkc (by decide)) (.cons (wks (by omega)) (.cons (wkc (by decide)) (.cons (wkc (by decide)) (.cons (wkc (by decide)) (.cons (wkc (by decide)) (Wks.refl _)))))))))))))))))) lt0)) (.old rfl (BLe.refl _) (.old rfl (BLe.refl _) (.old rfl (BLe.refl _) .nil)))))) ?_
      · ((repeat' first | exact TLes.nil | refine TLes.cons (TLe.eq rfl) ?_); skip)
      (repeat' ((fail_if_success (show AWp _ _ _ (Code.region 16 _ _) _ _)); (fail_if_success (show AWp _ _ _ (Code.region 18 _ _) _ _)); (fail_if_success (show AWp _ _ _ (Code.region 23 _ _) _ _)); first | refine Zac ?_ | (refine Zab tok (by rfl) ?_; conv => whnf) | (refine Zag ?_; conv => whnf) | refine Zae rfl (fun hb => ?_) (fun hb => ?_)))
      · exfalso; rw [ho] at hb; cases hb
      · exfalso; rw [ho] at hb; cases hb
      clear hb
      (repeat' first | refine Zac ?_ | (refine Zab tok (by rfl) ?_; conv => whnf))
      refine .inl ⟨_, _, _, uG (QC.fc (hwi 11) rfl), ?_⟩
      conv => whnf
      (repeat' (refine Zah ?_; conv => whnf))
      exact ⟨_, rfl, Rel.agg (Rels.imm rfl)⟩
    · refine Zau (Weak.list (tl := [(4, .bp (4, 0, 0) 0), (5, .bp (5, 0, 0) 0), (6, .bp (6, 0, 0) 0), (7, .bp (7, 0, 0) 0), (8, .bp (8, 0, 0) 0)]) [((4, 0, 0), .old (4, 0, 0), Zam (Zav m)), ((5, 0, 0), .old (5, 0, 0), Zam (Zas (stM s 12 (f.regs.getD x.b.toNat 0)))), ((6, 0, 0), .old (6, 0, 0), Zam (Zar f)), ((7, 0, 0), .old (7, 0, 0), Zam (Zba x)), ((8, 0, 0), .old (8, 0, 0), Zam Zbz)] rfl (by rfl) ?_ (.old rfl (BLe.refl _) (.old rfl (BLe.rowW (Nat.le_refl _) (ltS (.cons .refl (.cons (wkc (by decide)) (.cons (wkc (by decide)) (.cons (wkc (by decide)) (.cons (wkc (by decide)) (.cons (wkc (by decide)) (.cons (wkc (by decide)) (.cons (wkc (by decide)) (.cons (wkc (by decide)) (.cons (wkc (by decide)) (.cons (wkc (by decide)) (.cons (wkc (by decide)) (.cons (wkc (by decide)) (.cons (wks (by omega)) (.cons (wkc (by decide)) (.cons (wkc (by decide)) (.cons (wkc (by decide)) (Wks.refl _)))))))))))))))))) lt0)) (.old rfl (BLe.refl _) (.old rfl (BLe.refl _) (.old rfl (BLe.refl _) .nil)))))) ?_
      · ((repeat' first | exact TLes.nil | refine TLes.cons (TLe.eq rfl) ?_); skip)
      (repeat' ((fail_if_success (show AWp _ _ _ (Code.region 16 _ _) _ _)); (fail_if_success (show AWp _ _ _ (Code.region 18 _ _) _ _)); (fail_if_success (show AWp _ _ _ (Code.region 23 _ _) _ _)); first | refine Zac ?_ | (refine Zab tok (by rfl) ?_; conv => whnf) | (refine Zag ?_; conv => whnf) | refine Zae rfl (fun hb => ?_) (fun hb => ?_)))
      · exfalso; rw [ho] at hb; cases hb
      · exfalso; rw [ho] at hb; cases hb
      clear hb
      (repeat' first | refine Zac ?_ | (refine Zab tok (by rfl) ?_; conv => whnf))
      refine .inl ⟨_, _, _, uG (QC.fc (hwi 12) rfl), ?_⟩
      conv => whnf
      (repeat' (refine Zah ?_; conv => whnf))
      exact ⟨_, rfl, Rel.agg (Rels.imm rfl)⟩
    · refine Zau (Weak.list (tl := [(4, .bp (4, 0, 0) 0), (5, .bp (5, 0, 0) 0), (6, .bp (6, 0, 0) 0), (7, .bp (7, 0, 0) 0), (8, .bp (8, 0, 0) 0)]) [((4, 0, 0), .old (4, 0, 0), Zam (Zav m)), ((5, 0, 0), .old (5, 0, 0), Zam (Zas (stM s 13 (f.regs.getD x.b.toNat 0)))), ((6, 0, 0), .old (6, 0, 0), Zam (Zar f)), ((7, 0, 0), .old (7, 0, 0), Zam (Zba x)), ((8, 0, 0), .old (8, 0, 0), Zam Zbz)] rfl (by rfl) ?_ (.old rfl (BLe.refl _) (.old rfl (BLe.rowW (Nat.le_refl _) (ltS (.cons .refl (.cons (wkc (by decide)) (.cons (wkc (by decide)) (.cons (wkc (by decide)) (.cons (wkc (by decide)) (.cons (wkc (by decide)) (.cons (wkc (by decide)) (.cons (wkc (by decide)) (.cons (wkc (by decide)) (.cons (wkc (by decide)) (.cons (wkc (by decide)) (.cons (wkc (by decide)) (.cons (wkc (by decide)) (.cons (wkc (by decide)) (.cons (wks (by omega)) (.cons (wkc (by decide)) (.cons (wkc (by decide)) (Wks.refl _)))))))))))))))))) lt0)) (.old rfl (BLe.refl _) (.old rfl (BLe.refl _) (.old rfl (BLe.refl _) .nil)))))) ?_
      · ((repeat' first | exact TLes.nil | refine TLes.cons (TLe.eq rfl) ?_); skip)
      (repeat' ((fail_if_success (show AWp _ _ _ (Code.region 16 _ _) _ _)); (fail_if_success (show AWp _ _ _ (Code.region 18 _ _) _ _)); (fail_if_success (show AWp _ _ _ (Code.region 23 _ _) _ _)); first | refine Zac ?_ | (refine Zab tok (by rfl) ?_; conv => whnf) | (refine Zag ?_; conv => whnf) | refine Zae rfl (fun hb => ?_) (fun hb => ?_)))
      · exfalso; rw [ho] at hb; cases hb
      · exfalso; rw [ho] at hb; cases hb
      clear hb
      (repeat' first | refine Zac ?_ | (refine Zab tok (by rfl) ?_; conv => whnf))
      refine .inl ⟨_, _, _, uG (QC.fc (hwi 13) rfl), ?_⟩
      conv => whnf
      (repeat' (refine Zah ?_; conv => whnf))
      exact ⟨_, rfl, Rel.agg (Rels.imm rfl)⟩
    · refine Zau (Weak.list (tl := [(4, .bp (4, 0, 0) 0), (5, .bp (5, 0, 0) 0), (6, .bp (6, 0, 0) 0), (7, .bp (7, 0, 0) 0), (8, .bp (8, 0, 0) 0)]) [((4, 0, 0), .old (4, 0, 0), Zam (Zav m)), ((5, 0, 0), .old (5, 0, 0), Zam (Zas (stM s 14 (f.regs.getD x.b.toNat 0)))), ((6, 0, 0), .old (6, 0, 0), Zam (Zar f)), ((7, 0, 0), .old (7, 0, 0), Zam (Zba x)), ((8, 0, 0), .old (8, 0, 0), Zam Zbz)] rfl (by rfl) ?_ (.old rfl (BLe.refl _) (.old rfl (BLe.rowW (Nat.le_refl _) (ltS (.cons .refl (.cons (wkc (by decide)) (.cons (wkc (by decide)) (.cons (wkc (by decide)) (.cons (wkc (by decide)) (.cons (wkc (by decide)) (.cons (wkc (by decide)) (.cons (wkc (by decide)) (.cons (wkc (by decide)) (.cons (wkc (by decide)) (.cons (wkc (by decide)) (.cons (wkc (by decide)) (.cons (wkc (by decide)) (.cons (wkc (by decide)) (.cons (wkc (by decide)) (.cons (wks (by omega)) (.cons (wkc (by decide)) (Wks.refl _)))))))))))))))))) lt0)) (.old rfl (BLe.refl _) (.old rfl (BLe.refl _) (.old rfl (BLe.refl _) .nil)))))) ?_
      · ((repeat' first | exact TLes.nil | refine TLes.cons (TLe.eq rfl) ?_); skip)
      (repeat' ((fail_if_success (show AWp _ _ _ (Code.region 16 _ _) _ _)); (fail_if_success (show AWp _ _ _ (Code.region 18 _ _) _ _)); (fail_if_success (show AWp _ _ _ (Code.region 23 _ _) _ _)); first | refine Zac ?_ | (refine Zab tok (by rfl) ?_; conv => whnf) | (refine Zag ?_; conv => whnf) | refine Zae rfl (fun hb => ?_) (fun hb => ?_)))
      · exfalso; rw [ho] at hb; cases hb
      · exfalso; rw [ho] at hb; cases hb
      clear hb
      (repeat' first | refine Zac ?_ | (refine Zab tok (by rfl) ?_; conv => whnf))
      refine .inl ⟨_, _, _, uG (QC.fc (hwi 14) rfl), ?_⟩
      conv => whnf
      (repeat' (refine Zah ?_; conv => whnf))
      exact ⟨_, rfl, Rel.agg (Rels.imm rfl)⟩
    · refine Zau (Weak.list (tl := [(4, .bp (4, 0, 0) 0), (5, .bp (5, 0, 0) 0), (6, .bp (6, 0, 0) 0), (7, .bp (7, 0, 0) 0), (8, .bp (8, 0, 0) 0)]) [((4, 0, 0), .old (4, 0, 0), Zam (Zav m)), ((5, 0, 0), .old (5, 0, 0), Zam (Zas (stM s 15 (f.regs.getD x.b.toNat 0)))), ((6, 0, 0), .old (6, 0, 0), Zam (Zar f)), ((7, 0, 0), .old (7, 0, 0), Zam (Zba x)), ((8, 0, 0), .old (8, 0, 0), Zam Zbz)] rfl (by rfl) ?_ (.old rfl (BLe.refl _) (.old rfl (BLe.rowW (Nat.le_refl _) (ltS (.cons .refl (.cons (wkc (by decide)) (.cons (wkc (by decide)) (.cons (wkc (by decide)) (.cons (wkc (by decide)) (.cons (wkc (by decide)) (.cons (wkc (by decide)) (.cons (wkc (by decide)) (.cons (wkc (by decide)) (.cons (wkc (by decide)) (.cons (wkc (by decide)) (.cons (wkc (by decide)) (.cons (wkc (by decide)) (.cons (wkc (by decide)) (.cons (wkc (by decide)) (.cons (wkc (by decide)) (.cons (wks (by omega)) (Wks.refl _)))))))))))))))))) lt0)) (.old rfl (BLe.refl _) (.old rfl (BLe.refl _) (.old rfl (BLe.refl _) .nil)))))) ?_
      · ((repeat' first | exact TLes.nil | refine TLes.cons (TLe.eq rfl) ?_); skip)
      (repeat' ((fail_if_success (show AWp _ _ _ (Code.region 16 _ _) _ _)); (fail_if_success (show AWp _ _ _ (Code.region 18 _ _) _ _)); (fail_if_success (show AWp _ _ _ (Code.region 23 _ _) _ _)); first | refine Zac ?_ | (refine Zab tok (by rfl) ?_; conv => whnf) | (refine Zag ?_; conv => whnf) | refine Zae rfl (fun hb => ?_) (fun hb => ?_)))
      · exfalso; rw [ho] at hb; cases hb
      · exfalso; rw [ho] at hb; cases hb
      clear hb
      (repeat' first | refine Zac ?_ | (refine Zab tok (by rfl) ?_; conv => whnf))
      refine .inl ⟨_, _, _, uG (QC.fc (hwi 15) rfl), ?_⟩
      conv => whnf
      (repeat' (refine Zah ?_; conv => whnf))
      exact ⟨_, rfl, Rel.agg (Rels.imm rfl)⟩
end Go.Proofs.YtoelbgjpmpoolaaGreat
namespace Go.Proofs.YtoelbgjpmpoolaaGreat
open Go Dv
set_option maxRecDepth 10000
set_option linter.unusedSimpArgs false
def newM (m : Zaj) (inputs : List Int) : Mach := ⟨[frN m 0 []], List.replicate 16 0, inputs, [], 0, 0⟩
theorem c_newM (m : Zaj) (inputs : List Int) (h1 : 0 < m.funcs.length) (hp : (m.funcs.getD 0 default).params = 0) (hR : (m.funcs.getD 0 default).regs ≤ 256) : FC Tryz.prog 61 [.agg (Zav m), u16s inputs] (.agg (Zas (newM m inputs))) := by
  refine Zao tok Tryz.func61 rfl (by decide +kernel) (Nat.le_of_ble_eq_true rfl) ?_
  have hN := c_frNew m 0 [] (by omega) (by omega) (by simp only [List.length_nil]; exact hp.symm) hR
  (repeat' first | refine Zac ?_ | (refine Zab tok (by rfl) ?_; conv => whnf))
  refine .inr ⟨_, _, _, uG (QH.give (rd := []) hN (.cons (.imm rfl) (.cons (.imm rfl) (.cons .nsl .nil))) rfl), ?_⟩
  conv => whnf
  (repeat' first | refine Zac ?_ | (refine Zab tok (by rfl) ?_; conv => whnf) | (refine Zah ?_; conv => whnf))
  refine ⟨_, rfl, Rel.agg (.cons (Rel.row rfl rfl rfl (fun z hz => ?_)) (.cons (Rel.imm rfl) (.cons (Rel.imm rfl) (.cons (Rel.imm rfl) (.cons (Rel.imm rfl) (.cons (Rel.imm rfl) (.cons (Rel.imm rfl) (.cons (Rel.imm rfl) (.cons (Rel.imm rfl) (.cons (Rel.imm rfl) (.cons (Rel.imm rfl) (.cons (Rel.imm rfl) (.cons (Rel.imm rfl) (.cons (Rel.imm rfl) (.cons (Rel.imm rfl) (.cons (Rel.imm rfl) (.cons (Rel.imm rfl) (.cons (Rel.imm rfl) (.cons (Rel.nsl' rfl) (.cons (Rel.imm rfl) (.cons (Rel.imm rfl) .nil)))))))))))))))))))))⟩
  have hz0 : z = 0 := by have : z < 1 := hz; omega
  subst hz0; rfl
end Go.Proofs.YtoelbgjpmpoolaaGreat
namespace Go.Proofs.YtoelbgjpmpoolaaGreat
open Go Dv
set_option maxRecDepth 10000
set_option linter.unusedSimpArgs false
def regA (f : Za2) (p : Int) : Int := f.regs.getD p.toNat 0
def goF (b : Zex) (f : Za2) : Za2 := { f with block := if b.fin.kind = 3 ∧ regA f b.fin.a = 0 then b.fin.els else b.fin.to, at_ := 0 }
def Zfo (m : Zaj) (s : Mach) (f : Za2) (b : Zex) : Mach :=
  if endB m f = false then insM m s f (b.ins.getD f.at_.toNat default)
  else if b.fin.kind = 1 then Zbw m s (regA f b.fin.a)
  else if b.fin.kind = 4 then Zb2 m s b.fin.f b.fin.args
  else if b.fin.kind = 5 then Zbu m s (regA f b.fin.a)
  else if b.fin.kind = 6 then Zbu m s f.fly
  else Zbo s (goF b f)
def Zfn (m : Zaj) (s : Mach) : Mach := if s.done = 0 then Zfo m s (topF s) (Za0 m (topF s)) else s
set_option maxHeartbeats 4000000 in
theorem c_Step (m : Zaj) (s : Mach) (f : Za2) (b : Zex) (hf : topF s = f) (hbe : Za0 m f = b) (hs : s.done = 0 → 0 < s.stack.length) (hsl : s.stack.length ≤ 1000) (hF : s.done = 0 → OkF m f)
    (hA : s.done = 0 → endB m f = true → (b.fin.kind = 1 ∨ b.fin.kind = 3 ∨ b.fin.kind = 5) → 0 ≤ b.fin.a ∧ b.fin.a < f.regs.length)
    (hI : s.done = 0 → endB m f = false → FCins m s f (b.ins.getD f.at_.toNat default))
    (h1 : s.done = 0 → endB m f = true → b.fin.kind = 1 → ∀ w, FC Tryz.prog 107 [.agg (Zav m), .agg (Zas s), .int .u16 w] (.agg (Zas (Zbw m s w))))
    (h4 : s.done = 0 → endB m f = true → b.fin.kind = 4 → FC Tryz.prog 108 [.agg (Zav m), .agg (Zas s), iv b.fin.f, ints b.fin.args] (.agg (Zas (Zb2 m s b.fin.f b.fin.args))))
    (h5 : s.done = 0 → ∀ w, FC Tryz.prog 109 [.agg (Zav m), .agg (Zas s), .int .u16 w] (.agg (Zas (Zbu m s w)))) :
    FC Tryz.prog 62 [.agg (Zav m), .agg (Zas s)] (.agg (Zas (Zfn m s))) := by
  refine Zao tok Tryz.func62 rfl (by decide +kernel) (Nat.le_of_ble_eq_true rfl) ?_
  have hmx : maxL = 4294967296 := rfl
  (repeat' ((fail_if_success (show AWp _ _ _ (Code.region 2 _ _) _ _)); (fail_if_success (show AWp _ _ _ (Code.region 3 _ _) _ _)); first | refine Zac ?_ | (refine Zab tok (by rfl) ?_; conv => whnf) | (refine Zag ?_; conv => whnf) | refine Zae rfl (fun hb => ?_) (fun hb => ?_)))
  · have hd : ¬ s.done = 0 := by simpa using hb
    rw [show Zfn m s = s from if_neg hd]
    (repeat' first | (refine Zab tok (by rfl) ?_; conv => whnf) | (refine Zah ?_; conv => whnf))
    exact ⟨_, rfl, Rel.agg (Rels.imm rfl)⟩
  have hd : s.done = 0 := by simpa using hb
  clear hb
  rw [show Zfn m s = Zfo m s (topF s) (Za0 m (topF s)) from if_pos hd, hf, hbe]
  replace hs := hs hd
  replace hF := hF hd
  replace hA := hA hd
  replace hI := hI hd
  replace h1 := h1 hd
  replace h4 := h4 hd
  replace h5 := h5 hd
  have hSt := c_stands m f hF
  have ha0 := hF.a0
  have ha1 := hF.a1
  have hE : endB m f = decide (f.at_ = b.ins.length) := by unfold endB; rw [hbe]
  rw [hbe] at hSt ha1
  have ht : s.stack.getD (IntKind.i64.wrap ((s.stack.length : Int) - 1)).toNat default = f := by
    have : (IntKind.i64.wrap ((s.stack.length : Int) - 1)).toNat = s.stack.length - 1 := by rw [Zal (by omega) (by omega)]; omega
    rw [this, ← hf]; rfl
  ((repeat' ((fail_if_success (show AWp _ _ _ (Code.region 4 _ _) _ _)); first | refine Zac ?_ | (refine Zab tok (by rfl) ?_; conv => whnf) | (refine @And.intro (Zaa _ _ _ _) _ ?_ ?_; rotate_left; (conv => whnf); rotate_right))); all_goals (try ((guard_target = Zaa _ _ _ _); refine Zaf ?_; (all_goals (try simp only [Zaa, kzz, kz11, kz12, maxL, Zad] at *)); (all_goals (try (simp (disch := omega) only [Zal]))); all_goals omega)))
  refine Zau (Weak.list (tl := [(2, .bp (2, 0, 0) 0), (3, .bp (3, 0, 0) 0), (4, .bp (4, 0, 0) 0), (5, .bp (5, 0, 0) 0)]) [((2, 0, 0), .old (2, 0, 0), Zam (Zav m)), ((3, 0, 0), .old (3, 0, 0), Zam (Zas s)), ((4, 0, 0), .old (4, 0, 0), Zam Zbz), ((5, 0, 0), .old (5, 0, 0), .row true 5 1 (fun _ => Zar f))] rfl (by rfl) ?_ (.old rfl (BLe.refl _) (.old rfl (BLe.refl _) (.old rfl (BLe.refl _) (.old rfl (BLe.rowW (Nat.le_refl _) (ltS (Wks.of (by rw [← ht]; rfl)) lt0)) .nil))))) ?_
  · ((repeat' first | exact TLes.nil | refine TLes.cons (TLe.eq rfl) ?_); skip)
  (repeat' (refine Zab tok (by rfl) ?_; conv => whnf))
  refine .inl ⟨_, _, _, uG (QC.fc hSt rfl), ?_⟩
  conv => whnf
  (repeat' ((fail_if_success (show AWp _ _ _ (Code.region 6 _ _) _ _)); (fail_if_success (show AWp _ _ _ (Code.region 7 _ _) _ _)); first | refine Zac ?_ | (refine Zab tok (by rfl) ?_; conv => whnf) | (refine Zag ?_; conv => whnf) | refine Zae rfl (fun hb => ?_) (fun hb => ?_)))
  · have he : endB m f = false := by rw [hE]; simpa using hb
    have hlt : f.at_ < b.ins.length := by simp at hb; omega
    clear hb
    rw [show Zfo m s f b = insM m s f (b.ins.getD f.at_.toNat default) from if_pos he]
    ((repeat' first | (refine Zat tok mix (by rfl) ?_; conv => whnf) | (refine @And.intro (Zaa _ _ _ _) _ ?_ ?_; rotate_left; (conv => whnf); rotate_right)); all_goals (try ((guard_target = Zaa _ _ _ _); refine Zaf ?_; (all_goals (try simp only [Zaa, kzz, kz11, kz12, maxL, Zad] at *)); all_goals omega)))
    refine .inl ⟨_, _, _, uG (QC.fc (hI he) rfl), ?_⟩
    conv => whnf
    (repeat' (refine Zah ?_; conv => whnf))
    exact ⟨_, rfl, Rel.agg (Rels.imm rfl)⟩
  have he : endB m f = true := by rw [hE]; simpa using hb
  clear hb
  have hend : ∀ r, r = Zas (Zfo m s f b) → r = Zas (Zfo m s f b) := fun _ h => h
  clear hend
  (repeat' ((fail_if_success (show AWp _ _ _ (Code.region 10 _ _) _ _)); (fail_if_success (show AWp _ _ _ (Code.region 12 _ _) _ _)); (fail_if_success (show AWp _ _ _ (Code.region 14 _ _) _ _)); (fail_if_success (show AWp _ _ _ (Code.region 16 _ _) _ _)); (fail_if_success (show AWp _ _ _ (Code.region 17 _ _) _ _)); first | refine Zac ?_ | (refine Zab tok (by rfl) ?_; conv => whnf) | refine Zai ?_ | (refine Zag ?_; conv => whnf) | refine Zae rfl (fun hb => ?_) (fun hb => ?_)))
  · have hk : b.fin.kind = 1 := by simpa using hb
    clear hb
    obtain ⟨g1, g2⟩ := hA he (.inl hk)
    rw [show Zfo m s f b = Zbw m s (regA f b.fin.a) from by unfold Zfo; rw [if_neg (by rw [he]; simp), if_pos hk]]
    ((repeat' first | (refine Zat tok mix (by rfl) ?_; conv => whnf) | (refine @And.intro (Zaa _ _ _ _) _ ?_ ?_; rotate_left; (conv => whnf); rotate_right)); all_goals (try ((guard_target = Zaa _ _ _ _); refine Zaf ?_; (all_goals (try simp only [Zaa, kzz, kz11, kz12, maxL, Zad] at *)); all_goals omega)))
    refine .inl ⟨_, _, _, uG (QC.fc (h1 he hk (regA f b.fin.a)) rfl), ?_⟩
    conv => whnf
    (repeat' (refine Zah ?_; conv => whnf))
    exact ⟨_, rfl, Rel.agg (Rels.imm rfl)⟩
  · have hk : b.fin.kind = 4 := by simpa using hb
    clear hb
    rw [show Zfo m s f b = Zb2 m s b.fin.f b.fin.args from by unfold Zfo; rw [if_neg (by rw [he]; simp), if_neg (by omega), if_pos hk]]
    (repeat' (refine Zab tok (by rfl) ?_; conv => whnf))
    refine .inl ⟨_, _, _, uG (QC.fc (h4 he hk) rfl), ?_⟩
    conv => whnf
    (repeat' (refine Zah ?_; conv => whnf))
    exact ⟨_, rfl, Rel.agg (Rels.imm rfl)⟩
  · have hk : b.fin.kind = 5 := by simpa using hb
    clear hb
    obtain ⟨g1, g2⟩ := hA he (.inr (.inr hk))
    rw [show Zfo m s f b = Zbu m s (regA f b.fin.a) from by unfold Zfo; rw [if_neg (by rw [he]; simp), if_neg (by omega), if_neg (by omega), if_pos hk]]
    ((repeat' first | (refine Zat tok mix (by rfl) ?_; conv => whnf) | (refine @And.intro (Zaa _ _ _ _) _ ?_ ?_; rotate_left; (conv => whnf); rotate_right)); all_goals (try ((guard_target = Zaa _ _ _ _); refine Zaf ?_; (all_goals (try simp only [Zaa, kzz, kz11, kz12, maxL, Zad] at *)); all_goals omega)))
    refine .inl ⟨_, _, _, uG (QC.fc (h5 (regA f b.fin.a)) rfl), ?_⟩
    conv => whnf
    (repeat' (refine Zah ?_; conv => whnf))
    exact ⟨_, rfl, Rel.agg (Rels.imm rfl)⟩
  · have hk : b.fin.kind = 6 := by simpa using hb
    clear hb
    rw [show Zfo m s f b = Zbu m s f.fly from by unfold Zfo; rw [if_neg (by rw [he]; simp), if_neg (by omega), if_neg (by omega), if_neg (by omega), if_pos hk]]
    (repeat' (refine Zab tok (by rfl) ?_; conv => whnf))
    refine .inl ⟨_, _, _, uG (QC.fc (h5 f.fly) rfl), ?_⟩
    conv => whnf
    (repeat' (refine Zah ?_; conv => whnf))
    exact ⟨_, rfl, Rel.agg (Rels.imm rfl)⟩
  · have hk : Zfo m s f b = Zbo s (goF b f) := by
      unfold Zfo
      rw [if_neg (by rw [he]; simp), if_neg (by simp_all), if_neg (by simp_all), if_neg (by simp_all), if_neg (by simp_all)]
    rw [hk]
    by_cases h3 : b.fin.kind = 3
    · obtain ⟨g1, g2⟩ := hA he (.inr (.inl h3))
      ((repeat' first | refine Zac ?_ | (refine Zab tok (by rfl) ?_; conv => whnf) | (refine Zag ?_; conv => whnf) | refine Zae rfl (fun hb => ?_) (fun hb => ?_) | (refine @And.intro (Zaa _ _ _ _) _ ?_ ?_; rotate_left; (conv => whnf); rotate_right)); all_goals (try ((guard_target = Zaa _ _ _ _); ((refine Za8 ?_; intro hgd; (conv at hgd => whnf))); (all_goals (try simp only [Zaa, kzz, kz11, kz12, maxL, Zad] at *)); all_goals omega)))
      · have hz : f.regs.getD b.fin.a.toNat 0 = 0 := by rw [decide_eq_true h3, cond_true] at hb; simpa using hb
        rw [show goF b f = { f with block := b.fin.els, at_ := 0 } from by unfold goF regA; rw [if_pos ⟨h3, hz⟩]]
        refine .inl ⟨_, _, _, uG (QC.fc (Ze1 s { f with block := b.fin.els, at_ := 0 } hs) rfl), ?_⟩
        conv => whnf
        (repeat' (refine Zah ?_; conv => whnf))
        exact ⟨_, rfl, Rel.agg (Rels.imm rfl)⟩
      · have hz : ¬ f.regs.getD b.fin.a.toNat 0 = 0 := by rw [decide_eq_true h3, cond_true] at hb; simpa using hb
        rw [show goF b f = { f with block := b.fin.to, at_ := 0 } from by unfold goF regA; rw [if_neg (fun h => hz h.2)]]
        refine .inl ⟨_, _, _, uG (QC.fc (Ze1 s { f with block := b.fin.to, at_ := 0 } hs) rfl), ?_⟩
        conv => whnf
        (repeat' (refine Zah ?_; conv => whnf))
        exact ⟨_, rfl, Rel.agg (Rels.imm rfl)⟩
    · ((repeat' first | refine Zac ?_ | (refine Zab tok (by rfl) ?_; conv => whnf) | (refine Zag ?_; conv => whnf) | refine Zae rfl (fun hb => ?_) (fun hb => ?_) | (refine @And.intro (Zaa _ _ _ _) _ ?_ ?_; rotate_left; (conv => whnf); rotate_right)); all_goals (try ((guard_target = Zaa _ _ _ _); ((refine Za8 ?_; intro hgd; (conv at hgd => whnf))); (all_goals (try simp only [Zaa, kzz, kz11, kz12, maxL, Zad] at *)); all_goals omega)))
      · exfalso; rw [decide_eq_false h3] at hb; cases hb
      · rw [show goF b f = { f with block := b.fin.to, at_ := 0 } from by unfold goF regA; rw [if_neg (fun h => h3 h.1)]]
        refine .inl ⟨_, _, _, uG (QC.fc (Ze1 s { f with block := b.fin.to, at_ := 0 } hs) rfl), ?_⟩
        conv => whnf
        (repeat' (refine Zah ?_; conv => whnf))
        exact ⟨_, rfl, Rel.agg (Rels.imm rfl)⟩
end Go.Proofs.YtoelbgjpmpoolaaGreat
namespace Go.Proofs.YtoelbgjpmpoolaaGreat
open Go Dv
set_option maxRecDepth 10000
set_option linter.unusedSimpArgs false
def runM (m : Zaj) (inputs : List Int) : Nat → Mach
  | 0 => newM m inputs
  | k + 1 => Zfn m (runM m inputs k)
theorem run_done {m : Zaj} {inputs : List Int} {i : Nat} (h : ¬ (runM m inputs i).done = 0) : ∀ k, runM m inputs (i + k) = runM m inputs i
  | 0 => rfl
  | k + 1 => by
      show Zfn m (runM m inputs (i + k)) = _
      rw [run_done h k]
      exact if_neg h
theorem c_Run (m : Zaj) (inputs : List Int) (n : Nat) (hn : n < 1000000) (hN : FC Tryz.prog 61 [.agg (Zav m), u16s inputs] (.agg (Zas (newM m inputs))))
    (hS : ∀ k, k < n → FC Tryz.prog 62 [.agg (Zav m), .agg (Zas (runM m inputs k))] (.agg (Zas (runM m inputs (k + 1))))) :
    FC Tryz.prog 23 [.agg (Zav m), u16s inputs, iv n] (.agg (Zas (runM m inputs n))) := by
  refine Zao tok Tryz.func23 rfl (by decide +kernel) (Nat.le_of_ble_eq_true rfl) ?_
  have hmx : maxL = 4294967296 := rfl
  (repeat' first | refine Zac ?_ | (refine Zab tok (by rfl) ?_; conv => whnf))
  refine .inl ⟨_, _, _, uG (QC.fc hN rfl), ?_⟩
  conv => whnf
  (repeat' ((fail_if_success (show AWp _ _ _ (Code.region 3 _ _) _ _)); first | refine Zac ?_ | (refine Zab tok (by rfl) ?_; conv => whnf) | refine Zai ?_))
  refine Za1 (fun i : Nat => mkS [(2, iv n), (3, .bp (3, 0, 0) 0), (6, .bp (6, 0, 0) 0), (7, .bp (7, 0, 0) 0), (8, iv i)] [((3, 0, 0), Zam (Zav m)), ((6, 0, 0), Zam Zbz), ((7, 0, 0), .row true 21 1 (fun _ => Zas (runM m inputs i)))]) (fun i => i ≤ n) (fun i => n - i) 0 (Nat.zero_le _) ?_ ?_
  · refine Weak.list [((3, 0, 0), .old (3, 0, 0), Zam (Zav m)), ((6, 0, 0), .old (6, 0, 0), Zam Zbz), ((7, 0, 0), .old (7, 0, 0), .row true 21 1 (fun _ => Zas (runM m inputs 0)))] rfl (by rfl) ?_ (.old rfl (BLe.refl _) (.old rfl (BLe.refl _) (.old rfl (BLe.rowW (Nat.le_refl _) (ltS (Wks.of rfl) lt0)) .nil)))
    ((repeat' first | exact TLes.nil | refine TLes.cons (TLe.eq rfl) ?_); skip)
  intro i hi
  (repeat' ((fail_if_success (show AWp _ _ _ (Code.region 5 _ _) _ _)); (fail_if_success (show AWp _ _ _ (Code.region 6 _ _) _ _)); first | refine Zac ?_ | (refine Zab tok (by rfl) ?_; conv => whnf) | refine Zai ?_ | (refine Zag ?_; conv => whnf) | (refine Za3 ?_; conv => whnf) | refine Zae rfl (fun hb => ?_) (fun hb => ?_)))
  · have hlt : i < n ∧ (runM m inputs i).done = 0 := by
      by_cases e1 : (i : Int) < n <;> by_cases e2 : (runM m inputs i).done = 0 <;> simp [e1, e2] at hb
      exact ⟨by omega, e2⟩
    clear hb
    (repeat' (refine Zab tok (by rfl) ?_; conv => whnf))
    refine .inl ⟨_, _, _, uG (QC.fc (hS i hlt.1) rfl), ?_⟩
    conv => whnf
    have hi1 := hlt.1
    (repeat' (refine Zab tok (by rfl) ?_; conv => whnf))
    refine ⟨i + 1, hi1, by omega, ?_⟩
    refine Weak.list [((3, 0, 0), .old (3, 0, 0), Zam (Zav m)), ((6, 0, 0), .old (6, 0, 0), Zam Zbz), ((7, 0, 0), .old (7, 0, 0), .row true 21 1 (fun _ => Zas (runM m inputs (i + 1))))] rfl (by rfl) ?_ (.old rfl (BLe.refl _) (.old rfl (BLe.refl _) (.old rfl (BLe.rowW (Nat.le_refl _) (ltS (Wks.of rfl) lt0)) .nil)))
    ((repeat' first | exact TLes.nil | refine TLes.cons (TLe.eq rfl) ?_ | refine TLes.cons (TLe.int ?_) ?_); (all_goals first | ((try (simp only [Zaa, kzz, kz11, kz12, maxL, Zad] at *)); exact Zal (by omega) (by omega)) | skip))
  · have he : runM m inputs i = runM m inputs n := by
      by_cases e1 : i = n
      · rw [e1]
      · have e2 : ¬ (runM m inputs i).done = 0 := fun e2 => by
          rw [decide_eq_true (show (i : Int) < n by omega), e2] at hb; cases hb
        have := run_done e2 (n - i)
        rw [show i + (n - i) = n by omega] at this
        exact this.symm
    rw [← he]
    (repeat' first | (refine Zab tok (by rfl) ?_; conv => whnf) | (refine Zah ?_; conv => whnf))
    exact ⟨_, rfl, Rel.agg (Rels.imm rfl)⟩
end Go.Proofs.YtoelbgjpmpoolaaGreat
namespace Go.Proofs.YtoelbgjpmpoolaaGreat
open Go Dv
set_option maxRecDepth 10000
set_option linter.unusedSimpArgs false
def Zby (m : Zaj) (f : Za2) : Ins := (Za0 m f).ins.getD f.at_.toNat default
structure CallF (m : Zaj) (f : Za2) : Prop where
  fin : endB m f = true → (Za0 m f).fin.kind = 4
  ins : endB m f = false → (Zby m f).op = 11
structure OkM (m : Zaj) (s : Mach) : Prop where
  cells : s.cells.length = 16
  fr : ∀ f ∈ s.stack, OkF m f
  ca : ∀ f ∈ s.stack.take (s.stack.length - 1), CallF m f
  len : s.stack.length ≤ 32
  pos : s.done = 0 → 0 < s.stack.length
  inp : (∀ x ∈ s.inputs, 0 ≤ x ∧ x ≤ 65535) ∧ s.inputs.length < 1000000
theorem okF_ins {m : Zaj} {f : Za2} (hr : Zbg m = true) (h : OkF m f) (he : endB m f = false) : f.at_.toNat < (Za0 m f).ins.length ∧ InsP m (Zdb m f) (Zby m f) := by
  have h1 : ¬ f.at_ = (Za0 m f).ins.length := by unfold endB at he; simpa using he
  have h2 := h.a0
  have h3 := h.a1
  have hl : f.at_.toNat < (Za0 m f).ins.length := by omega
  refine ⟨hl, ?_⟩
  have := okF_blk hr h h.b0 h.b1
  unfold blkB at this
  rw [Bool.and_eq_true, List.all_eq_true] at this
  have := this.2 _ (Zcz (default : Ins) hl)
  simpa [Zby, Za0] using this
theorem okF_funP {m : Zaj} {f : Func} (h : Ze8 m f = true) : FunP f := by
  unfold Ze8 at h; rw [Bool.and_eq_true, decide_eq_true_eq] at h; exact h.1
theorem okF_new {m : Zaj} {n : Int} {args : List Int} (hr : Zbg m = true) (h0 : 0 ≤ n) (h1 : n < m.funcs.length) : OkF m (frN m n args) := by
  have hP := okF_funP (Zd4 hr (show n.toNat < m.funcs.length by omega))
  obtain ⟨p0, p1, p2, p3, p4, p5, p6⟩ := hP
  refine ⟨h0, h1, Int.le_refl _, ?_, Int.le_refl _, ?_, ?_⟩
  · show (0 : Int) < ((m.funcs.getD n.toNat default).blocks.length : Int); omega
  · exact Int.natCast_nonneg _
  · show (((List.range (m.funcs.getD n.toNat default).regs.toNat).map (regN args)).length : Int) = (m.funcs.getD n.toNat default).regs
    rw [List.length_map, List.length_range]; omega
theorem okF_W {m : Zaj} {f : Za2} (h : OkF m f) (n w : Int) : OkF m (frW f n w) := ⟨h.f0, h.f1, h.b0, h.b1, h.a0, h.a1, by rw [show (frW f n w).regs.length = f.regs.length by simp [frW]]; exact h.regs⟩
theorem okF_to {m : Zaj} {f : Za2} (h : OkF m f) {b : Int} (b0 : 0 ≤ b) (b1 : b < (Zdb m f).blocks.length) : OkF m { f with block := b, at_ := 0 } :=
  ⟨h.f0, h.f1, b0, b1, Int.le_refl _, Int.natCast_nonneg _, h.regs⟩
theorem okF_next {m : Zaj} {f : Za2} (h : OkF m f) (he : endB m f = false) : OkF m { f with at_ := f.at_ + 1 } := by
  have h1 : ¬ f.at_ = (Za0 m f).ins.length := by unfold endB at he; simpa using he
  have h2 := h.a0
  have h3 := h.a1
  exact ⟨h.f0, h.f1, h.b0, h.b1, by show 0 ≤ f.at_ + 1; omega, by show f.at_ + 1 ≤ ((Za0 m f).ins.length : Int); omega, h.regs⟩
theorem goal_inM {f : Func} {n : Int} (h : goalB f n = true) : 0 ≤ n ∧ n < f.blocks.length := by
  unfold goalB at h
  cases h2 : inn n f.blocks.length with
  | false => rw [h2] at h; cases h
  | true => exact (Zad _ _).1 h2
theorem Zei {m : Zaj} {s : Mach} (h : OkM m s) {f : Za2} (hf : OkF m f) (hp : 0 < s.stack.length) : OkM m (Zbo s f) := by
  have hl : (Zbo s f).stack.length = s.stack.length := by simp [Zbo]; omega
  have ht : (Zbo s f).stack.take ((Zbo s f).stack.length - 1) = s.stack.take (s.stack.length - 1) := by
    rw [hl]; show (s.stack.take (s.stack.length - 1) ++ [f]).take _ = _
    rw [List.take_append_of_le_length (by simp), List.take_take, Nat.min_self]
  refine ⟨h.cells, fun g hg => ?_, by rw [ht]; exact h.ca, by rw [hl]; exact h.len, fun _ => by rw [hl]; exact hp, h.inp⟩
  rcases List.mem_append.1 hg with hg | hg
  · exact h.fr g (List.mem_of_mem_take hg)
  · rw [List.mem_singleton.1 hg]; exact hf
theorem okM_end {m : Zaj} {s : Mach} (h : OkM m s) {how w : Int} (hh : how ≠ 0) : OkM m (endM s how w) := ⟨h.cells, h.fr, h.ca, h.len, fun e => absurd e hh, h.inp⟩
theorem okM_take {m : Zaj} {s : Mach} (h : OkM m s) (k : Nat) (hk : k ≤ s.stack.length) (hp : s.done = 0 → 0 < k) : OkM m (Zdj s k) := by
  have hl : (Zdj s k).stack.length = k := by simp [Zdj]; omega
  refine ⟨h.cells, fun g hg => h.fr g (List.mem_of_mem_take hg), fun g hg => h.ca g ?_, by rw [hl]; have := h.len; omega, fun e => by rw [hl]; exact hp e, h.inp⟩
  rw [hl] at hg
  have : (Zdj s k).stack.take (k - 1) = (s.stack.take (s.stack.length - 1)).take (k - 1) := by
    show (s.stack.take k).take (k - 1) = _
    rw [List.take_take, List.take_take, show min (k - 1) k = min (k - 1) (s.stack.length - 1) by omega]
  rw [this] at hg
  exact List.mem_of_mem_take hg
theorem popM_eq (s : Mach) : popM s = Zdj s (s.stack.length - 1) := rfl
theorem Zfk {s : Mach} (h : 0 < s.stack.length) : topF s ∈ s.stack := Zcz _ (by omega)
theorem okM_called {m : Zaj} {s : Mach} (hr : Zbg m = true) (h : OkM m s) {n : Int} {places : List Int} (h0 : 0 ≤ n) (h1 : n < m.funcs.length) (hp : 0 < s.stack.length) (hc : CallF m (topF s)) : OkM m (Zb2 m s n places) := by
  unfold Zb2
  split
  · exact okM_end h (by decide)
  · rename_i h32
    refine ⟨h.cells, fun g hg => ?_, fun g hg => ?_, by simp; omega, fun _ => by simp, h.inp⟩
    · rcases List.mem_append.1 hg with hg | hg
      · exact h.fr g hg
      · rw [List.mem_singleton.1 hg]; exact okF_new hr h0 h1
    · have hg2 : g ∈ s.stack := by
        have e : (s.stack ++ [frN m n (Zb1 (topF s) places)]).take ((s.stack ++ [frN m n (Zb1 (topF s) places)]).length - 1) = s.stack := by
          rw [List.length_append]; simp
        rw [← e]; exact hg
      have e : s.stack = s.stack.take (s.stack.length - 1) ++ [topF s] := by
        have e1 : s.stack.take (s.stack.length - 1 + 1) = s.stack.take (s.stack.length - 1) ++ [s.stack.getD (s.stack.length - 1) default] := by
          rw [List.take_add_one, List.getD_eq_getElem?_getD, List.getElem?_eq_getElem (by omega)]; rfl
        rw [show s.stack.length - 1 + 1 = s.stack.length by omega, List.take_length] at e1
        exact e1
      rw [e] at hg2
      rcases List.mem_append.1 hg2 with hg | hg
      · exact h.ca g hg
      · rw [List.mem_singleton.1 hg]; exact hc
theorem callF_dst {m : Zaj} {f : Za2} (hr : Zbg m = true) (h : OkF m f) (hc : CallF m f) :
    (endB m f = true → (0 ≤ (Za0 m f).fin.dst ∧ (Za0 m f).fin.dst < f.regs.length) ∧ (0 ≤ (Za0 m f).fin.to ∧ (Za0 m f).fin.to < (Zdb m f).blocks.length)) ∧
    (endB m f = false → 0 ≤ (Zby m f).dst ∧ (Zby m f).dst < f.regs.length) := by
  refine ⟨fun he => ?_, fun he => ?_⟩
  · have hk := hc.fin he
    have hE := (Zeu hr h).2
    rw [h.regs]
    rcases hE with h | h | h | h | h
    · omega
    · omega
    · omega
    · exact ⟨(Zad _ _).1 h.2.2.1, goal_inM h.2.2.2.2.1⟩
    · omega
  · have hk := hc.ins he
    have hI := (okF_ins hr h he).2
    rw [h.regs]
    rcases hI with h | h | h | h | h | h | h
    · omega
    · omega
    · omega
    · omega
    · exact (Zad _ _).1 h.2.1
    · omega
    · omega
theorem top_take {s : Mach} {k : Nat} (h : k + 1 < s.stack.length) : s.stack.getD k default ∈ s.stack.take (s.stack.length - 1) := by
  rw [← Zb3 (l := s.stack) (k := s.stack.length - 1) default (by omega)]
  exact Zcz _ (by simp; omega)
theorem Zdr {m : Zaj} {s : Mach} (h : OkM m s) (h2 : 1 < s.stack.length) : OkF m (topF (popM s)) ∧ CallF m (topF (popM s)) := by
  have e : topF (popM s) = s.stack.getD (s.stack.length - 2) default := by
    unfold topF; rw [Zct]; show (s.stack.take (s.stack.length - 1)).getD (s.stack.length - 1 - 1) default = _
    rw [Zb3 _ (by omega)]; rfl
  rw [e]
  exact ⟨h.fr _ (Zcz _ (by omega)), h.ca _ (top_take (by omega))⟩
theorem okM_answered {m : Zaj} {s : Mach} (hr : Zbg m = true) (h : OkM m s) {w : Int} (hp : 0 < s.stack.length) : OkM m (Zbw m s w) := by
  unfold Zbw
  split
  · rename_i h1
    have := h.cells
    exact ⟨h.cells, fun g hg => h.fr g (List.mem_of_mem_take hg), fun g hg => h.ca g (by
      have : g ∈ (s.stack.take (s.stack.length - 1)).take ((s.stack.take (s.stack.length - 1)).length - 1) := hg
      exact List.mem_of_mem_take this), by show (popM s).stack.length ≤ 32; rw [Zct]; omega, fun e => absurd (show (1 : Int) = 0 from e) (by decide), h.inp⟩
  · rename_i h1
    obtain ⟨hF, hC⟩ := Zdr h (by omega)
    have hd := callF_dst hr hF hC
    refine Zei (popM_eq s ▸ okM_take h _ (by omega) (fun _ => by omega)) ?_ (by rw [Zct]; omega)
    unfold answF
    split
    · rename_i he
      have := hd.1 he
      exact okF_to (okF_W hF _ _) this.2.1 this.2.2
    · rename_i he
      exact okF_next (okF_W hF _ _) (show endB m (topF (popM s)) = false from by simpa using he)
theorem okM_thrown {m : Zaj} {s : Mach} (hr : Zbg m = true) (h : OkM m s) {w : Int} (hp : 0 < s.stack.length) : OkM m (Zbu m s w) := by
  by_cases hany : (List.range (popM s).stack.length).any (Zbt m (popM s).stack w false) = true
  · have hT : Zbu m s w = Zbo (Zdj (popM s) (Zfb (Zbt m (popM s).stack w true) ((popM s).stack.length - 1) + 1)) (landF m ((popM s).stack.getD (Zfb (Zbt m (popM s).stack w true) ((popM s).stack.length - 1)) default) (Za0 m ((popM s).stack.getD (Zfb (Zbt m (popM s).stack w true) ((popM s).stack.length - 1)) default)).fin.pad w) := by
      unfold Zbu; rw [if_pos hany]
    rw [List.any_eq_true] at hany
    obtain ⟨i, hi, hic⟩ := hany
    rw [List.mem_range] at hi
    obtain ⟨hK1, hK2⟩ := downK_spec (p := Zbt m (popM s).stack w true) (n := (popM s).stack.length - 1) ⟨i, by omega, catch_more hic⟩
    rw [hT]
    have hgen : ∃ K, Zfb (Zbt m (popM s).stack w true) ((popM s).stack.length - 1) = K := ⟨_, rfl⟩
    obtain ⟨K, hK⟩ := hgen
    rw [hK] at hK1 hK2 ⊢
    have hpl := Zct (s := s)
    have hF : OkF m ((popM s).stack.getD K default) := by
      rw [show (popM s).stack.getD K default = s.stack.getD K default from Zb3 _ (by omega)]
      exact h.fr _ (Zcz _ (by omega))
    have hk4 : (Za0 m ((popM s).stack.getD K default)).fin.kind = 4 := by
      unfold Zbt Zeg at hK1
      simp only [Bool.and_eq_true, decide_eq_true_eq] at hK1
      exact hK1.2.1
    obtain ⟨⟨g1, g2⟩, g3, g4, g5⟩ := okF_pad hr hF hk4
    refine Zei (s := Zdj (popM s) (K + 1)) ?_ ?_ (by simp [Zdj]; omega)
    · have e : Zdj (popM s) (K + 1) = Zdj s (K + 1) := by
        show ({ s with stack := (s.stack.take (s.stack.length - 1)).take (K + 1) } : Mach) = { s with stack := s.stack.take (K + 1) }
        rw [List.take_take, show min (K + 1) (s.stack.length - 1) = K + 1 by omega]
      rw [e]
      exact okM_take h _ (by omega) (fun _ => by omega)
    · exact okF_W (okF_to (f := { (popM s).stack.getD K default with fly := w }) ⟨hF.f0, hF.f1, hF.b0, hF.b1, hF.a0, hF.a1, hF.regs⟩ g1 g2) _ _
  · have hT : Zbu m s w = endM (popM s) 2 w := by
      unfold Zbu; rw [if_neg hany]
    rw [hT]
    exact ⟨h.cells, fun g hg => h.fr g (List.mem_of_mem_take hg), fun g hg => h.ca g (by
      have : g ∈ (s.stack.take (s.stack.length - 1)).take ((s.stack.take (s.stack.length - 1)).length - 1) := hg
      exact List.mem_of_mem_take this), by show (popM s).stack.length ≤ 32; rw [Zct]; have := h.len; omega, fun e => absurd (show (2 : Int) = 0 from e) (by decide), h.inp⟩
theorem argsB_n {m : Zaj} {f : Func} {n : Int} {l : List Int} (h : argsB m f n l = true) : (0 ≤ n ∧ n < m.funcs.length) ∧ (l.length : Int) = (m.funcs.getD n.toNat default).params ∧ ∀ p ∈ l, 0 ≤ p ∧ p < f.regs := by
  unfold argsB at h
  cases h2 : inn n m.funcs.length with
  | false => simp [h2] at h
  | true =>
    refine ⟨(Zad _ _).1 h2, ?_⟩
    simp [h2] at h
    refine ⟨by simpa using h.1, fun p hp => (Zad _ _).1 ?_⟩
    have := h.2 p hp
    simpa using this
end Go.Proofs.YtoelbgjpmpoolaaGreat
namespace Go.Proofs.YtoelbgjpmpoolaaGreat
open Go Dv
set_option maxRecDepth 10000
set_option linter.unusedSimpArgs false
theorem okM_ev {m : Zaj} {s t : Mach} (h : OkM m s) (h1 : t.stack = s.stack) (h2 : t.cells.length = 16) (h3 : t.done = s.done) (h4 : (∀ x ∈ t.inputs, x ∈ s.inputs) ∧ t.inputs.length ≤ s.inputs.length) : OkM m t :=
  ⟨h2, by rw [h1]; exact h.fr, by rw [h1]; exact h.ca, by rw [h1]; exact h.len, by rw [h1, h3]; exact h.pos, fun x hx => h.inp.1 x (h4.1 x hx), Nat.lt_of_le_of_lt h4.2 h.inp.2⟩
theorem okM_ins {m : Zaj} {s : Mach} (hr : Zbg m = true) (h : OkM m s) (hp : 0 < s.stack.length) (he : endB m (topF s) = false) : OkM m (insM m s (topF s) (Zby m (topF s))) := by
  have hF := h.fr _ (Zfk hp)
  have hN := okF_next hF he
  have hI := (okF_ins hr hF he).2
  unfold insM
  split
  · rename_i h11
    have hA : argsB m (Zdb m (topF s)) (Zby m (topF s)).f (Zby m (topF s)).args = true := by
      rcases hI with h | h | h | h | h | h | h
      · omega
      · omega
      · omega
      · omega
      · exact h.2.2.2.2.2
      · omega
      · omega
    have := argsB_n hA
    exact okM_called hr h this.1.1 this.1.2 hp ⟨fun e => by (rw [he] at e; cases e), fun _ => h11⟩
  split
  · split
    · rename_i hok
      refine Zei h ?_ hp
      unfold Zce
      rw [if_pos (by unfold Zce at hok; split at hok; assumption; cases hok)]
      exact okF_next (okF_W hF _ _) he
    · exact okM_end h (by decide)
  split
  · split
    · exact okM_end h (by decide)
    · exact Zei h (okF_next (okF_W hF _ _) he) hp
  split
  · split
    · exact okM_end h (by decide)
    · exact Zei (okM_ev (t := { s with cells := s.cells.set (cellN (topF s) (Zby m (topF s))) ((topF s).regs.getD (Zby m (topF s)).b.toNat 0) }) h rfl (by simp; exact h.cells) rfl ⟨fun x hx => hx, Nat.le_refl _⟩) hN hp
  split
  · exact Zei (okM_ev (t := { s with events := s.events ++ [(topF s).regs.getD (Zby m (topF s)).a.toNat 0] }) h rfl h.cells rfl ⟨fun x hx => hx, Nat.le_refl _⟩) hN hp
  split
  · split
    · exact okM_end h (by decide)
    · exact Zei (okM_ev (t := { s with inputs := s.inputs.drop 1, events := s.events ++ [s.inputs.getD 0 0 + 65536] }) h rfl h.cells rfl ⟨fun x hx => List.mem_of_mem_drop hx, by simp⟩) (okF_next (okF_W hF _ _) he) hp
  · exact Zei h hN hp
theorem okF_goF {m : Zaj} {f : Za2} (hr : Zbg m = true) (h : OkF m f) (h1 : (Za0 m f).fin.kind ≠ 1) (h4 : (Za0 m f).fin.kind ≠ 4) (h5 : (Za0 m f).fin.kind ≠ 5) (h6 : (Za0 m f).fin.kind ≠ 6) : OkF m (goF (Za0 m f) f) := by
  have hE := (Zeu hr h).2
  have hg : (goalB (Zdb m f) (Za0 m f).fin.to = true) ∧ ((Za0 m f).fin.kind = 3 → goalB (Zdb m f) (Za0 m f).fin.els = true) := by
    rcases hE with h | h | h | h | h
    · omega
    · exact ⟨h.2.2.2.2.2.2.1, fun e => by omega⟩
    · exact ⟨h.2.2.2.2.2.2.1, fun _ => h.2.2.2.2.2.2.2⟩
    · omega
    · omega
  unfold goF
  split
  · rename_i h3; have := goal_inM (hg.2 h3.1); exact okF_to h this.1 this.2
  · have := goal_inM hg.1; exact okF_to h this.1 this.2
theorem okM_step {m : Zaj} {s : Mach} (hr : Zbg m = true) (h : OkM m s) : OkM m (Zfn m s) := by
  unfold Zfn
  split
  · rename_i hd
    have hp := h.pos hd
    have hF := h.fr _ (Zfk hp)
    unfold Zfo
    split
    · rename_i he; exact okM_ins hr h hp he
    rename_i he
    split
    · exact okM_answered hr h hp
    split
    · rename_i h1 h4
      have hE := (Zeu hr hF).2
      have hA : argsB m (Zdb m (topF s)) (Za0 m (topF s)).fin.f (Za0 m (topF s)).fin.args = true := by
        rcases hE with h | h | h | h | h
        · omega
        · omega
        · omega
        · exact h.2.2.2.1
        · omega
      have := argsB_n hA
      exact okM_called hr h this.1.1 this.1.2 hp ⟨fun _ => h4, fun e => absurd e he⟩
    split
    · exact okM_thrown hr h hp
    split
    · exact okM_thrown hr h hp
    · rename_i h1 h4 h5 h6
      exact Zei h (okF_goF hr hF h1 h4 h5 h6) hp
  · exact h
theorem right0 {m : Zaj} (hr : Zbg m = true) : 0 < m.funcs.length ∧ (m.funcs.getD 0 default).params = 0 := by
  unfold Zbg at hr; rw [Bool.and_eq_true, decide_eq_true_eq] at hr; exact ⟨hr.1.1, hr.1.2.2⟩
theorem okM_new {m : Zaj} {inputs : List Int} (hr : Zbg m = true) (hi : (∀ x ∈ inputs, 0 ≤ x ∧ x ≤ 65535) ∧ inputs.length < 1000000) : OkM m (newM m inputs) := by
  refine ⟨rfl, fun f hf => ?_, fun f hf => ?_, by show 1 ≤ 32; omega, fun _ => by show 0 < 1; omega, hi⟩
  · rw [List.mem_singleton.1 hf]; exact okF_new hr (by omega) (by have := (right0 hr).1; omega)
  · cases hf
theorem okM_run {m : Zaj} {inputs : List Int} (hr : Zbg m = true) (hi : (∀ x ∈ inputs, 0 ≤ x ∧ x ≤ 65535) ∧ inputs.length < 1000000) : ∀ k, OkM m (runM m inputs k)
  | 0 => okM_new hr hi
  | k + 1 => okM_step hr (okM_run hr hi k)
theorem ev_called {m : Zaj} {s : Mach} {n : Int} {l : List Int} : (Zb2 m s n l).events = s.events := by unfold Zb2; split <;> rfl
theorem ev_answered {m : Zaj} {s : Mach} {w : Int} : (Zbw m s w).events = s.events := by unfold Zbw; split <;> rfl
theorem ev_thrown {m : Zaj} {s : Mach} {w : Int} : (Zbu m s w).events = s.events := by unfold Zbu; dsimp only; split <;> rfl
theorem ev_ins {m : Zaj} {s : Mach} {f : Za2} {x : Ins} : (insM m s f x).events = s.events ∨ ∃ e, (insM m s f x).events = s.events ++ [e] := by
  unfold insM
  split
  · exact .inl ev_called
  split
  · split <;> exact .inl rfl
  split
  · split <;> exact .inl rfl
  split
  · split <;> exact .inl rfl
  split
  · exact .inr ⟨_, rfl⟩
  split
  · split
    · exact .inl rfl
    · exact .inr ⟨_, rfl⟩
  · exact .inl rfl
theorem ev_step {m : Zaj} {s : Mach} : (Zfn m s).events = s.events ∨ ∃ e, (Zfn m s).events = s.events ++ [e] := by
  unfold Zfn
  split
  · unfold Zfo
    split
    · exact ev_ins
    split
    · exact .inl ev_answered
    split
    · exact .inl ev_called
    split
    · exact .inl ev_thrown
    split
    · exact .inl ev_thrown
    · exact .inl rfl
  · exact .inl rfl
theorem ev_run {m : Zaj} {inputs : List Int} : ∀ k, (runM m inputs k).events.length ≤ k
  | 0 => Nat.le_refl _
  | k + 1 => by
      have h1 := ev_run (m := m) (inputs := inputs) k
      show (Zfn m (runM m inputs k)).events.length ≤ k + 1
      rcases ev_step (m := m) (s := runM m inputs k) with h | ⟨e, h⟩
      · rw [h]; omega
      · rw [h, List.length_append]; simp; exact h1
theorem right_regs {m : Zaj} (hr : Zbg m = true) {n : Int} (h0 : 0 ≤ n) (h1 : n < m.funcs.length) : (m.funcs.getD n.toNat default).regs ≤ 256 := (okF_funP (Zd4 hr (show n.toNat < m.funcs.length by omega))).2.2.2.1
theorem c_calledOk {m : Zaj} {s : Mach} (hr : Zbg m = true) (h : OkM m s) (hp : 0 < s.stack.length) {n : Int} {l : List Int} (hA : argsB m (Zdb m (topF s)) n l = true) :
    FC Tryz.prog 108 [.agg (Zav m), .agg (Zas s), iv n, ints l] (.agg (Zas (Zb2 m s n l))) := by
  have := argsB_n hA
  exact c_rcalled m s n l hp this.1.1 this.1.2 this.2.1 (right_regs hr this.1.1 this.1.2) (fun p hp' => by rw [(h.fr _ (Zfk hp)).regs]; exact this.2.2 p hp')
theorem c_insOk {m : Zaj} {s : Mach} (hr : Zbg m = true) (h : OkM m s) (hp : 0 < s.stack.length) (hev : s.events.length < 1000000) (he : endB m (topF s) = false) : FCins m s (topF s) (Zby m (topF s)) := by
  have hF := h.fr _ (Zfk hp)
  have hI := (okF_ins hr hF he).2
  have h64 := (Zeu hr hF).1
  have a0 := hF.a0
  have a1 := hF.a1
  have hR := hF.regs
  rcases hI with h1 | h1 | h1 | h1 | h1 | h1 | h1
  · have hd := (Zad _ _).1 h1.2.1
    exact c_ins8 m s _ _ hp (by omega) (c_Reckon _ _ a0 (by omega) (by omega) (by omega) (by rw [hR]; exact hd) (fun h => by omega) (fun h => by omega))
  · have hd := (Zad _ _).1 h1.2.1
    have ha := (Zad _ _).1 h1.2.2.1
    rcases h1.1 with ho | ho
    · exact c_ins8 m s _ _ hp (by omega) (c_Reckon _ _ a0 (by omega) (by omega) (by omega) (by rw [hR]; exact hd) (fun h => by rw [hR]; exact ha) (fun h => by omega))
    · exact c_ins9 m s _ _ hp ho (by rw [hR]; exact hd) (by rw [hR]; exact ha) a0 (by omega)
  · have hd := (Zad _ _).1 h1.2.1
    have ha := (Zad _ _).1 h1.2.2.1
    have hb := (Zad _ _).1 h1.2.2.2.1
    exact c_ins8 m s _ _ hp (by omega) (c_Reckon _ _ a0 (by omega) (by omega) (by omega) (by rw [hR]; exact hd) (fun h => by rw [hR]; exact ha) (fun h => by rw [hR]; exact hb))
  · have ha := (Zad _ _).1 h1.2.2.1
    have hb := (Zad _ _).1 h1.2.2.2.1
    exact c_ins10 m s _ _ hp h1.1 (by rw [hR]; exact hb) h.cells (by rw [hR]; exact ha) a0 (by omega)
  · exact c_ins11 m s _ _ h1.1 (c_calledOk hr h hp h1.2.2.2.2.2)
  · have ha := (Zad _ _).1 h1.2.2.1
    exact c_ins12 m s _ _ hp h1.1 (by rw [hR]; exact ha) a0 (by omega) hev
  · have hd := (Zad _ _).1 h1.2.1
    exact c_ins13 m s _ _ hp h1.1 (by rw [hR]; exact hd) a0 (by omega) hev (fun i hi => h.inp.1 _ (Zcz _ hi)) h.inp.2
theorem c_StepOk {m : Zaj} {s : Mach} (hr : Zbg m = true) (h : OkM m s) (hev : s.events.length < 1000000) : FC Tryz.prog 62 [.agg (Zav m), .agg (Zas s)] (.agg (Zas (Zfn m s))) := by
  refine c_Step m s _ _ rfl rfl h.pos (by have := h.len; omega) (fun hd => h.fr _ (Zfk (h.pos hd))) ?_ ?_ ?_ ?_ ?_
  · intro hd he hk
    have hF := h.fr _ (Zfk (h.pos hd))
    have hE := (Zeu hr hF).2
    rw [hF.regs]
    rcases hE with h | h | h | h | h
    · exact (Zad _ _).1 h.2.1
    · omega
    · exact (Zad _ _).1 h.2.1
    · omega
    · omega
  · intro hd he
    exact c_insOk hr h (h.pos hd) hev he
  · intro hd he hk w
    have hp := h.pos hd
    refine c_answered m s w hp (fun h2 => (Zdr h h2).1) (fun h2 => ?_) (fun h2 he => ?_) (fun h2 he => ?_)
    · have hF := (Zdr h h2).1
      have := (Zeu hr hF).1
      have := hF.a1
      omega
    · exact ((callF_dst hr (Zdr h h2).1 (Zdr h h2).2).1 he).1
    · exact (callF_dst hr (Zdr h h2).1 (Zdr h h2).2).2 he
  · intro hd he hk
    have hF := h.fr _ (Zfk (h.pos hd))
    have hE := (Zeu hr hF).2
    refine c_calledOk hr h (h.pos hd) ?_
    rcases hE with h | h | h | h | h
    · omega
    · omega
    · omega
    · exact h.2.2.2.1
    · omega
  · intro hd w
    exact c_thrown m s w hr (h.pos hd) (fun i hi => h.fr _ (Zcz _ hi))
theorem c_RunOk {m : Zaj} {inputs : List Int} (hr : Zbg m = true) (hi : (∀ x ∈ inputs, 0 ≤ x ∧ x ≤ 65535) ∧ inputs.length < 1000000) (n : Nat) (hn : n < 1000000) : FC Tryz.prog 23 [.agg (Zav m), u16s inputs, iv n] (.agg (Zas (runM m inputs n))) := by
  have h0 := right0 hr
  refine c_Run m inputs n hn (c_newM m inputs h0.1 h0.2 (right_regs hr (n := 0) (by omega) (by omega))) (fun k hk => ?_)
  exact c_StepOk hr (okM_run hr hi k) (by have := ev_run (m := m) (inputs := inputs) k; omega)
end Go.Proofs.YtoelbgjpmpoolaaGreat
namespace Go.Proofs.YtoelbgjpmpoolaaGreat
open Go Dv
set_option maxRecDepth 10000
set_option linter.unusedSimpArgs false
set_option maxHeartbeats 2000000 in
theorem c_fNew (m : Zaj) (n : Int) (args : List Int) (hr : Zbg m = true) (h0 : 0 ≤ n) (h1 : n < m.funcs.length) (hp : (args.length : Int) = (m.funcs.getD n.toNat default).params) :
    HF Tryz.prog 67 [.agg (Zav m), iv n, u16s args] (.tup [.agg (frO (frN m n args) (.rs r0 1 0 (frN m n args).regs.length)), iv 0]) (oneR (frN m n args).regs) := by
  refine Zf3 tok Tryz.func67 rfl (by decide +kernel) (Nat.le_of_ble_eq_true rfl) ?_
  have hmx : maxL = 4294967296 := rfl
  have hFn := c_fFun m n hr h0 h1
  have hP := okF_funP (Zd4 hr (show n.toNat < m.funcs.length by omega))
  have hgen : ∃ F, m.funcs.getD n.toNat default = F := ⟨_, rfl⟩
  obtain ⟨F, hF⟩ := hgen
  rw [hF] at hp hFn hP
  have hR0 : 0 ≤ F.regs ∧ F.regs ≤ 256 ∧ (args.length : Int) ≤ F.regs := by have := hP.1; have := hP.2.2.1; have := hP.2.2.2.1; omega
  have hfr : frN m n args = ⟨n, 0, 0, (List.range F.regs.toNat).map (regN args), 0⟩ := by unfold frN; rw [hF]
  have hlen : ((List.range F.regs.toNat).map (regN args)).length = F.regs.toNat := by simp
  rw [hfr]
  (repeat' first | refine Zac ?_ | (refine Zab tok (by rfl) ?_; conv => whnf))
  refine .inl ⟨_, _, _, uG (QC.fc hFn rfl), ?_⟩
  conv => whnf
  (repeat' ((fail_if_success (show AWp _ _ _ (Code.region 3 _ _) _ _)); (fail_if_success (show AWp _ _ _ (Code.region 4 _ _) _ _)); first | refine Zac ?_ | (refine Zab tok (by rfl) ?_; conv => whnf) | (refine Zag ?_; conv => whnf) | refine Zae rfl (fun hb => ?_) (fun hb => ?_)))
  · exfalso; rw [decide_eq_true hp] at hb; cases hb
  clear hb
  ((repeat' ((fail_if_success (show AWp _ _ _ (Code.region 5 _ _) _ _)); first | refine Zac ?_ | (refine Zab tok (by rfl) ?_; conv => whnf) | (refine @And.intro (Zaa _ _ _ _) _ ?_ ?_; rotate_left; (conv => whnf); rotate_right))); all_goals (try ((guard_target = Zaa _ _ _ _); refine Zaf ?_; (all_goals (try simp only [Zaa, kzz, kz11, kz12, maxL, Zad] at *)); all_goals omega)))
  refine Zau (Weak.list (tl := [(1, iv n), (2, u16s args), (3, .bp (3, 0, 0) 0), (6, .bp (6, 0, 0) 0), (10, .bp (10, 0, 0) 0)]) [((3, 0, 0), .old (3, 0, 0), Zam (Zav m)), ((6, 0, 0), .old (6, 0, 0), Zam [iv 0, iv 0, iv 0, .nsl, .int .u16 0]), ((10, 0, 0), .old (10, 0, 0), .row false 5 1 (fun _ => [iv n, iv 0, iv 0, .rs (30, 0, 0) 1 0 F.regs.toNat, .int .u16 0])), ((30, 0, 0), .old (30, 0, 0), .row true 1 F.regs.toNat (fun _ => [.int .u16 0]))] rfl (by rfl) ?_ (.old rfl (BLe.refl _) (.old rfl (BLe.refl _) (.old rfl (BLe.rowW (Nat.le_refl _) (ltS (Wks.of rfl) lt0)) (.old rfl (BLe.refl _) .nil))))) ?_
  · ((repeat' first | exact TLes.nil | refine TLes.cons (TLe.eq rfl) ?_); skip)
  refine AWp_hand tok [_, _, _] _ [] rfl (by rfl) (by rfl) rfl ?_
  conv => whnf
  intro X ι a w s
  refine ⟨⟨.int .i64 args.length, .big [] (oneU (30, 0, 0) (.row true 1 F.regs.toNat (cpR args.length (fun i => [.int .u16 (args.getD i 0)]) (fun _ => [.int .u16 0])))), []⟩, copy_ok tok s rfl rfl rfl rfl rfl rfl rfl rfl rfl rfl trivial (Nat.le_refl _) (by omega), rfl, ?_⟩
  conv => whnf
  (repeat' first | refine Zac ?_ | (refine Zab tok (by rfl) ?_; conv => whnf) | (refine Zah ?_; conv => whnf))
  refine ⟨_, srcL [(r0, some (30, 0, 0))], rfl, ?_⟩
  rw [← and_assoc]
  refine ⟨leaveR [(r0, some (30, 0, 0))] rfl (fun c hc => ?_) (.old rfl rfl (GB.rowI (Nat.le_of_eq hlen) (fun q hq => ⟨?_, ?_⟩)) .nil) (fun j b e => by cases e), .tup (.cons (.agg (.cons (.imm rfl) (.cons (.imm rfl) (.cons (.imm rfl) (.cons (.rs rfl rfl rfl hlen.symm) (.cons (.imm rfl) .nil)))))) (.cons (.imm rfl) .nil))⟩
  · simp only [tgts, List.mem_cons, List.not_mem_nil, or_false] at hc
    subst hc; exact .inl rfl
  · unfold cpR; cases Nat.blt q args.length <;> rfl
  · have hq2 : q < F.regs.toNat := by simpa using hq
    have e : ((List.range F.regs.toNat).map (regN args)).getD q 0 = regN args q := by
      rw [List.getD_eq_getElem?_getD, List.getElem?_map, List.getElem?_range hq2]; rfl
    show cpR args.length _ _ q = [.int .u16 (((List.range F.regs.toNat).map (regN args)).getD q 0)]
    rw [e]
    unfold cpR regN
    by_cases hqa : q < args.length
    · rw [show Nat.blt q args.length = true from by rw [Nat.blt_eq]; exact hqa, if_pos hqa]; rfl
    · rw [show Nat.blt q args.length = false from by rw [Bool.eq_false_iff]; intro h; rw [Nat.blt_eq] at h; exact hqa h, if_neg hqa]; rfl
end Go.Proofs.YtoelbgjpmpoolaaGreat
namespace Go.Proofs.YtoelbgjpmpoolaaGreat
open Go Dv
set_option maxRecDepth 10000
set_option linter.unusedSimpArgs false
end Go.Proofs.YtoelbgjpmpoolaaGreat
namespace Go.Proofs.YtoelbgjpmpoolaaGreat
open Go Dv
set_option maxRecDepth 10000
set_option linter.unusedSimpArgs false
theorem c_IndexU (l : List Int) (n : Int) : FC Tryz.prog 209 [u16s l, .int .u16 n] (iv (idxG (fun y => decide (n = y)) l)) := by
  refine Zao tok Tryz.func209 rfl (by decide +kernel) (Nat.le_of_ble_eq_true rfl) ?_
  refine Zaw 0 (fun hl => ?_)
  have hl0 : l.length ≤ maxL := hl.1
  (repeat' first | refine Zac ?_ | (refine Zab tok (by rfl) ?_; conv => whnf) | refine Zai ?_)
  refine Za1 (fun i : Nat => mkS [(0, u16s l), (1, .int .u16 n), (7, iv l.length), (8, iv i)] [])
    (fun i => i ≤ l.length ∧ ∀ j, j < i → decide (n = l.getD j 0) = false) (fun i => l.length - i) 0 ⟨Nat.zero_le _, by simp⟩ ?_ ?_
  · refine Weak.list [] rfl (by rfl) ?_ .nil
    ((repeat' first | exact TLes.nil | refine TLes.cons (TLe.eq rfl) ?_); skip)
  rintro i ⟨hi2, hc⟩
  ((repeat' first | refine Zac ?_ | (refine Zab tok (by rfl) ?_; conv => whnf) | refine Zai ?_ | (refine Zag ?_; conv => whnf) | (refine Za3 ?_; conv => whnf) | (refine Zah ?_; conv => whnf) | refine Zae rfl (fun hb => ?_) (fun hb => ?_) | (refine @And.intro (Zaa _ _ _ _) _ ?_ ?_; rotate_left; (conv => whnf); rotate_right)); all_goals (try ((guard_target = Zaa _ _ _ _); refine Zaf ?_; (all_goals (try simp only [Zaa, kzz, kz11, kz12, maxL, Zad] at *)); all_goals omega)))
  · have hlt : i < l.length := by rename_i h; simp only [Zaa, kzz, kz11, kz12, maxL, Zad] at *; omega
    refine ⟨_, rfl, Rel.int ?_⟩
    exact (idxG_at 0 hlt hc (by simpa using hb)).symm
  · have hlt : i < l.length := by rename_i h; simp only [Zaa, kzz, kz11, kz12, maxL, Zad] at *; omega
    refine ⟨i + 1, ⟨hlt, fun j hj => ?_⟩, by omega, ?_⟩
    · by_cases e : j = i
      · subst e; simpa using hb
      · exact hc j (by omega)
    refine Weak.list [] rfl (by rfl) ?_ .nil
    ((repeat' first | exact TLes.nil | refine TLes.cons (TLe.eq rfl) ?_ | refine TLes.cons (TLe.int ?_) ?_); (all_goals first | ((try (simp only [Zaa, kzz, kz11, kz12, maxL, Zad] at *)); exact Zal (by omega) (by omega)) | skip))
  · refine ⟨_, rfl, Rel.int ?_⟩
    exact (idxG_none 0 (fun j hj => hc j (by simp only [Zaa, kzz, kz11, kz12, maxL, Zad] at *; omega))).symm
theorem c_ContainsU (l : List Int) (n : Int) : FC Tryz.prog 197 [u16s l, .int .u16 n] (.bool (hasB l n)) := by
  refine Zao tok Tryz.func197 rfl (by decide +kernel) (Nat.le_of_ble_eq_true rfl) ?_
  (repeat' first | refine Zac ?_ | (refine Zab tok (by rfl) ?_; conv => whnf))
  refine .inl ⟨_, _, _, uG (QC.fc (c_IndexU l n) rfl), ?_⟩
  conv => whnf
  (repeat' (refine Zah ?_; conv => whnf))
  refine ⟨_, rfl, Rel.bool ?_⟩
  unfold hasB; rw [← idxG_any]
theorem hasB_mem {l : List Int} {n : Int} : hasB l n = decide (n ∈ l) := by
  unfold hasB
  rw [Bool.eq_iff_iff, List.any_eq_true, decide_eq_true_eq]
  constructor
  · rintro ⟨x, hx, e⟩; rw [decide_eq_true_eq] at e; rw [e]; exact hx
  · intro h; exact ⟨n, h, by simp⟩
theorem c_fCatches (p : Pad) (w : Int) : FC Tryz.prog 162 [.agg (Zd8 p), .int .u16 w] (.bool (catchF p w)) := by
  refine Zao tok Tryz.func162 rfl (by decide +kernel) (Nat.le_of_ble_eq_true rfl) ?_
  (repeat' first | refine Zac ?_ | (refine Zab tok (by rfl) ?_; conv => whnf))
  refine .inl ⟨_, _, _, uG (QC.fc (c_ContainsU p.catch_ w) rfl), ?_⟩
  conv => whnf
  (repeat' (refine Zah ?_; conv => whnf))
  refine ⟨_, rfl, Rel.bool ?_⟩
  unfold catchF
  rw [← hasB_mem]
  cases p.all <;> cases hasB p.catch_ w <;> rfl
end Go.Proofs.YtoelbgjpmpoolaaGreat
namespace Go.Proofs.YtoelbgjpmpoolaaGreat
open Go Dv
set_option maxRecDepth 10000
set_option linter.unusedSimpArgs false
def sel (b : Bool) (x y : AV) : AV := bif b then x else y
theorem Zdk {a i : Nat} (h : i ≤ a) {x y : AV} : sel (Nat.blt a i) x y = y := by
  have : Nat.blt a i = false := by rw [Bool.eq_false_iff]; intro h2; rw [Nat.blt_eq] at h2; omega
  rw [this]; rfl
theorem Zcy {a i : Nat} (h : a < i) {x y : AV} : sel (Nat.blt a i) x y = x := by
  have : Nat.blt a i = true := by rw [Nat.blt_eq]; exact h
  rw [this]; rfl
section
variable {src : Dv.Id → Option Dv.Id} {h h' : Zap}
end
end Go.Proofs.YtoelbgjpmpoolaaGreat
namespace Go.Proofs.YtoelbgjpmpoolaaGreat
open Go Dv
set_option maxRecDepth 10000
set_option linter.unusedSimpArgs false
abbrev jB : Dv.Id := (1, 7, 0)
abbrev jF : Dv.Id := (2, 7, 0)
abbrev jE : Dv.Id := (942, 0, 0)
abbrev jT : Dv.Id := (944, 0, 0)
abbrev jN : Dv.Id := (941, 0, 0)
def evB (l : List Int) : Zan := .row true 1 l.length (fun x => [iv (l.getD x 0)])
def Zbj (l : List Za2) (q : Nat) : AV := sel (Nat.blt q (l.length - 1)) (.rs (945, 0, q) 1 0 (l.getD q default).regs.length) (.rs jT 1 0 (l.getD q default).regs.length)
def frC (l : List Za2) (q : Nat) : List AV := [iv (l.getD q default).f, iv (l.getD q default).block, iv (l.getD q default).at_, Zbj l q, .int .u16 (l.getD q default).fly]
def Zc2 (l : List Za2) : Zan := .row false 5 l.length (frC l)
def famW (l : List Za2) : Zap := famC 945 (fun z q => bif Nat.beq z 0 && Nat.blt q (l.length - 1) then some (regB (l.getD q default).regs) else none)
def macC (m : Zaj) (s : Mach) : List AV := [.rs jF 5 0 s.stack.length, cw s.cells 0, cw s.cells 1, cw s.cells 2, cw s.cells 3, cw s.cells 4, cw s.cells 5, cw s.cells 6, cw s.cells 7, cw s.cells 8, cw s.cells 9, cw s.cells 10, cw s.cells 11, cw s.cells 12, cw s.cells 13, cw s.cells 14, cw s.cells 15, u16s s.inputs, .rs jE 1 0 s.events.length, iv s.done, .int .u16 s.value, funcss m.funcs]
def macB (m : Zaj) (s : Mach) : Zan := .row false 22 1 (fun _ => macC m s)
def memL (m : Zaj) (s : Mach) : List (Dv.Id × Zan) := [(jB, macB m s), (jF, Zc2 s.stack), (jE, evB s.events), (jT, regB (topF s).regs)]
def mem (m : Zaj) (s : Mach) : Zap := orH (Za4 (memL m s)) (famW s.stack)
theorem famW_some {l : List Za2} {j : Dv.Id} {b : Zan} (h : famW l j = some b) : ∃ q, j = (945, 0, q) ∧ q < l.length - 1 ∧ b = regB (l.getD q default).regs := by
  obtain ⟨z, q, rfl, h3⟩ := famC_some h
  cases e : (Nat.beq z 0 && Nat.blt q (l.length - 1)) with
  | false => rw [e] at h3; cases h3
  | true =>
    rw [e] at h3
    rw [Bool.and_eq_true, Nat.blt_eq] at e
    have hz : z = 0 := Nat.eq_of_beq_eq_true e.1
    subst hz
    exact ⟨q, rfl, e.2, (Option.some.inj h3).symm⟩
theorem Za7 {l : List Za2} {q : Nat} (h : q < l.length - 1) : famW l (945, 0, q) = some (regB (l.getD q default).regs) := by
  show (bif Nat.beq 0 0 && Nat.blt q (l.length - 1) then some (regB (l.getD q default).regs) else none) = _
  rw [show (Nat.beq 0 0 && Nat.blt q (l.length - 1)) = true from by rw [Bool.and_eq_true, Nat.blt_eq]; exact ⟨rfl, h⟩]; rfl
theorem Zdu {m : Zaj} {s : Mach} {q : Nat} : mem m s (945, 0, q) = famW s.stack (945, 0, q) := rfl
theorem Zb8 {m : Zaj} {s : Mach} {j : Dv.Id} {b : Zan} (h : mem m s j = some b) : (j = jB ∧ b = macB m s) ∨ (j = jF ∧ b = Zc2 s.stack) ∨ (j = jE ∧ b = evB s.events) ∨ (j = jT ∧ b = regB (topF s).regs) ∨
    ∃ q, j = (945, 0, q) ∧ q < s.stack.length - 1 ∧ b = regB (s.stack.getD q default).regs := by
  rcases orH_some h with e | ⟨_, e⟩
  · simp only [memL, Za4] at e
    cases e1 : idEq jB j with
    | true => rw [e1] at e; exact .inl ⟨(Za6.1 e1).symm, (Option.some.inj e).symm⟩
    | false =>
      cases e2 : idEq jF j with
      | true => rw [e1, e2] at e; exact .inr (.inl ⟨(Za6.1 e2).symm, (Option.some.inj e).symm⟩)
      | false =>
        cases e3 : idEq jE j with
        | true => rw [e1, e2, e3] at e; exact .inr (.inr (.inl ⟨(Za6.1 e3).symm, (Option.some.inj e).symm⟩))
        | false =>
          cases e4 : idEq jT j with
          | true => rw [e1, e2, e3, e4] at e; exact .inr (.inr (.inr (.inl ⟨(Za6.1 e4).symm, (Option.some.inj e).symm⟩)))
          | false => rw [e1, e2, e3, e4] at e; cases e
  · exact .inr (.inr (.inr (.inr (famW_some e))))
def D32 : List Dv.Id := [(945, 0, 0), (945, 0, 1), (945, 0, 2), (945, 0, 3), (945, 0, 4), (945, 0, 5), (945, 0, 6), (945, 0, 7), (945, 0, 8), (945, 0, 9), (945, 0, 10), (945, 0, 11), (945, 0, 12), (945, 0, 13), (945, 0, 14), (945, 0, 15), (945, 0, 16), (945, 0, 17), (945, 0, 18), (945, 0, 19), (945, 0, 20), (945, 0, 21), (945, 0, 22), (945, 0, 23), (945, 0, 24), (945, 0, 25), (945, 0, 26), (945, 0, 27), (945, 0, 28), (945, 0, 29), (945, 0, 30), (945, 0, 31)]
theorem D32_eq : D32 = (List.range 32).map fun q => (945, 0, q) := rfl
theorem Zf4 {i : Dv.Id} : i ∈ D32 ↔ ∃ q, q < 32 ∧ i = (945, 0, q) := by
  rw [D32_eq, List.mem_map]
  constructor
  · rintro ⟨q, hq, rfl⟩; exact ⟨q, List.mem_range.1 hq, rfl⟩
  · rintro ⟨q, hq, rfl⟩; exact ⟨q, List.mem_range.2 hq, rfl⟩
abbrev LW : List Dv.Id := [jB, jF]
theorem mem_closed (m : Zaj) (s : Mach) : ∀ j b, mem m s j = some b → Dv.mapB (kpH (mem m s)) b = b := by
  intro j b h
  have kp : ∀ i, (mem m s i).isSome = true → kpH (mem m s) i = some i := fun i hi => by
    unfold kpH; cases e : mem m s i with
    | none => rw [e] at hi; cases hi
    | some b => rfl
  rcases Zb8 h with ⟨rfl, rfl⟩ | ⟨rfl, rfl⟩ | ⟨rfl, rfl⟩ | ⟨rfl, rfl⟩ | ⟨q, rfl, hq, rfl⟩
  · show Zan.row false 22 1 (fun _ => Zbl (kpH (mem m s)) (macC m s)) = _
    rfl
  · show Zan.row false 5 s.stack.length (fun q => Zbl (kpH (mem m s)) (frC s.stack q)) = Zan.row false 5 s.stack.length (frC s.stack)
    congr 1
    funext q
    show [_, _, _, Zbk _ (Zbj s.stack q), _] = _
    unfold frC
    congr 4
    unfold Zbj
    by_cases hq : q < s.stack.length - 1
    · rw [Zcy hq]
      show (match kpH (mem m s) (945, 0, q) with | some j => AV.rs j 1 0 _ | none => .any) = _
      rw [kp _ (by rw [Zdu, Za7 hq]; rfl)]
    · rw [Zdk (by omega)]; rfl
  · rfl
  · rfl
  · rfl
theorem mem_sub {m : Zaj} {s : Mach} {h : Zap} (h1 : h jB = some (macB m s)) (h2 : h jF = some (Zc2 s.stack)) (h3 : h jE = some (evB s.events)) (h4 : h jT = some (regB (topF s).regs)) (h5 : ∀ q, q < s.stack.length - 1 → h (945, 0, q) = some (regB (s.stack.getD q default).regs)) :
    ∀ j b, mem m s j = some b → h j = some b := fun j b e => by
  rcases Zb8 e with ⟨rfl, rfl⟩ | ⟨rfl, rfl⟩ | ⟨rfl, rfl⟩ | ⟨rfl, rfl⟩ | ⟨q, rfl, hq, rfl⟩
  · exact h1
  · exact h2
  · exact h3
  · exact h4
  · exact h5 q hq
theorem Zaq {l : List Za2} {q : Nat} (h : l.length - 1 ≤ q) : famW l (945, 0, q) = none := by
  cases e : famW l (945, 0, q) with
  | none => rfl
  | some b =>
    obtain ⟨q', e1, e2, _⟩ := famW_some e
    injection e1 with _ e1
    injection e1 with _ e1
    subst e1; omega
theorem Za5 {m : Zaj} {s : Mach} {h : Zap} (h1 : h jB = some (macB m s)) (h2 : h jF = some (Zc2 s.stack)) (h3 : h jE = some (evB s.events)) (h4 : h jT = some (regB (topF s).regs)) (h5 : ∀ q, h (945, 0, q) = famW s.stack (945, 0, q)) :
    ∀ j b, mem m s j = some b → h j = some b := mem_sub h1 h2 h3 h4 (fun q hq => by rw [h5 q, Za7 hq])
section
variable {P : Program} {f : FuncId} {m : Zaj} {s s' : Mach} {args : List AV} {r : AV} {h : Zap}
abbrev dK : List Dv.Id := jE :: jT :: D32
abbrev dN : List Dv.Id := jN :: jE :: jT :: D32
theorem QH.tnM {L : List Dv.Id} (hB : jB ∈ L) (hF : jF ∈ L) (hc : HG P L f (mem m s) args r (mem m s')) (h32 : s.stack.length ≤ 32) (hsub : ∀ j b, mem m s j = some b → h j = some b) (hag : Zbl (kpH (mem m s)) args = args)
    (hfree : ∀ q, s.stack.length - 1 ≤ q → h (945, 0, q) = none) : QH P h f args dK (mem m s') r := by
  refine QH.frame hc hsub (mem_closed m s) hag (fun i hi => ?_) (fun i hi => ?_) (fun i hi => ?_)
  · cases e : mem m s i with
    | none => rw [e] at hi; cases hi
    | some b =>
      rcases Zb8 e with ⟨rfl, _⟩ | ⟨rfl, _⟩ | ⟨rfl, _⟩ | ⟨rfl, _⟩ | ⟨q, rfl, hq, _⟩
      · exact .inr ⟨hB, rfl, rfl⟩
      · exact .inr ⟨hF, rfl, rfl⟩
      · exact .inl rfl
      · exact .inl rfl
      · exact .inl (Zb9.2 (List.mem_cons_of_mem _ (List.mem_cons_of_mem _ (Zf4.2 ⟨q, by omega, rfl⟩))))
  · cases e : mem m s' i with
    | none => rw [e] at hi; cases hi
    | some b =>
      rcases Zb8 e with ⟨rfl, _⟩ | ⟨rfl, _⟩ | ⟨rfl, _⟩ | ⟨rfl, _⟩ | ⟨q, rfl, hq, _⟩
      · exact .inl rfl
      · exact .inl rfl
      · exact .inl rfl
      · exact .inl rfl
      · by_cases hq2 : q < s.stack.length - 1
        · exact .inl (by rw [Zdu, Za7 hq2]; rfl)
        · exact .inr (hfree q (by omega))
  · rcases List.mem_cons.1 (Zb9.1 hi) with rfl | hi
    · exact .inl rfl
    rcases List.mem_cons.1 hi with rfl | hi
    · exact .inl rfl
    obtain ⟨q, _, rfl⟩ := Zf4.1 hi
    by_cases hq2 : q < s.stack.length - 1
    · exact .inl (by rw [Zdu, Za7 hq2]; rfl)
    · exact .inr (hfree q (by omega))
def macX (F : Dv.Id) (m : Zaj) (s : Mach) : List AV := .rs F 5 0 s.stack.length :: (macC m s).drop 1
def memN (m : Zaj) (s : Mach) : Zap := orH (Za4 [(jB, .row false 22 1 (fun _ => macX jN m s)), (jN, Zc2 s.stack), (jE, evB s.events), (jT, regB (topF s).regs)]) (famW s.stack)
theorem memN_some {j : Dv.Id} {b : Zan} (h : memN m s j = some b) : (j = jB ∧ b = .row false 22 1 (fun _ => macX jN m s)) ∨ (j = jN ∧ b = Zc2 s.stack) ∨ (j = jE ∧ b = evB s.events) ∨ (j = jT ∧ b = regB (topF s).regs) ∨
    ∃ q, j = (945, 0, q) ∧ q < s.stack.length - 1 ∧ b = regB (s.stack.getD q default).regs := by
  rcases orH_some h with e | ⟨_, e⟩
  · simp only [Za4] at e
    cases e1 : idEq jB j with
    | true => rw [e1] at e; exact .inl ⟨(Za6.1 e1).symm, (Option.some.inj e).symm⟩
    | false =>
      cases e2 : idEq jN j with
      | true => rw [e1, e2] at e; exact .inr (.inl ⟨(Za6.1 e2).symm, (Option.some.inj e).symm⟩)
      | false =>
        cases e3 : idEq jE j with
        | true => rw [e1, e2, e3] at e; exact .inr (.inr (.inl ⟨(Za6.1 e3).symm, (Option.some.inj e).symm⟩))
        | false =>
          cases e4 : idEq jT j with
          | true => rw [e1, e2, e3, e4] at e; exact .inr (.inr (.inr (.inl ⟨(Za6.1 e4).symm, (Option.some.inj e).symm⟩)))
          | false => rw [e1, e2, e3, e4] at e; cases e
  · exact .inr (.inr (.inr (.inr (famW_some e))))
theorem memN_closed (m : Zaj) (s : Mach) : ∀ j b, memN m s j = some b → Dv.mapB (kpH (memN m s)) b = b := by
  intro j b h
  have kp : ∀ i, (memN m s i).isSome = true → kpH (memN m s) i = some i := fun i hi => by
    unfold kpH; cases e : memN m s i with
    | none => rw [e] at hi; cases hi
    | some b => rfl
  rcases memN_some h with ⟨rfl, rfl⟩ | ⟨rfl, rfl⟩ | ⟨rfl, rfl⟩ | ⟨rfl, rfl⟩ | ⟨q, rfl, hq, rfl⟩
  · rfl
  · show Zan.row false 5 s.stack.length (fun q => Zbl (kpH (memN m s)) (frC s.stack q)) = Zan.row false 5 s.stack.length (frC s.stack)
    congr 1
    funext q
    show [_, _, _, Zbk _ (Zbj s.stack q), _] = _
    unfold frC
    congr 4
    unfold Zbj
    by_cases hq : q < s.stack.length - 1
    · rw [Zcy hq]
      show (match kpH (memN m s) (945, 0, q) with | some j => AV.rs j 1 0 _ | none => .any) = _
      rw [kp _ (by show (famW s.stack (945, 0, q)).isSome = true; rw [Za7 hq]; rfl)]
    · rw [Zdk (by omega)]; rfl
  · rfl
  · rfl
  · rfl
theorem QH.ddM {L : List Dv.Id} (hB : jB ∈ L) (hc : HG P L f (memN m s) args r (mem m s')) (h32 : s.stack.length ≤ 32) (hsub : ∀ j b, memN m s j = some b → h j = some b) (hag : Zbl (kpH (memN m s)) args = args) (hjF : h jF = none)
    (hfree : ∀ q, s.stack.length - 1 ≤ q → h (945, 0, q) = none) : QH P h f args dN (mem m s') r := by
  have fam : ∀ q, memN m s (945, 0, q) = famW s.stack (945, 0, q) := fun q => rfl
  refine QH.frame hc hsub (memN_closed m s) hag (fun i hi => ?_) (fun i hi => ?_) (fun i hi => ?_)
  · cases e : memN m s i with
    | none => rw [e] at hi; cases hi
    | some b =>
      rcases memN_some e with ⟨rfl, _⟩ | ⟨rfl, _⟩ | ⟨rfl, _⟩ | ⟨rfl, _⟩ | ⟨q, rfl, hq, _⟩
      · exact .inr ⟨hB, rfl, rfl⟩
      · exact .inl rfl
      · exact .inl rfl
      · exact .inl rfl
      · exact .inl (Zb9.2 (List.mem_cons_of_mem _ (List.mem_cons_of_mem _ (List.mem_cons_of_mem _ (Zf4.2 ⟨q, by omega, rfl⟩)))))
  · cases e : mem m s' i with
    | none => rw [e] at hi; cases hi
    | some b =>
      rcases Zb8 e with ⟨rfl, _⟩ | ⟨rfl, _⟩ | ⟨rfl, _⟩ | ⟨rfl, _⟩ | ⟨q, rfl, hq, _⟩
      · exact .inl rfl
      · exact .inr hjF
      · exact .inl rfl
      · exact .inl rfl
      · by_cases hq2 : q < s.stack.length - 1
        · exact .inl (by rw [fam, Za7 hq2]; rfl)
        · exact .inr (hfree q (by omega))
  · rcases List.mem_cons.1 (Zb9.1 hi) with rfl | hi
    · exact .inl rfl
    rcases List.mem_cons.1 hi with rfl | hi
    · exact .inl rfl
    rcases List.mem_cons.1 hi with rfl | hi
    · exact .inl rfl
    obtain ⟨q, _, rfl⟩ := Zf4.1 hi
    by_cases hq2 : q < s.stack.length - 1
    · exact .inl (by rw [fam, Za7 hq2]; rfl)
    · exact .inr (hfree q (by omega))
end
theorem GV_reg {src : Dv.Id → Option Dv.Id} {h h' : Zap} {l : List Za2} {q : Nat} (hq : q < l.length) (hs : ∀ q, q < l.length - 1 → src (945, 0, q) = some (945, 0, q)) (ht : src jT = some jT) (hf : ∀ q, q < l.length - 1 → (h' (945, 0, q)).isSome = true) (hT : (h' jT).isSome = true) : GV src h h' (Zbj l q) (Zbj l q) := by
  unfold Zbj
  by_cases e : q < l.length - 1
  · cases e1 : h' (945, 0, q) with
    | none => have := hf q e; rw [e1] at this; cases this
    | some b => exact .cc (Zcy e) (Zcy e) (.rs e1 (hs q e) rfl rfl)
  · cases e1 : h' jT with
    | none => rw [e1] at hT; cases hT
    | some b => exact .cc (Zdk (by omega)) (Zdk (by omega)) (.rs e1 ht rfl rfl)
theorem GB_fr {src : Dv.Id → Option Dv.Id} {h h' : Zap} {l : List Za2} (hs : ∀ q, q < l.length - 1 → src (945, 0, q) = some (945, 0, q)) (ht : src jT = some jT) (hf : ∀ q, q < l.length - 1 → (h' (945, 0, q)).isSome = true) (hT : (h' jT).isSome = true) : GB src h h' (Zc2 l) (Zc2 l) :=
  GB.row (Nat.le_refl _) (fun q hq => .cons (.imm rfl) (.cons (.imm rfl) (.cons (.imm rfl) (.cons (GV_reg hq hs ht hf hT) (.cons (.imm rfl) .nil))))) (fun e => by cases e)
theorem Zbv {src : Dv.Id → Option Dv.Id} {h h' : Zap} (l : List Int) : GB src h h' (regB l) (regB l) := GB.rowI (Nat.le_refl _) (fun q hq => ⟨rfl, rfl⟩)
theorem Zed {src : Dv.Id → Option Dv.Id} {h h' : Zap} (l : List Int) : GB src h h' (evB l) (evB l) := GB.rowI (Nat.le_refl _) (fun q hq => ⟨rfl, rfl⟩)
theorem Zfw {src : Dv.Id → Option Dv.Id} {h h' : Zap} {l : List Za2} (hs : ∀ q, q < l.length - 1 → src (945, 0, q) = some (945, 0, q)) (hh : ∀ q, q < l.length - 1 → h (945, 0, q) = some (regB (l.getD q default).regs)) : ∀ j b, famW l j = some b → HOk src h h' j b := fun j b e => by
  obtain ⟨q, rfl, hq, rfl⟩ := famW_some e
  exact HOk.mk (hs q hq) (hh q hq) (Zbv _)
end Go.Proofs.YtoelbgjpmpoolaaGreat
namespace Go.Proofs.YtoelbgjpmpoolaaGreat
open Go Dv
set_option maxRecDepth 10000
set_option linter.unusedSimpArgs false
theorem Zfd (m : Zaj) (s : Mach) (h : 0 < s.stack.length) (hl : s.stack.length ≤ 1000) : HG Tryz.prog (LW) 111 (mem m s) [.bp jB 0] (.rp jF 5 (s.stack.length - 1) 0) (mem m s) := by
  refine HG_intro tok Tryz.func111 rfl (by decide +kernel) (Nat.le_of_ble_eq_true rfl) ?_
  have hmx : maxL = 4294967296 := rfl
  ((repeat' first | refine Zac ?_ | (refine Zab tok (by rfl) ?_; conv => whnf) | (refine Zat tok mix (by rfl) ?_; conv => whnf) | (refine Zah ?_; conv => whnf) | (refine @And.intro (Zaa _ _ _ _) _ ?_ ?_; rotate_left; (conv => whnf); rotate_right)); all_goals (try ((guard_target = Zaa _ _ _ _); refine Zaf ?_; (all_goals (try simp only [Zaa, kzz, kz11, kz12, maxL, Zad] at *)); (all_goals (try (simp (disch := omega) only [Zal]))); all_goals omega)))
  refine ⟨_, rfl, rfl, ?_⟩
  show AV.rp jF 5 (0 + (IntKind.i64.wrap ((s.stack.length : Int) - 1)).toNat) 0 = _
  rw [Zal (by omega) (by omega)]
  congr 1; omega
theorem Zcs {m : Zaj} {s' : Mach} : ∀ i ∈ LW, Zeh i = true → (mem m s' i).isSome = true ∧ srcL [] i = some i := fun i hi _ => by
  rcases List.mem_cons.1 hi with rfl | hi
  · exact ⟨rfl, rfl⟩
  · rw [List.mem_singleton.1 hi]; exact ⟨rfl, rfl⟩
theorem Zdf {m : Zaj} {s s' : Mach} {h : Zap} (hst : s'.stack = s.stack) (hev : s'.events = s.events) {b0 : Zan} (h1 : h jB = some b0) (hB : GB (srcL []) h (mem m s') b0 (macB m s')) (h2 : h jF = some (Zc2 s.stack)) (h3 : h jE = some (evB s.events)) (h4 : h jT = some (regB (topF s).regs)) (h5 : ∀ q, q < s.stack.length - 1 → h (945, 0, q) = some (regB (s.stack.getD q default).regs)) :
    (∀ j j' i, (mem m s' j).isSome = true → (mem m s' j').isSome = true → srcL [] j = some i → srcL [] j' = some i → j = j') ∧ ∀ j b, mem m s' j = some b → HOk (srcL []) h (mem m s') j b := by
  have ht : topF s' = topF s := by unfold topF; rw [hst]
  refine ⟨fun j j' i _ _ e1 e2 => by cases e1; cases e2; rfl, fun j b e => ?_⟩
  rcases Zb8 e with ⟨rfl, rfl⟩ | ⟨rfl, rfl⟩ | ⟨rfl, rfl⟩ | ⟨rfl, rfl⟩ | ⟨q, rfl, hq, rfl⟩
  · exact HOk.mk rfl h1 hB
  · refine HOk.mk rfl h2 ?_
    rw [← hst]
    exact GB_fr (fun _ _ => rfl) rfl (fun q hq => by rw [Zdu, Za7 hq]; rfl) rfl
  · refine HOk.mk rfl h3 ?_
    rw [hev]; exact Zed _
  · refine HOk.mk rfl h4 ?_
    rw [ht]; exact Zbv _
  · refine HOk.mk rfl (h5 q (by rw [← hst]; exact hq)) ?_
    rw [hst]; exact Zbv _
theorem Zcj {m : Zaj} {s : Mach} {h h' : Zap} {b : Zan} {b' : Zan} {imm : Bool} {f : Nat → List AV} (hf : f 0 = macC m s) (hF : h' jF = some b) (hE : h' jE = some b') : GB (srcL []) h h' (.row imm 22 1 f) (macB m s) :=
  GB.one (by
    rw [hf]
    exact .cons (.rs hF rfl rfl rfl) (.cons (.imm rfl) (.cons (.imm rfl) (.cons (.imm rfl) (.cons (.imm rfl) (.cons (.imm rfl) (.cons (.imm rfl) (.cons (.imm rfl) (.cons (.imm rfl) (.cons (.imm rfl) (.cons (.imm rfl) (.cons (.imm rfl) (.cons (.imm rfl) (.cons (.imm rfl) (.cons (.imm rfl) (.cons (.imm rfl) (.cons (.imm rfl) (.cons (.imm rfl) (.cons (.rs hE rfl rfl rfl) (.cons (.imm rfl) (.cons (.imm rfl) (.cons (.imm rfl) .nil)))))))))))))))))))))) (fun e => by cases e)
theorem Zbf {m : Zaj} {s : Mach} {d : List Dv.Id} {h : Zap} {q : Nat} (hq : q < s.stack.length - 1) : bigH d (mem m s) h (945, 0, q) = some (regB (s.stack.getD q default).regs) := by
  unfold bigH; rw [Zdu, Za7 hq]
theorem Zc8 (m : Zaj) (s : Mach) (i : Nat) (hi : i < s.stack.length) (hF : OkF m (s.stack.getD i default)) : HG Tryz.prog (LW) 112 (mem m s) [.bp jB 0, .rp jF 5 i 0] (.agg (Zbi (Za0 m (s.stack.getD i default)))) (mem m s) := by
  refine Zbc tok Tryz.func112 rfl (by decide +kernel) (Nat.le_of_ble_eq_true rfl) ?_
  have hmx : maxL = 4294967296 := rfl
  have f0 := hF.f0
  have f1 := hF.f1
  have b0 := hF.b0
  have b1 : (s.stack.getD i default).block < (m.funcs.getD (s.stack.getD i default).f.toNat default).blocks.length := hF.b1
  ((repeat' first | refine Zac ?_ | (refine Zab tok (by rfl) ?_; conv => whnf) | (refine Zat tok mix (by rfl) ?_; conv => whnf) | (refine Zah ?_; conv => whnf) | (refine @And.intro (Zaa _ _ _ _) _ ?_ ?_; rotate_left; (conv => whnf); rotate_right)); all_goals (try ((guard_target = Zaa _ _ _ _); refine Zaf ?_; (all_goals (try simp only [Zaa, kzz, kz11, kz12, maxL, Zad] at *)); all_goals omega)))
  refine ⟨_, srcL [], rfl, ?_⟩
  rw [← and_assoc]
  exact ⟨Zdf rfl rfl rfl (Zcj rfl rfl rfl) rfl rfl rfl (fun q hq => Za7 hq), .agg (GVs.imm rfl), Zcs⟩
theorem c_mEnd (m : Zaj) (s : Mach) (how w : Int) : HG Tryz.prog (LW) 155 (mem m s) [.bp jB 0, iv how, .int .u16 w] (.tup []) (mem m (endM s how w)) := by
  refine Zbc tok Tryz.func155 rfl (by decide +kernel) (Nat.le_of_ble_eq_true rfl) ?_
  (repeat' (refine Zab tok (by rfl) ?_; conv => whnf))
  refine ⟨_, srcL [], rfl, ?_⟩
  rw [← and_assoc]
  exact ⟨Zdf (s := s) rfl rfl rfl (Zcj (s := endM s how w) rfl rfl rfl) rfl rfl rfl (fun q hq => Za7 hq), .tup .nil, Zcs⟩
end Go.Proofs.YtoelbgjpmpoolaaGreat
namespace Go.Proofs.YtoelbgjpmpoolaaGreat
open Go Dv
set_option maxRecDepth 10000
set_option linter.unusedSimpArgs false
theorem pop_getD {s : Mach} {q : Nat} (h : q < s.stack.length - 1) : (popM s).stack.getD q default = s.stack.getD q default := Zb3 _ h
theorem c_mPop (m : Zaj) (s : Mach) (h : 0 < s.stack.length) (hl : s.stack.length ≤ 1000) : HG Tryz.prog LW 157 (mem m s) [.bp jB 0] (.tup []) (mem m (popM s)) := by
  refine Zbc tok Tryz.func157 rfl (by decide +kernel) (Nat.le_of_ble_eq_true rfl) ?_
  have hmx : maxL = 4294967296 := rfl
  have hpl := Zct (s := s)
  have hq : (IntKind.i64.wrap ((s.stack.length : Int) - 1)).toNat = s.stack.length - 1 := by rw [Zal (by omega) (by omega)]; omega
  ((repeat' first | (refine Zat tok mix (by rfl) ?_; conv => whnf) | (refine @And.intro (Zaa _ _ _ _) _ ?_ ?_; rotate_left; (conv => whnf); rotate_right)); all_goals (try ((guard_target = Zaa _ _ _ _); refine Zaf ?_; (all_goals (try simp only [Zaa, kzz, kz11, kz12, maxL, Zad] at *)); (all_goals (try (simp (disch := omega) only [Zal]))); all_goals omega)))
  by_cases h1 : s.stack.length = 1
  · refine ⟨_, srcL [(jT, none)], rfl, Zez rfl (fun i hi => by cases hi), fun j b e => ?_, .tup .nil, fun i hi hp => ?_⟩
    · rcases Zb8 e with ⟨rfl, rfl⟩ | ⟨rfl, rfl⟩ | ⟨rfl, rfl⟩ | ⟨rfl, rfl⟩ | ⟨q, rfl, hq2, rfl⟩
      · refine HOk.mk rfl rfl (GB.one ?_ (fun e => by cases e))
        refine .cons (.rs rfl rfl rfl ?_) (.cons (.imm rfl) (.cons (.imm rfl) (.cons (.imm rfl) (.cons (.imm rfl) (.cons (.imm rfl) (.cons (.imm rfl) (.cons (.imm rfl) (.cons (.imm rfl) (.cons (.imm rfl) (.cons (.imm rfl) (.cons (.imm rfl) (.cons (.imm rfl) (.cons (.imm rfl) (.cons (.imm rfl) (.cons (.imm rfl) (.cons (.imm rfl) (.cons (.imm rfl) (.cons (.rs rfl rfl rfl rfl) (.cons (.imm rfl) (.cons (.imm rfl) (.cons (.imm rfl) .nil)))))))))))))))))))))
        rw [hq, hpl]; simp
      · refine HOk.mk rfl rfl ?_
        exact GB.row (by rw [hpl]; exact Nat.sub_le _ _) (fun q hq2 => by omega) (fun e => by cases e)
      · exact HOk.mk rfl rfl (Zed _)
      · refine ⟨true, 1, fun x => [.int .u16 (([] : List Int).getD x 0)], ?_⟩
        have : (topF (popM s)).regs = [] := by
          unfold topF
          rw [List.getD_eq_getElem?_getD, List.getElem?_eq_none (by omega)]; rfl
        rw [this]; rfl
      · omega
    · first | (rcases List.mem_cons.1 hi with rfl | hi; exact ⟨rfl, rfl⟩; rw [List.mem_singleton.1 hi]; exact ⟨rfl, rfl⟩)
  · have h2 : s.stack.length - 2 < s.stack.length - 1 := by omega
    have htop : topF (popM s) = s.stack.getD (s.stack.length - 2) default := by
      unfold topF; rw [Zct]; show (s.stack.take (s.stack.length - 1)).getD (s.stack.length - 1 - 1) default = _
      rw [Zb3 _ (by omega)]; rfl
    refine ⟨_, srcL [(jT, some (945, 0, s.stack.length - 2))], rfl, Zez rfl (fun i hi => ?_), fun j b e => ?_, .tup .nil, fun i hi hp => ?_⟩
    · rw [List.mem_singleton.1 (show i ∈ [(945, 0, s.stack.length - 2)] from hi)]
      exact .inl (Zaq (by rw [hpl]; omega))
    · rcases Zb8 e with ⟨rfl, rfl⟩ | ⟨rfl, rfl⟩ | ⟨rfl, rfl⟩ | ⟨rfl, rfl⟩ | ⟨q, rfl, hq2, rfl⟩
      · refine HOk.mk rfl rfl (GB.one ?_ (fun e => by cases e))
        refine .cons (.rs rfl rfl rfl ?_) (.cons (.imm rfl) (.cons (.imm rfl) (.cons (.imm rfl) (.cons (.imm rfl) (.cons (.imm rfl) (.cons (.imm rfl) (.cons (.imm rfl) (.cons (.imm rfl) (.cons (.imm rfl) (.cons (.imm rfl) (.cons (.imm rfl) (.cons (.imm rfl) (.cons (.imm rfl) (.cons (.imm rfl) (.cons (.imm rfl) (.cons (.imm rfl) (.cons (.imm rfl) (.cons (.rs rfl rfl rfl rfl) (.cons (.imm rfl) (.cons (.imm rfl) (.cons (.imm rfl) .nil)))))))))))))))))))))
        rw [hq, hpl]; simp
      · refine HOk.mk rfl rfl ?_
        refine GB.row (by rw [hpl]; exact Nat.sub_le _ _) (fun q hq2 => ?_) (fun e => by cases e)
        rw [hpl] at hq2
        show GVs _ _ _ (frC s.stack q) (frC (popM s).stack q)
        unfold frC
        rw [pop_getD hq2]
        refine .cons (.imm rfl) (.cons (.imm rfl) (.cons (.imm rfl) (.cons ?_ (.cons (.imm rfl) .nil))))
        unfold Zbj
        rw [pop_getD hq2]
        by_cases e : q < s.stack.length - 2
        · exact .cc (Zcy hq2) (Zcy (by rw [hpl]; omega)) (.rs ((Zdu (m := m) (s := popM s)).trans (Za7 (by rw [hpl]; omega))) rfl rfl rfl)
        · have : q = s.stack.length - 2 := by omega
          subst this
          exact .cc (Zcy hq2) (Zdk (by rw [hpl]; omega)) (.rs rfl rfl rfl rfl)
      · exact HOk.mk rfl rfl (Zed _)
      · refine HOk.mk rfl (Za7 (l := s.stack) h2) ?_
        rw [htop]; exact Zbv _
      · rw [hpl] at hq2
        refine HOk.mk rfl (Za7 (l := s.stack) (show q < s.stack.length - 1 by omega)) ?_
        rw [pop_getD (by omega)]; exact Zbv _
    · first | (rcases List.mem_cons.1 hi with rfl | hi; exact ⟨rfl, rfl⟩; rw [List.mem_singleton.1 hi]; exact ⟨rfl, rfl⟩)
end Go.Proofs.YtoelbgjpmpoolaaGreat
namespace Go.Proofs.YtoelbgjpmpoolaaGreat
open Go Dv
set_option maxRecDepth 10000
set_option linter.unusedSimpArgs false
def padV (m : Zaj) (f : Za2) : Int × Pad × Bool := if endB m f = true ∧ (Za0 m f).fin.kind = 4 then ((Za0 m f).fin.pad, padF m f, true) else (0, ⟨0, [], false, false⟩, false)
set_option maxHeartbeats 2000000 in
theorem c_mPad (m : Zaj) (s : Mach) (i : Nat) (hi : i < s.stack.length) (h32 : s.stack.length ≤ 32) (hF : OkF m (s.stack.getD i default)) (hp : (Za0 m (s.stack.getD i default)).fin.kind = 4 → 0 ≤ (Za0 m (s.stack.getD i default)).fin.pad ∧ (Za0 m (s.stack.getD i default)).fin.pad < (Zdb m (s.stack.getD i default)).blocks.length) :
    HG Tryz.prog (LW) 161 (mem m s) [.bp jB 0, .rp jF 5 i 0] (.tup [iv (padV m (s.stack.getD i default)).1, .agg (Zd8 (padV m (s.stack.getD i default)).2.1), .bool (padV m (s.stack.getD i default)).2.2]) (mem m s) := by
  refine Zbc tok Tryz.func161 rfl (by decide +kernel) (Nat.le_of_ble_eq_true rfl) ?_
  have hmx : maxL = 4294967296 := rfl
  have hB := Zc8 m s i hi hF
  have f0 := hF.f0
  have f1 := hF.f1
  have a0 := hF.a0
  have a1 := hF.a1
  have hE : endB m (s.stack.getD i default) = decide ((s.stack.getD i default).at_ = (Za0 m (s.stack.getD i default)).ins.length) := rfl
  have hpl : (Za0 m (s.stack.getD i default)).fin.kind = 4 → 0 ≤ (Za0 m (s.stack.getD i default)).fin.pad ∧ (Za0 m (s.stack.getD i default)).fin.pad < (m.funcs.getD (s.stack.getD i default).f.toNat default).blocks.length := hp
  have hpf : padF m (s.stack.getD i default) = ((m.funcs.getD (s.stack.getD i default).f.toNat default).blocks.getD (Za0 m (s.stack.getD i default)).fin.pad.toNat default).pad := rfl
  have hV : padV m (s.stack.getD i default) = if endB m (s.stack.getD i default) = true ∧ (Za0 m (s.stack.getD i default)).fin.kind = 4 then ((Za0 m (s.stack.getD i default)).fin.pad, padF m (s.stack.getD i default), true) else (0, ⟨0, [], false, false⟩, false) := rfl
  have hgen : ∃ b, Za0 m (s.stack.getD i default) = b := ⟨_, rfl⟩
  obtain ⟨b, hbe⟩ := hgen
  rw [hbe] at hB hE hpl hpf hV a1
  (repeat' first | refine Zac ?_ | (refine Zab tok (by rfl) ?_; conv => whnf))
  refine .inr ⟨_, _, _, uG (QH.tnM (by simp) (by simp) hB h32 (Za5 rfl rfl rfl rfl (fun _ => rfl)) rfl (fun q hq => Zaq hq)), ?_⟩
  conv => whnf
  ((repeat' ((fail_if_success (show AWp _ _ _ (Code.region 3 _ _) _ _)); (fail_if_success (show AWp _ _ _ (Code.region 4 _ _) _ _)); first | refine Zac ?_ | (refine Zat tok mix (by rfl) ?_; conv => whnf) | (refine Zag ?_; conv => whnf) | refine Zae rfl (fun hb => ?_) (fun hb => ?_) | (refine @And.intro (Zaa _ _ _ _) _ ?_ ?_; rotate_left; (conv => whnf); rotate_right))); all_goals (try ((guard_target = Zaa _ _ _ _); refine Zaf ?_; (all_goals (try simp only [Zaa, kzz, kz11, kz12, maxL, Zad] at *)); all_goals omega)))
  · have hn : ¬ (endB m (s.stack.getD i default) = true ∧ b.fin.kind = 4) := by
      rintro ⟨h1, h2⟩
      rw [hE, decide_eq_true_eq] at h1
      rw [decide_eq_false (show ¬ (s.stack.getD i default).at_ < (b.ins.length : Int) by omega), decide_eq_true h2] at hb
      cases hb
    rw [if_neg hn] at hV
    rw [hV]
    (repeat' first | (refine Zab tok (by rfl) ?_; conv => whnf) | (refine Zah ?_; conv => whnf))
    refine ⟨_, srcL [], rfl, ?_⟩
    rw [← and_assoc]
    exact ⟨Zdf rfl rfl rfl (Zcj rfl rfl rfl) rfl rfl rfl (fun q hq => Zbf hq), .tup (.cons (.imm rfl) (.cons (.agg (.cons (.imm rfl) (.cons (.wk rfl (.nsl rfl)) (.cons (.imm rfl) (.cons (.imm rfl) .nil))))) (.cons (.imm rfl) .nil))), Zcs⟩
  have hy : endB m (s.stack.getD i default) = true ∧ b.fin.kind = 4 := by
    rw [hE, decide_eq_true_eq]
    by_cases e1 : (s.stack.getD i default).at_ < (b.ins.length : Int)
    · rw [decide_eq_true e1] at hb; cases hb
    · rw [decide_eq_false e1] at hb
      by_cases e2 : b.fin.kind = 4
      · exact ⟨by omega, e2⟩
      · rw [decide_eq_false e2] at hb; cases hb
  clear hb
  rw [if_pos hy] at hV
  rw [hV]
  obtain ⟨hp0, hp1⟩ := hpl hy.2
  ((repeat' first | (refine Zat tok mix (by rfl) ?_; conv => whnf) | (refine Zah ?_; conv => whnf) | (refine @And.intro (Zaa _ _ _ _) _ ?_ ?_; rotate_left; (conv => whnf); rotate_right)); all_goals (try ((guard_target = Zaa _ _ _ _); refine Zaf ?_; (all_goals (try simp only [Zaa, kzz, kz11, kz12, maxL, Zad] at *)); all_goals omega)))
  refine ⟨_, srcL [], rfl, ?_⟩
  rw [← and_assoc]
  rw [hpf]
  exact ⟨Zdf rfl rfl rfl (Zcj rfl rfl rfl) rfl rfl rfl (fun q hq => Zbf hq), .tup (.cons (.imm rfl) (.cons (.agg (GVs.imm rfl)) (.cons (.imm rfl) .nil))), Zcs⟩
end Go.Proofs.YtoelbgjpmpoolaaGreat
namespace Go.Proofs.YtoelbgjpmpoolaaGreat
open Go Dv
set_option maxRecDepth 10000
set_option linter.unusedSimpArgs false
theorem c_rInts (a b : List Int) : FC Tryz.prog 63 [ints a, ints b] (.bool (decide (a = b))) := by
  refine Zao tok Tryz.func63 rfl (by decide +kernel) (Nat.le_of_ble_eq_true rfl) ?_
  refine Zaw 0 (fun hl => ?_)
  have hl0 : a.length ≤ maxL := hl.1
  (repeat' first | refine Zac ?_ | (refine Zab tok (by rfl) ?_; conv => whnf) | refine Zai ?_ | (refine Zag ?_; conv => whnf) | (refine Zah ?_; conv => whnf) | refine Zae rfl (fun hb => ?_) (fun hb => ?_))
  · refine ⟨_, rfl, Rel.bool ?_⟩
    symm; rw [decide_eq_false_iff_not]
    intro e; subst e; simp at hb
  have hlen : a.length = b.length := by simp at hb; omega
  clear hb
  refine Za1 (fun i : Nat => mkS [(0, ints a), (1, ints b), (5, iv i)] [])
    (fun i => i ≤ a.length ∧ ∀ j, j < i → a.getD j 0 = b.getD j 0) (fun i => a.length - i) 0 ⟨Nat.zero_le _, by simp⟩ ?_ ?_
  · refine Weak.list [] rfl (by rfl) ?_ .nil
    ((repeat' first | exact TLes.nil | refine TLes.cons (TLe.eq rfl) ?_); skip)
  rintro i ⟨hi2, hc⟩
  ((repeat' first | refine Zac ?_ | (refine Zab tok (by rfl) ?_; conv => whnf) | (refine Zat tok mix (by rfl) ?_; conv => whnf) | refine Zai ?_ | (refine Zag ?_; conv => whnf) | (refine Za3 ?_; conv => whnf) | (refine Zah ?_; conv => whnf) | refine Zae rfl (fun hb => ?_) (fun hb => ?_) | (refine @And.intro (Zaa _ _ _ _) _ ?_ ?_; rotate_left; (conv => whnf); rotate_right)); all_goals (try ((guard_target = Zaa _ _ _ _); refine Zaf ?_; (all_goals (try simp only [Zaa, kzz, kz11, kz12, maxL, Zad] at *)); all_goals omega)))
  · have hlt : i < a.length := by rename_i h; simp only [Zaa, kzz, kz11, kz12, maxL, Zad] at *; omega
    refine ⟨_, rfl, Rel.bool ?_⟩
    symm; rw [decide_eq_false_iff_not]
    intro e; subst e; simp at hb
  · have hlt : i < a.length := by rename_i h; simp only [Zaa, kzz, kz11, kz12, maxL, Zad] at *; omega
    refine ⟨i + 1, ⟨hlt, fun j hj => ?_⟩, by omega, ?_⟩
    · by_cases e : j = i
      · subst e; simpa using hb
      · exact hc j (by omega)
    refine Weak.list [] rfl (by rfl) ?_ .nil
    ((repeat' first | exact TLes.nil | refine TLes.cons (TLe.eq rfl) ?_ | refine TLes.cons (TLe.int ?_) ?_); (all_goals first | ((try (simp only [Zaa, kzz, kz11, kz12, maxL, Zad] at *)); exact Zal (by omega) (by omega)) | skip))
  · refine ⟨_, rfl, Rel.bool ?_⟩
    symm; rw [decide_eq_true_eq]
    exact Zdm 0 hlen (fun j hj => hc j (by simp only [Zaa, kzz, kz11, kz12, maxL, Zad] at *; omega))
end Go.Proofs.YtoelbgjpmpoolaaGreat
namespace Go.Proofs.YtoelbgjpmpoolaaGreat
open Go Dv
set_option maxRecDepth 10000
set_option linter.unusedSimpArgs false
def smallB (m : Zaj) (inputs : List Int) : Bool := shortB m && decide (inputs.length ≤ 30)
theorem c_r6Small (m : Zaj) (inputs : List Int) : FC Tryz.prog 13 [.agg (Zav m), u16s inputs] (.bool (smallB m inputs)) := by
  refine Zao tok Tryz.func13 rfl (by decide +kernel) (Nat.le_of_ble_eq_true rfl) ?_
  (repeat' first | refine Zac ?_ | (refine Zab tok (by rfl) ?_; conv => whnf))
  refine .inl ⟨_, _, _, uG (QC.fc (c_Short m) rfl), ?_⟩
  conv => whnf
  (repeat' (refine Zah ?_; conv => whnf))
  refine ⟨_, rfl, Rel.bool ?_⟩
  unfold smallB
  cases shortB m
  · rfl
  · simp only [cond_true, Bool.true_and]
    by_cases e : inputs.length ≤ 30
    · rw [decide_eq_true e, decide_eq_true (by omega)]
    · rw [decide_eq_false e, decide_eq_false (by omega)]
end Go.Proofs.YtoelbgjpmpoolaaGreat
namespace Go.Proofs.YtoelbgjpmpoolaaGreat
open Go Dv
set_option maxRecDepth 10000
set_option linter.unusedSimpArgs false
structure RelL (P : Za2 → Za2 → Prop) (a b : List Za2) : Prop where
  len : a.length = b.length
  at_ : ∀ i, i < a.length → P (a.getD i default) (b.getD i default)
theorem RelL.take {P : Za2 → Za2 → Prop} {a b : List Za2} (h : RelL P a b) (k : Nat) : RelL P (a.take k) (b.take k) := by
  refine ⟨by rw [List.length_take, List.length_take, h.len], fun i hi => ?_⟩
  rw [List.length_take] at hi
  rw [Zb3 _ (by omega), Zb3 _ (by omega)]
  exact h.at_ i (by omega)
theorem Zfy {l : List Za2} {x : Za2} {i : Nat} : (l ++ [x]).getD i default = if i < l.length then l.getD i default else if i = l.length then x else default := by
  by_cases h1 : i < l.length
  · rw [if_pos h1]; simp [List.getD_eq_getElem?_getD, List.getElem?_append_left h1]
  · rw [if_neg h1]
    by_cases h2 : i = l.length
    · rw [if_pos h2]; subst h2; simp [List.getD_eq_getElem?_getD]
    · rw [if_neg h2, List.getD_eq_getElem?_getD, List.getElem?_eq_none (by simp; omega)]; rfl
theorem RelL.app {P : Za2 → Za2 → Prop} {a b : List Za2} (h : RelL P a b) {f g : Za2} (hp : P f g) : RelL P (a ++ [f]) (b ++ [g]) := by
  refine ⟨by simp [h.len], fun i hi => ?_⟩
  rw [List.length_append, List.length_singleton] at hi
  rw [Zfy, Zfy, ← h.len]
  by_cases h1 : i < a.length
  · rw [if_pos h1, if_pos h1]; exact h.at_ i h1
  · rw [if_neg h1, if_neg h1, if_pos (by omega), if_pos (by omega)]; exact hp
end Go.Proofs.YtoelbgjpmpoolaaGreat
