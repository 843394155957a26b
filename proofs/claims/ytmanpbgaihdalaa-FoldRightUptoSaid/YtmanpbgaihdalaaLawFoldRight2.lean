/- The law FoldRight holds, in the form Upto. -/
import Derived.Test.YtmanpbgaihdalaaDvc3
import Derived.Test.YtmanpbgaihdalaaLawFoldRight1
import Derived.Shelf.Small.Bits
import Derived.Sort.Walk7
import Derived.RangeFuncGives
import Derived.Maps.AppendAt
import Derived.Shelf.Abstract
import Derived.WalkKit
import Derived.OwnWalkIn
import Derived.TacticsInMore
import Derived.RegionIn
import Derived.LoopNIn
import Derived.LoopIn
set_option linter.unusedVariables false
set_option linter.unusedSimpArgs false
set_option linter.unnecessarySimpa false
namespace Go.Proofs.Ytmanpbgaihdalaa
open Go Dv Go.Sort
set_option maxRecDepth 10000
set_option linter.unusedSimpArgs false
structure PQ where
  (a b lim : Nat)
  (wb wp : Bool)
  d : Array Int
theorem pdq_eq {R d : Array Int} {a b lim : Nat} {wb wp : Bool} (h12 : ¬ b - a ≤ 12) (hlim : lim ≠ 0) (hR : pdq ltInt d a b lim wb wp = R) :
    ∃ d1 lim' c d2 pivot hint pi, d1 = (if (!wb) = true then breakPatterns d a b else d) ∧ lim' = (if (!wb) = true then lim - 1 else lim) ∧ c = choosePivot ltInt d1 a b ∧ d2 = (if c.2 = .decreasing then reverseRange d1 a b else d1) ∧
      pivot = (if c.2 = .decreasing then (b - 1) - (c.1 - a) else c.1) ∧ hint = (if c.2 = .decreasing then Hint.increasing else c.2) ∧ pi = (if (wb && wp && decide (hint = .increasing)) = true then partialInsertionSort ltInt d2 a b else (d2, false)) ∧
      R = if pi.2 = true then pi.1 else if (decide (a > 0) && !ltInt pi.1[a - 1]! pi.1[pivot]!) = true then
        (match partitionEqual ltInt pi.1 a b pivot with
        | (mid, d4) => if _h : a < mid ∧ mid ≤ b then pdq ltInt d4 mid b lim' wb wp else d4)
      else (match partition ltInt pi.1 a b pivot with
        | (mid, ap, d4) => if _h : a ≤ mid ∧ mid < b then
            if mid - a < b - mid then pdq ltInt (pdq ltInt d4 a mid lim' true true) (mid + 1) b lim' (decide (mid - a ≥ (b - a) / 8)) ap
            else pdq ltInt (pdq ltInt d4 (mid + 1) b lim' true true) a mid lim' (decide (b - mid ≥ (b - a) / 8)) ap
          else d4) := by
  refine ⟨_, _, _, _, _, _, _, rfl, rfl, rfl, rfl, rfl, rfl, rfl, ?_⟩
  rw [← hR]
  conv => lhs; unfold pdq
  rw [if_neg h12, if_neg hlim]
def Brk : Prop := ∀ (n : Nat) (d : Array Int) (a b : Nat), d.size = n → a ≤ b → b ≤ n → HC Try.prog [i0] 186 [(i0, arow n d)] [.rs i0 1 0 n, iv a, iv b] (.tup []) [(i0, arow n (breakPatterns d a b))]
theorem hintI_two (h : Hint) : decide (hintI h = 2) = decide (h = .decreasing) := by cases h <;> rfl
theorem hintI_one (h : Hint) : decide (hintI h = 1) = decide (h = .increasing) := by cases h <;> rfl
theorem c_pdq (hbrk : Brk) : ∀ (N n : Nat) (d : Array Int) (a b lim : Nat), d.size = n → a ≤ b → b ≤ n → b - a ≤ N → lim ≤ 1000 → Sort.Below ltInt a b d → HC Try.prog [i0] 182 [(i0, arow n d)] [.rs i0 1 0 n, iv a, iv b, iv lim] (.tup []) [(i0, arow n (pdq ltInt d a b lim true true))] := by
  intro N
  induction N using Nat.strongRecOn with
  | ind N ih =>
  intro n d0 a0 b0 lim0 hn0 hab0 hbn0 hN0 hl0' hB0
  refine HC_intro tok Try.func182 rfl (by decide +kernel) (Nat.le_of_ble_eq_true rfl) ?_
  refine AWp_facts 0 (fun hl => ?_)
  have hl0 : n ≤ 4294967296 := hl
  obtain ⟨R, hR0⟩ : ∃ R, R = pdq ltInt d0 a0 b0 lim0 true true := ⟨_, rfl⟩
  rw [← hR0]
  have h := swo_ltInt
  (repeat' first | refine AWp_seq ?_ | (refine AWp_reg tok (by rfl) ?_; conv => whnf) | refine AWp_block ?_)
  refine AWp_loop (fun q : PQ => mkS [(0, .rs i0 1 0 n), (1, iv q.a), (2, iv q.b), (3, iv q.lim), (8, .bool q.wb), (9, .bool q.wp)] [(i0, arow n q.d)])
    (fun q => q.d.size = n ∧ q.a ≤ q.b ∧ q.b ≤ n ∧ q.lim ≤ 1000 ∧ Sort.Below ltInt q.a q.b q.d ∧ q.b - q.a ≤ N ∧ pdq ltInt q.d q.a q.b q.lim q.wb q.wp = R) (fun q => q.b - q.a) ⟨a0, b0, lim0, true, true, d0⟩ ⟨hn0, hab0, hbn0, hl0', hB0, hN0, hR0.symm⟩ ?_ ?_
  · refine Weak.list [(i0, .old i0, arow n d0)] rfl (by rfl) ?_ (.old rfl (BLe.refl _) .nil)
    ((repeat' first | exact TLes.nil | refine TLes.cons (TLe.eq rfl) ?_); skip)
  rintro q ⟨hd, hab, hbn, hlm, hB, hN, hR⟩
  clear hR0
  (repeat' ((fail_if_success (show AWp _ _ _ (Code.region 7 _ _) _ _)); first | refine AWp_seq ?_ | (refine AWp_reg tok (by rfl) ?_; conv => whnf) | refine AWp_block ?_ | (refine AWp_skip ?_; conv => whnf) | refine AWp_cond rfl (fun hb => ?_) (fun hb => ?_)))
  · have h12 : q.b - q.a ≤ 12 := by simp (disch := omega) only [wrap64] at hb; simp only [underG, true_and, and_true, Bool.cond_true_left, Bool.cond_false_left, Bool.cond_true_right, Bool.cond_false_right, Bool.or_eq_true, Bool.and_eq_true, Bool.or_eq_false_iff, Bool.and_eq_false_iff, cond_true, cond_false, Bool.not_eq_eq_eq_not, Bool.not_true, Bool.not_false, decide_eq_true_eq, decide_eq_false_iff_not, Int.toNat_natCast, Nat.zero_add, Decidable.not_not, maxL, inn_iff] at *; omega
    refine .inr ⟨_, _, _, uG (QH.of (dead := []) [(i0, .old i0, arow n q.d)] (c_insertion n q.d q.a q.b hd hab hbn) rfl (.old rfl (BLe.refl _) .nil) ((.cons (.eq rfl) (.cons (.eq rfl) (.cons (.eq rfl) .nil)))) [(i0, i0)] rfl (.cons rfl (BLe.refl _) .nil) rfl), ?_⟩
    conv => whnf
    (repeat' (refine AWp_ret ?_; conv => whnf))
    have hRes : R = insertionSort ltInt q.d q.a q.b := by rw [← hR]; unfold pdq; rw [if_pos h12]
    rw [hRes]
    exact ⟨_, [(i0, .old i0, arow n (insertionSort ltInt q.d q.a q.b))], rfl, rfl, rfl, rfl, .old rfl (BLe.refl _) .nil, .eq rfl⟩
  · rename_i hx
    have h12 : ¬ q.b - q.a ≤ 12 := by simp (disch := omega) only [wrap64] at hx; simp only [underG, true_and, and_true, Bool.cond_true_left, Bool.cond_false_left, Bool.cond_true_right, Bool.cond_false_right, Bool.or_eq_true, Bool.and_eq_true, Bool.or_eq_false_iff, Bool.and_eq_false_iff, cond_true, cond_false, Bool.not_eq_eq_eq_not, Bool.not_true, Bool.not_false, decide_eq_true_eq, decide_eq_false_iff_not, Int.toNat_natCast, Nat.zero_add, Decidable.not_not, maxL, inn_iff] at *; omega
    have hz : q.lim = 0 := by simp only [underG, true_and, and_true, Bool.cond_true_left, Bool.cond_false_left, Bool.cond_true_right, Bool.cond_false_right, Bool.or_eq_true, Bool.and_eq_true, Bool.or_eq_false_iff, Bool.and_eq_false_iff, cond_true, cond_false, Bool.not_eq_eq_eq_not, Bool.not_true, Bool.not_false, decide_eq_true_eq, decide_eq_false_iff_not, Int.toNat_natCast, Nat.zero_add, Decidable.not_not, maxL, inn_iff] at *; omega
    refine .inr ⟨_, _, _, uG (QH.of (dead := []) [(i0, .old i0, arow n q.d)] (c_heap n q.d q.a q.b hd hab hbn) rfl (.old rfl (BLe.refl _) .nil) ((.cons (.eq rfl) (.cons (.eq rfl) (.cons (.eq rfl) .nil)))) [(i0, i0)] rfl (.cons rfl (BLe.refl _) .nil) rfl), ?_⟩
    conv => whnf
    (repeat' (refine AWp_ret ?_; conv => whnf))
    have hRes : R = heapSort ltInt q.d q.a q.b := by rw [← hR]; unfold pdq; rw [if_neg h12, if_pos hz]
    rw [hRes]
    exact ⟨_, [(i0, .old i0, arow n (heapSort ltInt q.d q.a q.b))], rfl, rfl, rfl, rfl, .old rfl (BLe.refl _) .nil, .eq rfl⟩
  rename_i hx
  have h12 : ¬ q.b - q.a ≤ 12 := by simp (disch := omega) only [wrap64] at hx; simp only [underG, true_and, and_true, Bool.cond_true_left, Bool.cond_false_left, Bool.cond_true_right, Bool.cond_false_right, Bool.or_eq_true, Bool.and_eq_true, Bool.or_eq_false_iff, Bool.and_eq_false_iff, cond_true, cond_false, Bool.not_eq_eq_eq_not, Bool.not_true, Bool.not_false, decide_eq_true_eq, decide_eq_false_iff_not, Int.toNat_natCast, Nat.zero_add, Decidable.not_not, maxL, inn_iff] at *; omega
  have hz : q.lim ≠ 0 := by simp only [underG, true_and, and_true, Bool.cond_true_left, Bool.cond_false_left, Bool.cond_true_right, Bool.cond_false_right, Bool.or_eq_true, Bool.and_eq_true, Bool.or_eq_false_iff, Bool.and_eq_false_iff, cond_true, cond_false, Bool.not_eq_eq_eq_not, Bool.not_true, Bool.not_false, decide_eq_true_eq, decide_eq_false_iff_not, Int.toNat_natCast, Nat.zero_add, Decidable.not_not, maxL, inn_iff] at *; omega
  clear hb hx
  obtain ⟨d1, lim', c, d2, pivot, hint, pi, e1, e2, e3, e4, e5, e6, e7, hstep⟩ := pdq_eq h12 hz hR
  have s1 : PermIn q.a q.b q.d d1 := by rw [e1]; exact step_break q.d hab (by omega) _
  have b1 : d1.size = n := by rw [s1.1]; exact hd
  have s2 : PermIn q.a q.b d1 d2 := by rw [e4]; exact step_reverse reverseRange_holds d1 hab (by omega) _
  have b2 : d2.size = n := by rw [s2.1]; exact b1
  have B2 : Sort.Below ltInt q.a q.b d2 := (hB.perm (by omega) s1).perm (by omega) s2
  have s3 : PermIn q.a q.b d2 pi.1 := by rw [e7]; exact (step_partial (partialInsertionSort_holds (lt := ltInt)) h d2 (a := q.a) (b := q.b) (by omega) (by omega) B2 _).1
  have b3 : pi.1.size = n := by rw [s3.1]; exact b2
  have B3 : Sort.Below ltInt q.a q.b pi.1 := B2.perm (by omega) s3
  have hc0 := choosePivot_holds ltInt d1 q.a q.b (by omega)
  rw [← e3] at hc0
  have hpv : q.a ≤ pivot ∧ pivot < q.b := by rw [e5]; exact pivot_range hc0.1 hc0.2 _
  have hlm' : lim' ≤ 1000 := by rw [e2]; split <;> omega
  (repeat' (refine AWp_reg tok (by rfl) ?_; conv => whnf))
  refine AWp_meet (fun _ : Unit => mkS [(0, .rs i0 1 0 n), (1, iv q.a), (2, iv q.b), (3, iv lim'), (8, .bool q.wb), (9, .bool q.wp), (10, iv ((q.b - q.a : Nat) : Int))] [(i0, arow n d1)]) (fun _ => True) ?_ ?_
  · (repeat' first | refine AWp_seq ?_ | (refine AWp_reg tok (by rfl) ?_; conv => whnf) | (refine AWp_skip ?_; conv => whnf) | refine AWp_cond rfl (fun hb => ?_) (fun hb => ?_))
    · have hw : (!q.wb) = true := hb
      rw [if_pos hw] at e1 e2
      refine .inr ⟨_, _, _, uG (QH.of (dead := []) [(i0, .old i0, arow n q.d)] (hbrk n q.d q.a q.b hd hab hbn) rfl (.old rfl (BLe.refl _) .nil) ((.cons (.eq rfl) (.cons (.eq rfl) (.cons (.eq rfl) .nil)))) [(i0, i0)] rfl (.cons rfl (BLe.refl _) .nil) rfl), ?_⟩
      conv => whnf
      (repeat' (refine AWp_reg tok (by rfl) ?_; conv => whnf))
      refine ⟨(), trivial, ?_⟩
      rw [e1]
      refine Weak.list [(i0, .old i0, arow n (breakPatterns q.d q.a q.b))] rfl (by rfl) ?_ (.old rfl (BLe.refl _) .nil)
      ((repeat' first | exact TLes.nil | refine TLes.cons (TLe.eq rfl) ?_ | refine TLes.cons (TLe.int ?_) ?_); (all_goals first | ((try (simp only [underG, true_and, and_true, Bool.cond_true_left, Bool.cond_false_left, Bool.cond_true_right, Bool.cond_false_right, Bool.or_eq_true, Bool.and_eq_true, Bool.or_eq_false_iff, Bool.and_eq_false_iff, cond_true, cond_false, Bool.not_eq_eq_eq_not, Bool.not_true, Bool.not_false, decide_eq_true_eq, decide_eq_false_iff_not, Int.toNat_natCast, Nat.zero_add, Decidable.not_not, maxL, inn_iff] at *)); (simp (disch := omega) only [wrap64]; omega)) | skip))
      all_goals (rw [e2]; omega)
    · have hw : ¬ (!q.wb) = true := by rw [hb]; simp
      rw [if_neg hw] at e1 e2
      refine ⟨(), trivial, ?_⟩
      rw [e1]
      refine Weak.list [(i0, .old i0, arow n q.d)] rfl (by rfl) ?_ (.old rfl (BLe.refl _) .nil)
      ((repeat' first | exact TLes.nil | refine TLes.cons (TLe.eq rfl) ?_ | refine TLes.cons (TLe.int ?_) ?_); (all_goals first | ((try (simp only [underG, true_and, and_true, Bool.cond_true_left, Bool.cond_false_left, Bool.cond_true_right, Bool.cond_false_right, Bool.or_eq_true, Bool.and_eq_true, Bool.or_eq_false_iff, Bool.and_eq_false_iff, cond_true, cond_false, Bool.not_eq_eq_eq_not, Bool.not_true, Bool.not_false, decide_eq_true_eq, decide_eq_false_iff_not, Int.toNat_natCast, Nat.zero_add, Decidable.not_not, maxL, inn_iff] at *)); first | omega | (simp (disch := omega) only [wrap64]; omega)) | skip))
      all_goals (rw [e2])
  rintro _ _ τ hτ
  refine AWp_weak hτ ?_
  have hch := c_choose n d1 q.a q.b b1 (by omega) hbn
  rw [← e3] at hch
  conv => whnf
  (repeat' first | refine AWp_seq ?_ | (refine AWp_reg tok (by rfl) ?_; conv => whnf))
  refine .inr ⟨_, _, _, uG (QH.of (dead := []) [(i0, .old i0, arow n d1)] (hch) rfl (.old rfl (BLe.refl _) .nil) ((.cons (.eq rfl) (.cons (.eq rfl) (.cons (.eq rfl) .nil)))) [(i0, i0)] rfl (.cons rfl (BLe.refl _) .nil) rfl), ?_⟩
  conv => whnf
  (repeat' first | refine AWp_seq ?_ | (refine AWp_reg tok (by rfl) ?_; conv => whnf))
  refine AWp_meet (fun _ : Unit => mkS [(0, .rs i0 1 0 n), (1, iv q.a), (2, iv q.b), (3, iv lim'), (8, .bool q.wb), (9, .bool q.wp), (10, iv ((q.b - q.a : Nat) : Int)), (11, iv pivot), (12, iv (hintI hint))] [(i0, arow n d2)]) (fun _ => True) ?_ ?_
  · (repeat' first | refine AWp_seq ?_ | (refine AWp_reg tok (by rfl) ?_; conv => whnf) | (refine AWp_skip ?_; conv => whnf) | refine AWp_cond rfl (fun hb => ?_) (fun hb => ?_))
    · have hw : c.2 = .decreasing := by rw [hintI_two] at hb; simpa using hb
      rw [if_pos hw] at e4 e5 e6
      refine .inr ⟨_, _, _, uG (QH.of (dead := []) [(i0, .old i0, arow n d1)] (c_reverse n d1 q.a q.b b1 (by omega) hbn) rfl (.old rfl (BLe.refl _) .nil) ((.cons (.eq rfl) (.cons (.eq rfl) (.cons (.eq rfl) .nil)))) [(i0, i0)] rfl (.cons rfl (BLe.refl _) .nil) rfl), ?_⟩
      conv => whnf
      (repeat' first | refine AWp_seq ?_ | (refine AWp_reg tok (by rfl) ?_; conv => whnf))
      refine ⟨(), trivial, ?_⟩
      rw [e4]
      refine Weak.list [(i0, .old i0, arow n (reverseRange d1 q.a q.b))] rfl (by rfl) ?_ (.old rfl (BLe.refl _) .nil)
      ((repeat' first | exact TLes.nil | refine TLes.cons (TLe.eq rfl) ?_ | refine TLes.cons (TLe.int ?_) ?_); (all_goals first | ((try (simp only [underG, true_and, and_true, Bool.cond_true_left, Bool.cond_false_left, Bool.cond_true_right, Bool.cond_false_right, Bool.or_eq_true, Bool.and_eq_true, Bool.or_eq_false_iff, Bool.and_eq_false_iff, cond_true, cond_false, Bool.not_eq_eq_eq_not, Bool.not_true, Bool.not_false, decide_eq_true_eq, decide_eq_false_iff_not, Int.toNat_natCast, Nat.zero_add, Decidable.not_not, maxL, inn_iff] at *)); (simp (disch := omega) only [wrap64]; omega)) | skip))
      all_goals first | (rw [e5]; simp (disch := omega) only [wrap64]; omega) | (rw [e6]; rfl)
    · have hw : ¬ c.2 = .decreasing := by rw [hintI_two] at hb; simpa using hb
      rw [if_neg hw] at e4 e5 e6
      refine ⟨(), trivial, ?_⟩
      rw [e4]
      refine Weak.list [(i0, .old i0, arow n d1)] rfl (by rfl) ?_ (.old rfl (BLe.refl _) .nil)
      ((repeat' first | exact TLes.nil | refine TLes.cons (TLe.eq rfl) ?_ | refine TLes.cons (TLe.int ?_) ?_); (all_goals first | ((try (simp only [underG, true_and, and_true, Bool.cond_true_left, Bool.cond_false_left, Bool.cond_true_right, Bool.cond_false_right, Bool.or_eq_true, Bool.and_eq_true, Bool.or_eq_false_iff, Bool.and_eq_false_iff, cond_true, cond_false, Bool.not_eq_eq_eq_not, Bool.not_true, Bool.not_false, decide_eq_true_eq, decide_eq_false_iff_not, Int.toNat_natCast, Nat.zero_add, Decidable.not_not, maxL, inn_iff] at *)); omega) | skip))
      all_goals first | (rw [e5]) | (rw [e6])
  rintro _ _ τ hτ
  refine AWp_weak hτ ?_
  conv => whnf
  (repeat' first | refine AWp_seq ?_ | (refine AWp_reg tok (by rfl) ?_; conv => whnf))
  rw [hintI_one]
  refine AWp_meet (fun _ : Unit => mkS [(0, .rs i0 1 0 n), (1, iv q.a), (2, iv q.b), (3, iv lim'), (8, .bool q.wb), (9, .bool q.wp), (10, iv ((q.b - q.a : Nat) : Int)), (11, iv pivot)] [(i0, arow n pi.1)]) (fun _ => pi.2 = false) ?_ ?_
  · (repeat' first | refine AWp_seq ?_ | (refine AWp_reg tok (by rfl) ?_; conv => whnf) | (refine AWp_skip ?_; conv => whnf) | refine AWp_cond rfl (fun hb => ?_) (fun hb => ?_))
    · have hcond : (q.wb && q.wp && decide (hint = .increasing)) = true := by
        cases h1 : q.wb <;> cases h2 : q.wp <;> simp [h1, h2] at hb ⊢
        exact hb
      rw [if_pos hcond] at e7
      have hcp := c_partial n d2 q.a q.b b2 (by omega) hbn
      rw [← e7] at hcp
      refine .inr ⟨_, _, _, uG (QH.of (dead := []) [(i0, .old i0, arow n d2)] (hcp) rfl (.old rfl (BLe.refl _) .nil) ((.cons (.eq rfl) (.cons (.eq rfl) (.cons (.eq rfl) .nil)))) [(i0, i0)] rfl (.cons rfl (BLe.refl _) .nil) rfl), ?_⟩
      conv => whnf
      (repeat' first | (refine AWp_skip ?_; conv => whnf) | (refine AWp_ret ?_; conv => whnf) | refine AWp_cond rfl (fun hb => ?_) (fun hb => ?_))
      · have hRes : R = pi.1 := by rw [hstep, if_pos hb]
        rw [hRes]
        exact ⟨_, [(i0, .old i0, arow n pi.1)], rfl, rfl, rfl, rfl, .old rfl (BLe.refl _) .nil, .eq rfl⟩
      · refine ⟨(), hb, ?_⟩
        refine Weak.list [(i0, .old i0, arow n pi.1)] rfl (by rfl) ?_ (.old rfl (BLe.refl _) .nil)
        ((repeat' first | exact TLes.nil | refine TLes.cons (TLe.eq rfl) ?_); skip)
    · have hcond : ¬ (q.wb && q.wp && decide (hint = .increasing)) = true := by
        cases h1 : q.wb <;> cases h2 : q.wp <;> simp [h1, h2] at hb ⊢
        exact hb
      rw [if_neg hcond] at e7
      refine ⟨(), by rw [e7], ?_⟩
      rw [e7]
      refine Weak.list [(i0, .old i0, arow n d2)] rfl (by rfl) ?_ (.old rfl (BLe.refl _) .nil)
      ((repeat' first | exact TLes.nil | refine TLes.cons (TLe.eq rfl) ?_); skip)
  rintro _ hpi τ hτ
  refine AWp_weak hτ ?_
  rw [hpi, if_neg (by simp)] at hstep
  generalize pi.1 = d3 at s3 b3 B3 hstep
  clear hτ
  have hm1 : d3[0 + (IntKind.i64.wrap ((q.a : Int) - 1)).toNat]! = d3[q.a - 1]! := by simp (disch := omega) only [wrap64]; exact bang_at (by omega)
  conv => whnf
  ((repeat' first | refine AWp_seq ?_ | (refine AWp_any tok mix (by rfl) ?_; conv => whnf) | (refine @And.intro (underG _ _ _ _) _ ?_ ?_; rotate_left; (conv => whnf); rotate_right)); all_goals (try ((guard_target = underG _ _ _ _); ((refine underG_some ?_; intro hgd; (conv at hgd => whnf))); (all_goals (try simp only [underG, true_and, and_true, Bool.cond_true_left, Bool.cond_false_left, Bool.cond_true_right, Bool.cond_false_right, Bool.or_eq_true, Bool.and_eq_true, Bool.or_eq_false_iff, Bool.and_eq_false_iff, cond_true, cond_false, Bool.not_eq_eq_eq_not, Bool.not_true, Bool.not_false, decide_eq_true_eq, decide_eq_false_iff_not, Int.toNat_natCast, Nat.zero_add, Decidable.not_not, maxL, inn_iff] at *)); (all_goals (try (simp (disch := omega) only [wrap64]))); all_goals omega)))
  refine .inl ⟨_, _, _, uG (QC.fc (less_at (d := d3) (i := q.a - 1) (j := pivot) _ _ hm1 (bang_at (by simp))) rfl), ?_⟩
  conv => whnf
  (repeat' first | refine AWp_seq ?_ | (refine AWp_reg tok (by rfl) ?_; conv => whnf) | (refine AWp_skip ?_; conv => whnf) | refine AWp_cond rfl (fun hb => ?_) (fun hb => ?_))
  · have hc : (decide (q.a > 0) && !ltInt d3[q.a - 1]! d3[pivot]!) = true := by
      by_cases h1 : 0 < q.a
      · rw [decide_eq_true (by omega)] at hb
        rw [Bool.and_eq_true]; exact ⟨by simpa using h1, hb⟩
      · rw [decide_eq_false (by omega)] at hb; cases hb
    rw [if_pos hc] at hstep
    rw [Bool.and_eq_true, decide_eq_true_eq, Bool.not_eq_true'] at hc
    obtain ⟨mid, d4, hx⟩ : ∃ m d, partitionEqual ltInt d3 q.a q.b pivot = (m, d) := ⟨_, _, rfl⟩
    have hcp := c_partEq n d3 q.a q.b pivot b3 hpv.1 hpv.2 hbn
    rw [hx] at hcp hstep
    obtain ⟨g1, g2, g3, g4, _⟩ := round_eq h (partitionEqual_holds (lt := ltInt)) hc.1 hpv.1 hpv.2 (by omega) B3 hc.2 hx
    simp only [] at hcp hstep
    rw [dif_pos ⟨g1, g2⟩] at hstep
    refine .inr ⟨_, _, _, uG (QH.of (dead := []) [(i0, .old i0, arow n d3)] (hcp) rfl (.old rfl (BLe.refl _) .nil) ((.cons (.eq rfl) (.cons (.eq rfl) (.cons (.eq rfl) (.cons (.eq rfl) .nil))))) [(i0, i0)] rfl (.cons rfl (BLe.refl _) .nil) rfl), ?_⟩
    conv => whnf
    (repeat' first | refine AWp_seq ?_ | (refine AWp_reg tok (by rfl) ?_; conv => whnf) | (refine AWp_exit ?_; conv => whnf))
    refine ⟨⟨mid, q.b, lim', q.wb, q.wp, d4⟩, ⟨by simp; omega, g2, hbn, hlm', g4, by simp; omega, hstep.symm⟩, by simp; omega, ?_⟩
    refine Weak.list [(i0, .old i0, arow n d4)] rfl (by rfl) ?_ (.old rfl (BLe.refl _) .nil)
    ((repeat' first | exact TLes.nil | refine TLes.cons (TLe.eq rfl) ?_); skip)
  have hc : ¬ (decide (q.a > 0) && !ltInt d3[q.a - 1]! d3[pivot]!) = true := by
    rw [Bool.and_eq_true]
    rintro ⟨h1, h2⟩
    simp only [decide_eq_true_eq] at h1
    rw [decide_eq_true (by omega), h2] at hb; cases hb
  rw [if_neg hc] at hstep
  obtain ⟨mid, ap, d4, hx⟩ : ∃ m p d, partition ltInt d3 q.a q.b pivot = (m, p, d) := ⟨_, _, _, rfl⟩
  have hcp := c_part n d3 q.a q.b pivot b3 hpv.1 hpv.2 hbn
  rw [hx] at hcp hstep
  obtain ⟨g1, g2, g3, g4, g5, g6, g7⟩ := round_part h (partition_holds ltInt) hpv.1 hpv.2 (by omega) B3 hx
  simp only [] at hcp hstep
  rw [dif_pos ⟨g1, g2⟩] at hstep
  refine .inr ⟨_, _, _, uG (QH.of (dead := []) [(i0, .old i0, arow n d3)] (hcp) rfl (.old rfl (BLe.refl _) .nil) ((.cons (.eq rfl) (.cons (.eq rfl) (.cons (.eq rfl) (.cons (.eq rfl) .nil))))) [(i0, i0)] rfl (.cons rfl (BLe.refl _) .nil) rfl), ?_⟩
  conv => whnf
  ((repeat' first | refine AWp_seq ?_ | (refine AWp_reg tok (by rfl) ?_; conv => whnf) | refine AWp_cond rfl (fun hb => ?_) (fun hb => ?_) | (refine @And.intro (underG _ _ _ _) _ ?_ ?_; rotate_left; (conv => whnf); rotate_right)); all_goals (try ((guard_target = underG _ _ _ _); refine underG_none ?_; (all_goals (try simp only [underG, true_and, and_true, Bool.cond_true_left, Bool.cond_false_left, Bool.cond_true_right, Bool.cond_false_right, Bool.or_eq_true, Bool.and_eq_true, Bool.or_eq_false_iff, Bool.and_eq_false_iff, cond_true, cond_false, Bool.not_eq_eq_eq_not, Bool.not_true, Bool.not_false, decide_eq_true_eq, decide_eq_false_iff_not, Int.toNat_natCast, Nat.zero_add, Decidable.not_not, maxL, inn_iff] at *)); all_goals omega)))
  · have hlt : mid - q.a < q.b - mid := by simp (disch := omega) only [wrap64] at hb; simp only [underG, true_and, and_true, Bool.cond_true_left, Bool.cond_false_left, Bool.cond_true_right, Bool.cond_false_right, Bool.or_eq_true, Bool.and_eq_true, Bool.or_eq_false_iff, Bool.and_eq_false_iff, cond_true, cond_false, Bool.not_eq_eq_eq_not, Bool.not_true, Bool.not_false, decide_eq_true_eq, decide_eq_false_iff_not, Int.toNat_natCast, Nat.zero_add, Decidable.not_not, maxL, inn_iff] at *; omega
    rw [if_pos hlt] at hstep
    refine .inr ⟨_, _, _, uG (QH.of (dead := []) [(i0, .old i0, arow n d4)] (ih (mid - q.a) (by omega) n d4 q.a mid lim' (by omega) g1 (by omega) (Nat.le_refl _) hlm' g4) rfl (.old rfl (BLe.refl _) .nil) ((.cons (.eq rfl) (.cons (.eq rfl) (.cons (.eq rfl) (.cons (.eq rfl) .nil))))) [(i0, i0)] rfl (.cons rfl (BLe.refl _) .nil) rfl), ?_⟩
    conv => whnf
    (repeat' (refine AWp_reg tok (by rfl) ?_; conv => whnf))
    have hp := pdq_sorts ltInt h d4 q.a mid lim' true true g1 (by omega) g4
    generalize pdq ltInt d4 q.a mid lim' true true = L at hp hstep
    have hL := (g6 L hp.1 hp.2).1
    have hLs := hp.1.1
    refine ⟨⟨mid + 1, q.b, lim', decide (mid - q.a ≥ (q.b - q.a) / 8), ap, L⟩, ⟨by simp; omega, by simp; omega, hbn, hlm', hL, by simp; omega, hstep.symm⟩, by simp; omega, ?_⟩
    refine Weak.list [(i0, .old i0, arow n L)] rfl (by rfl) ?_ (.old rfl (BLe.refl _) .nil)
    ((repeat' first | exact TLes.nil | refine TLes.cons (TLe.eq rfl) ?_ | refine TLes.cons (TLe.int ?_) ?_ | refine TLes.cons (TLe.bool ?_) ?_); (all_goals first | ((try (simp only [underG, true_and, and_true, Bool.cond_true_left, Bool.cond_false_left, Bool.cond_true_right, Bool.cond_false_right, Bool.or_eq_true, Bool.and_eq_true, Bool.or_eq_false_iff, Bool.and_eq_false_iff, cond_true, cond_false, Bool.not_eq_eq_eq_not, Bool.not_true, Bool.not_false, decide_eq_true_eq, decide_eq_false_iff_not, Int.toNat_natCast, Nat.zero_add, Decidable.not_not, maxL, inn_iff] at *)); exact wrap64 (by omega) (by omega)) | skip))
    all_goals
      rw [Int.tdiv_eq_ediv_of_nonneg (by omega), wrap64 (x := ((q.b - q.a : Nat) : Int) / 8) (by omega) (by omega), wrap64 (by omega) (by omega), decide_eq_decide]
      omega
  · have hlt : ¬ mid - q.a < q.b - mid := by simp (disch := omega) only [wrap64] at hb; simp only [underG, true_and, and_true, Bool.cond_true_left, Bool.cond_false_left, Bool.cond_true_right, Bool.cond_false_right, Bool.or_eq_true, Bool.and_eq_true, Bool.or_eq_false_iff, Bool.and_eq_false_iff, cond_true, cond_false, Bool.not_eq_eq_eq_not, Bool.not_true, Bool.not_false, decide_eq_true_eq, decide_eq_false_iff_not, Int.toNat_natCast, Nat.zero_add, Decidable.not_not, maxL, inn_iff] at *; omega
    rw [if_neg hlt] at hstep
    have hcall : ∀ z : Int, z = ((mid + 1 : Nat) : Int) → HC Try.prog [i0] 182 [(i0, arow n d4)] [.rs i0 1 0 n, iv z, iv q.b, iv lim'] (.tup []) [(i0, arow n (pdq ltInt d4 (mid + 1) q.b lim' true true))] :=
      fun z e => e ▸ ih (q.b - (mid + 1)) (by omega) n d4 (mid + 1) q.b lim' (by omega) (by omega) (by omega) (Nat.le_refl _) hlm' g5
    refine .inr ⟨_, _, _, uG (QH.of (dead := []) [(i0, .old i0, arow n d4)] (hcall _ (by simp (disch := omega) only [wrap64]; omega)) rfl (.old rfl (BLe.refl _) .nil) ((.cons (.eq rfl) (.cons (.eq rfl) (.cons (.eq rfl) (.cons (.eq rfl) .nil))))) [(i0, i0)] rfl (.cons rfl (BLe.refl _) .nil) rfl), ?_⟩
    conv => whnf
    (repeat' (refine AWp_reg tok (by rfl) ?_; conv => whnf))
    have hp := pdq_sorts ltInt h d4 (mid + 1) q.b lim' true true (by omega) (by omega) g5
    generalize pdq ltInt d4 (mid + 1) q.b lim' true true = L at hp hstep
    have hL := (g7 L hp.1 hp.2).1
    have hLs := hp.1.1
    refine ⟨⟨q.a, mid, lim', decide (q.b - mid ≥ (q.b - q.a) / 8), ap, L⟩, ⟨by simp; omega, g1, by simp; omega, hlm', hL, by simp; omega, hstep.symm⟩, by simp; omega, ?_⟩
    refine Weak.list [(i0, .old i0, arow n L)] rfl (by rfl) ?_ (.old rfl (BLe.refl _) .nil)
    ((repeat' first | exact TLes.nil | refine TLes.cons (TLe.eq rfl) ?_ | refine TLes.cons (TLe.bool ?_) ?_); skip)
    all_goals
      rw [Int.tdiv_eq_ediv_of_nonneg (by omega), wrap64 (x := ((q.b - q.a : Nat) : Int) / 8) (by omega) (by omega), wrap64 (by omega) (by omega), decide_eq_decide]
      omega
end Go.Proofs.Ytmanpbgaihdalaa
namespace Go.Proofs
open Go.Shelf
def Try.lays129_ren : Go.Shelf.Ren := ⟨fun | 129 => 194 | n => n, fun | 53 => 128 | 3 => 3 | 4 => 4 | 46 => 170 | 5 => 5 | 9 => 9 | n => n, fun | n => n⟩
theorem Try.lays129 : Go.Proofs.Lays.n129 Try.prog Try.lays129_ren := {
  mixed := by kernel_rfl
  f129 := Try.func194.trans (congrArg some (by kernel_rfl))
  t3 := Try.underlying3
  a3 := Try.isAgg3
  z3 := Try.sizeOf3
  v3 := Try.zeroValue3
  t4 := Try.underlying4
  a4 := Try.isAgg4
  z4 := Try.sizeOf4
  v4 := Try.zeroValue4
  t5 := Try.underlying5
  a5 := Try.isAgg5
  z5 := Try.sizeOf5
  v5 := Try.zeroValue5
  t9 := Try.underlying9
  a9 := Try.isAgg9
  z9 := Try.sizeOf9
  v9 := Try.zeroValue9
  t46 := Try.underlying170
  a46 := Try.isAgg170
  z46 := Try.sizeOf170
  v46 := Try.zeroValue170
  t53 := Try.underlying128
  a53 := Try.isAgg128
  z53 := Try.sizeOf128
  v53 := Try.zeroValue128 }
def Try.lays125_ren : Go.Shelf.Ren := ⟨fun | 125 => 183 | 128 => 193 | 129 => 194 | n => n, fun | 46 => 170 | 3 => 3 | 51 => 180 | 53 => 128 | 4 => 4 | 5 => 5 | 9 => 9 | n => n, fun | n => n⟩
theorem Try.lays125 : Go.Proofs.Lays.n125 Try.prog Try.lays125_ren := {
  mixed := by kernel_rfl
  f125 := Try.func183.trans (congrArg some (by kernel_rfl))
  f128 := Try.func193.trans (congrArg some (by kernel_rfl))
  f129 := Try.func194.trans (congrArg some (by kernel_rfl))
  t3 := Try.underlying3
  a3 := Try.isAgg3
  z3 := Try.sizeOf3
  v3 := Try.zeroValue3
  t4 := Try.underlying4
  a4 := Try.isAgg4
  z4 := Try.sizeOf4
  v4 := Try.zeroValue4
  t5 := Try.underlying5
  a5 := Try.isAgg5
  z5 := Try.sizeOf5
  v5 := Try.zeroValue5
  t9 := Try.underlying9
  a9 := Try.isAgg9
  z9 := Try.sizeOf9
  v9 := Try.zeroValue9
  t46 := Try.underlying170
  a46 := Try.isAgg170
  z46 := Try.sizeOf170
  v46 := Try.zeroValue170
  t51 := Try.underlying180
  a51 := Try.isAgg180
  z51 := Try.sizeOf180
  v51 := Try.zeroValue180
  t53 := Try.underlying128
  a53 := Try.isAgg128
  z53 := Try.sizeOf128
  v53 := Try.zeroValue128 }
end Go.Proofs
namespace Go.Proofs.Ytmanpbgaihdalaa
open Go Dv Go.Sort Go.Shelf
set_option maxRecDepth 10000
set_option linter.unusedSimpArgs false
theorem c_Len (x : Nat) (hx : x < 4611686018427387904) : FC Try.prog 183 [.int .u64 x] (iv (bitsLen x)) := by
  refine ⟨⟨_, Try.func183, rfl, by decide +kernel⟩, fun X w vals _ hV => ?_⟩
  simp only [Vs, V] at hV
  obtain ⟨v, r, rfl, ⟨rfl, _⟩, rfl⟩ := hV
  refine (Any.bits_Len Try.lays125 (x : Int) w (by omega) (by omega)).mono ?_
  rintro e w' ⟨he, rfl⟩
  rw [Int.toNat_natCast, Go.Proofs.bitLen_eq _ (by omega)] at he
  refine ⟨_, he, Fr.refl _ _, ?_⟩
  simp only [V]
  have := (bitsLen_le_iff x 62).2 (by omega)
  refine ⟨trivial, ?_, ?_⟩ <;> simp [IntKind.min, IntKind.max, IntKind.signed, IntKind.bits] <;> omega
theorem c_nextPow (L : Nat) (hL : L < 4611686018427387904) : FC Try.prog 196 [iv L] (.int .u64 ((1 <<< bitsLen L : Nat) : Int)) := by
  refine FC_intro tok Try.func196 rfl (by decide +kernel) (Nat.le_of_ble_eq_true rfl) ?_
  (repeat' first | refine AWp_seq ?_ | (refine AWp_reg tok (by rfl) ?_; conv => whnf))
  have hcall : ∀ z : Int, z = (L : Int) → FC Try.prog 183 [.int .u64 z] (iv (bitsLen L)) := fun z e => e ▸ c_Len L hL
  refine .inl ⟨_, _, _, uG (QC.fc (hcall _ (by rw [IntKind.wrap_u64]; omega)) rfl), ?_⟩
  conv => whnf
  ((repeat' first | (refine AWp_ret ?_; conv => whnf) | (refine @And.intro (underG _ _ _ _) _ ?_ ?_; rotate_left; (conv => whnf); rotate_right)); all_goals (try ((guard_target = underG _ _ _ _); refine underG_none ?_; all_goals omega)))
  have hk : bitsLen L ≤ 62 := (bitsLen_le_iff L 62).2 (by omega)
  refine ⟨_, rfl, Rel.int ?_⟩
  show IntKind.u64.wrap (1 * 2 ^ (min (bitsLen L : Int).toNat 64)) = _
  rw [Int.toNat_natCast, Nat.min_eq_left (by omega), Int.one_mul]
  exact Go.Proofs.wrap_two_pow (bitsLen L) hk
def g1 (y : Int) : Int := bitsI .xor .u64 y (y.fdiv (2 ^ (min (7 : Int).toNat IntKind.u64.bits)))
def g2 (y : Int) : Int := bitsI .xor .u64 y (IntKind.u64.wrap (y * 2 ^ (min (17 : Int).toNat IntKind.u64.bits)))
abbrev urow (r : Nat) : ABlock := .row true 1 1 (fun _ => [.int .u64 r])
theorem c_Next (X : Nat) (hX : X < 18446744073709551616) : HC Try.prog [i0] 197 [(i0, urow X)] [.bp i0 0] (.int .u64 (xorNextN X)) [(i0, urow (xorNextN X))] := by
  refine HC_intro tok Try.func197 rfl (by decide +kernel) (Nat.le_of_ble_eq_true rfl) ?_
  obtain ⟨A, hA⟩ : ∃ A : Nat, A = X ^^^ (X * 8192 % 18446744073709551616) := ⟨_, rfl⟩
  obtain ⟨B, hB⟩ : ∃ B : Nat, B = A ^^^ (A / 128) := ⟨_, rfl⟩
  obtain ⟨C, hC⟩ : ∃ C : Nat, C = B ^^^ (B * 131072 % 18446744073709551616) := ⟨_, rfl⟩
  have lA : A < 18446744073709551616 := by rw [hA]; exact Nat.xor_lt_two_pow (n := 64) (by omega) (by omega)
  have lB : B < 18446744073709551616 := by rw [hB]; exact Nat.xor_lt_two_pow (n := 64) (by omega) (by omega)
  have e1 : Go.bits .xor .u64 (X : Int) (IntKind.u64.wrap ((X : Int) * 8192)) = (A : Int) := by
    rw [IntKind.wrap_u64, show ((X : Int) * 8192 % 18446744073709551616) = ((X * 8192 % 18446744073709551616 : Nat) : Int) by omega, bits_xor_u64_nat _ _ hX (by omega), hA]
  have e2 : Go.bits .xor .u64 (A : Int) ((A : Int).fdiv 128) = (B : Int) := by
    rw [Int.fdiv_eq_ediv_of_nonneg _ (by omega), show ((A : Int) / 128) = ((A / 128 : Nat) : Int) by omega, bits_xor_u64_nat _ _ lA (by omega), hB]
  have e3 : Go.bits .xor .u64 (B : Int) (IntKind.u64.wrap ((B : Int) * 131072)) = (C : Int) := by
    rw [IntKind.wrap_u64, show ((B : Int) * 131072 % 18446744073709551616) = ((B * 131072 % 18446744073709551616 : Nat) : Int) by omega, bits_xor_u64_nat _ _ lB (by omega), hC]
  have hv : xorNextN X = C := by unfold xorNextN; simp only []; rw [← hA, ← hB, ← hC]
  rw [hv]
  have hE : g2 (g1 (bitsI .xor .u64 (X : Int) (IntKind.u64.wrap ((X : Int) * 2 ^ (min (13 : Int).toNat IntKind.u64.bits))))) = (C : Int) := by
    rw [show bitsI .xor .u64 (X : Int) (IntKind.u64.wrap ((X : Int) * 2 ^ (min (13 : Int).toNat IntKind.u64.bits))) = (A : Int) from e1, show g1 (A : Int) = (B : Int) from e2]
    exact e3
  ((repeat' first | refine AWp_seq ?_ | (refine AWp_reg tok (by rfl) ?_; conv => whnf) | (refine AWp_any tok mix (by rfl) ?_; conv => whnf) | (refine AWp_ret ?_; conv => whnf) | (refine @And.intro (underG _ _ _ _) _ ?_ ?_; rotate_left; (conv => whnf); rotate_right)); all_goals (try ((guard_target = underG _ _ _ _); refine underG_none ?_; all_goals omega)))
  refine ⟨_, [(i0, .old i0, urow C)], rfl, rfl, rfl, rfl, .old rfl (BLe.row rfl (fun x hx => ?_)) .nil, TLe.int hE⟩
  match x, hx with
  | 0, _ => exact congrArg (fun z => [AV.int .u64 z]) hE
theorem bp_size : ∀ (a L M I k t : Nat) (st : UInt64 × Array Int), (Go.Proofs.bpRest a L M I k t st).size = st.2.size
  | _, _, _, _, 0, _, _ => rfl
  | a, L, M, I, k + 1, t, st => by
      simp only [Go.Proofs.bpRest]; rw [bp_size]; simp only [breakStep]; rw [swp_size]
theorem c_break : Brk := by
  intro n d0 a b hn hab hbn
  refine HC_intro tok Try.func186 rfl (by decide +kernel) (Nat.le_of_ble_eq_true rfl) ?_
  refine AWp_facts 0 (fun hl => ?_)
  have hl0 : n ≤ 4294967296 := hl
  obtain ⟨L, rfl⟩ : ∃ L, b = a + L := ⟨b - a, by omega⟩
  (repeat' first | refine AWp_seq ?_ | (refine AWp_reg tok (by rfl) ?_; conv => whnf) | (refine AWp_skip ?_; conv => whnf) | refine AWp_cond rfl (fun hb => ?_) (fun hb => ?_))
  · have h8 : 8 ≤ L := by simp (disch := omega) only [wrap64] at hb; simp only [underG, true_and, and_true, Bool.cond_true_left, Bool.cond_false_left, Bool.cond_true_right, Bool.cond_false_right, Bool.or_eq_true, Bool.and_eq_true, Bool.or_eq_false_iff, Bool.and_eq_false_iff, cond_true, cond_false, Bool.not_eq_eq_eq_not, Bool.not_true, Bool.not_false, decide_eq_true_eq, decide_eq_false_iff_not, Int.toNat_natCast, Nat.zero_add, Decidable.not_not, maxL, inn_iff] at *; omega
    rw [Go.Proofs.breakPatterns_eq d0 a L h8]
    obtain ⟨M, hM⟩ : ∃ M, M = 1 <<< bitsLen L := ⟨_, rfl⟩
    have hM1 : 1 ≤ M := by rw [hM, Nat.one_shiftLeft]; exact Nat.two_pow_pos _
    have hM2 : M ≤ 2 * L := by rw [hM, Nat.one_shiftLeft]; exact two_pow_bitsLen_le (by omega)
    rw [← hM]
    obtain ⟨I, hI⟩ : ∃ I, I = a + L / 4 * 2 - 1 := ⟨_, rfl⟩
    rw [← hI]
    have hnp : ∀ z : Int, z = (L : Int) → FC Try.prog 196 [iv z] (.int .u64 (M : Int)) := fun z e => by rw [e, hM]; exact c_nextPow L (by omega)
    refine .inl ⟨_, _, _, uG (QC.fc (hnp _ (by simp (disch := omega) only [wrap64]; omega)) rfl), ?_⟩
    conv => whnf
    ((repeat' first | refine AWp_seq ?_ | (refine AWp_reg tok (by rfl) ?_; conv => whnf) | refine AWp_block ?_ | (refine @And.intro (underG _ _ _ _) _ ?_ ?_; rotate_left; (conv => whnf); rotate_right)); all_goals (try ((guard_target = underG _ _ _ _); refine underG_none ?_; (all_goals (try simp only [underG, true_and, and_true, Bool.cond_true_left, Bool.cond_false_left, Bool.cond_true_right, Bool.cond_false_right, Bool.or_eq_true, Bool.and_eq_true, Bool.or_eq_false_iff, Bool.and_eq_false_iff, cond_true, cond_false, Bool.not_eq_eq_eq_not, Bool.not_true, Bool.not_false, decide_eq_true_eq, decide_eq_false_iff_not, Int.toNat_natCast, Nat.zero_add, Decidable.not_not, maxL, inn_iff] at *)); all_goals omega)))
    obtain ⟨R0, hR0⟩ : ∃ R0, R0 = Go.Proofs.bpRest a L M I 3 0 (UInt64.ofNat L, d0) := ⟨_, rfl⟩
    rw [← hR0]
    have eL : IntKind.i64.wrap (((a + L : Nat) : Int) - (a : Int)) = (L : Int) := by rw [wrap64 (by omega) (by omega)]; omega
    have eQ : ((L : Int)).tdiv 4 = ((L / 4 : Nat) : Int) := by rw [Int.tdiv_eq_ediv_of_nonneg (by omega)]; omega
    have eA : IntKind.i64.wrap ((a : Int) + IntKind.i64.wrap (IntKind.i64.wrap ((L : Int).tdiv 4) * 2)) = ((I + 1 : Nat) : Int) := by
      rw [eQ, wrap64 (x := ((L / 4 : Nat) : Int)) (by omega) (by omega), wrap64 (x := ((L / 4 : Nat) : Int) * 2) (by omega) (by omega), wrap64 (by omega) (by omega)]; omega
    refine AWp_loop (fun q : Nat × UInt64 × Array Int => mkS [(0, .rs i0 1 0 n), (1, iv a), (6, iv L), (7, .bp (7, 0, 0) 0), (8, .int .u64 M), (9, iv ((I + q.1 : Nat) : Int))] [(i0, arow n q.2.2), ((7, 0, 0), urow q.2.1.toNat)])
      (fun q => q.1 ≤ 3 ∧ q.2.2.size = n ∧ Go.Proofs.bpRest a L M I (3 - q.1) q.1 (q.2.1, q.2.2) = R0) (fun q => 3 - q.1) (0, UInt64.ofNat L, d0) ⟨Nat.zero_le _, hn, hR0.symm⟩ ?_ ?_
    · refine Weak.list [(i0, .old i0, arow n d0), ((7, 0, 0), .old (7, 0, 0), urow (UInt64.ofNat L).toNat)] rfl (by rfl) ?_ (.old rfl (BLe.refl _) (.old rfl (BLe.row rfl (fun x hx => ?_)) .nil))
      · ((repeat' first | exact TLes.nil | refine TLes.cons (TLe.eq rfl) ?_ | refine TLes.cons (TLe.int ?_) ?_); (all_goals first | ((try (simp only [underG, true_and, and_true, Bool.cond_true_left, Bool.cond_false_left, Bool.cond_true_right, Bool.cond_false_right, Bool.or_eq_true, Bool.and_eq_true, Bool.or_eq_false_iff, Bool.and_eq_false_iff, cond_true, cond_false, Bool.not_eq_eq_eq_not, Bool.not_true, Bool.not_false, decide_eq_true_eq, decide_eq_false_iff_not, Int.toNat_natCast, Nat.zero_add, Decidable.not_not, maxL, inn_iff] at *)); omega) | skip))
        all_goals (rw [eL, eA, wrap64 (by omega) (by omega)]; simp)
      · match x, hx with
        | 0, _ =>
          show [AV.int .u64 (IntKind.u64.wrap (IntKind.i64.wrap (((a + L : Nat) : Int) - (a : Int))))] = [AV.int .u64 ((UInt64.ofNat L).toNat : Int)]
          rw [eL, IntKind.wrap_u64, UInt64.toNat_ofNat']
          simp
    clear hR0
    rintro ⟨t, r, d⟩ ⟨ht, hd, hR⟩
    simp only at ht hd hR ⊢
    ((repeat' first | refine AWp_seq ?_ | (refine AWp_reg tok (by rfl) ?_; conv => whnf) | refine AWp_block ?_ | (refine AWp_skip ?_; conv => whnf) | (refine AWp_exit ?_; conv => whnf) | refine AWp_cond rfl (fun hb => ?_) (fun hb => ?_) | (refine @And.intro (underG _ _ _ _) _ ?_ ?_; rotate_left; (conv => whnf); rotate_right)); all_goals (try ((guard_target = underG _ _ _ _); refine underG_none ?_; (all_goals (try simp only [underG, true_and, and_true, Bool.cond_true_left, Bool.cond_false_left, Bool.cond_true_right, Bool.cond_false_right, Bool.or_eq_true, Bool.and_eq_true, Bool.or_eq_false_iff, Bool.and_eq_false_iff, cond_true, cond_false, Bool.not_eq_eq_eq_not, Bool.not_true, Bool.not_false, decide_eq_true_eq, decide_eq_false_iff_not, Int.toNat_natCast, Nat.zero_add, Decidable.not_not, maxL, inn_iff] at *)); all_goals omega)))
    · have ht2 : t < 3 := by rw [eA, wrap64 (by omega) (by omega)] at hb; simp only [underG, true_and, and_true, Bool.cond_true_left, Bool.cond_false_left, Bool.cond_true_right, Bool.cond_false_right, Bool.or_eq_true, Bool.and_eq_true, Bool.or_eq_false_iff, Bool.and_eq_false_iff, cond_true, cond_false, Bool.not_eq_eq_eq_not, Bool.not_true, Bool.not_false, decide_eq_true_eq, decide_eq_false_iff_not, Int.toNat_natCast, Nat.zero_add, Decidable.not_not, maxL, inn_iff] at *; omega
      clear hb
      have lr := r.toNat_lt
      refine .inr ⟨_, _, _, uG (QH.of (dead := []) [(i0, .old (7, 0, 0), urow r.toNat)] (c_Next r.toNat (by omega)) rfl (.old rfl (BLe.refl _) .nil) (.cons (.eq rfl) .nil) [(i0, (7, 0, 0))] rfl (.cons rfl (BLe.refl _) .nil) rfl), ?_⟩
      conv => whnf
      (repeat' ((fail_if_success (show AWp _ _ _ (Code.region 8 _ _) _ _)); refine AWp_seq ?_))
      rw [← xorNext_toNat]
      obtain ⟨O, hO⟩ : ∃ O, O = (xorNext r).toNat &&& (M - 1) := ⟨_, rfl⟩
      have lO : O ≤ M - 1 := by rw [hO]; exact Nat.and_le_right
      have lx := (xorNext r).toNat_lt
      have eO : IntKind.i64.wrap (bitsI .and .u64 ((xorNext r).toNat : Int) (IntKind.u64.wrap ((M : Int) - 1))) = (O : Int) := by
        rw [IntKind.wrap_u64, show ((M : Int) - 1) % 18446744073709551616 = ((M - 1 : Nat) : Int) by omega, show bitsI .and .u64 ((xorNext r).toNat : Int) ((M - 1 : Nat) : Int) = (((xorNext r).toNat &&& (M - 1) : Nat) : Int) from bits_and_u64_nat _ _ (by omega) (by omega), ← hO, wrap64 (by omega) (by omega)]
      refine AWp_weak (Weak.list (tl := [(0, .rs i0 1 0 n), (1, iv a), (6, iv L), (7, .bp (7, 0, 0) 0), (8, .int .u64 M), (9, iv ((I + t : Nat) : Int)), (10, iv O)]) [(i0, .old i0, arow n d), ((7, 0, 0), .old (7, 0, 0), urow (xorNext r).toNat)] rfl (by rfl) ?_ (.old rfl (BLe.refl _) (.old rfl (BLe.refl _) .nil))) ?_
      · ((repeat' first | exact TLes.nil | refine TLes.cons (TLe.eq rfl) ?_ | refine TLes.cons (TLe.int ?_) ?_); (all_goals first | ((try (simp only [underG, true_and, and_true, Bool.cond_true_left, Bool.cond_false_left, Bool.cond_true_right, Bool.cond_false_right, Bool.or_eq_true, Bool.and_eq_true, Bool.or_eq_false_iff, Bool.and_eq_false_iff, cond_true, cond_false, Bool.not_eq_eq_eq_not, Bool.not_true, Bool.not_false, decide_eq_true_eq, decide_eq_false_iff_not, Int.toNat_natCast, Nat.zero_add, Decidable.not_not, maxL, inn_iff] at *)); omega) | skip))
      (repeat' (refine AWp_reg tok (by rfl) ?_; conv => whnf))
      obtain ⟨o, ho⟩ : ∃ o, o = if O ≥ L then O - L else O := ⟨_, rfl⟩
      have lo : o < L := by rw [ho]; split <;> omega
      refine AWp_meet (fun _ : Unit => mkS [(0, .rs i0 1 0 n), (1, iv a), (6, iv L), (7, .bp (7, 0, 0) 0), (8, .int .u64 M), (9, iv ((I + t : Nat) : Int)), (10, iv o)] [(i0, arow n d), ((7, 0, 0), urow (xorNext r).toNat)]) (fun _ => True) ?_ ?_
      · (repeat' first | (refine AWp_reg tok (by rfl) ?_; conv => whnf) | (refine AWp_skip ?_; conv => whnf) | refine AWp_cond rfl (fun hb => ?_) (fun hb => ?_))
        · have h1 : O ≥ L := by simp only [underG, true_and, and_true, Bool.cond_true_left, Bool.cond_false_left, Bool.cond_true_right, Bool.cond_false_right, Bool.or_eq_true, Bool.and_eq_true, Bool.or_eq_false_iff, Bool.and_eq_false_iff, cond_true, cond_false, Bool.not_eq_eq_eq_not, Bool.not_true, Bool.not_false, decide_eq_true_eq, decide_eq_false_iff_not, Int.toNat_natCast, Nat.zero_add, Decidable.not_not, maxL, inn_iff] at *; omega
          rw [if_pos h1] at ho
          refine ⟨(), trivial, Weak.list [(i0, .old i0, arow n d), ((7, 0, 0), .old (7, 0, 0), urow (xorNext r).toNat)] rfl (by rfl) ?_ (.old rfl (BLe.refl _) (.old rfl (BLe.refl _) .nil))⟩
          ((repeat' first | exact TLes.nil | refine TLes.cons (TLe.eq rfl) ?_ | refine TLes.cons (TLe.int ?_) ?_); (all_goals first | ((try (simp only [underG, true_and, and_true, Bool.cond_true_left, Bool.cond_false_left, Bool.cond_true_right, Bool.cond_false_right, Bool.or_eq_true, Bool.and_eq_true, Bool.or_eq_false_iff, Bool.and_eq_false_iff, cond_true, cond_false, Bool.not_eq_eq_eq_not, Bool.not_true, Bool.not_false, decide_eq_true_eq, decide_eq_false_iff_not, Int.toNat_natCast, Nat.zero_add, Decidable.not_not, maxL, inn_iff] at *)); (simp (disch := omega) only [wrap64]; omega)) | skip))
          all_goals (rw [ho]; simp (disch := omega) only [wrap64]; omega)
        · have h1 : ¬ O ≥ L := by simp only [underG, true_and, and_true, Bool.cond_true_left, Bool.cond_false_left, Bool.cond_true_right, Bool.cond_false_right, Bool.or_eq_true, Bool.and_eq_true, Bool.or_eq_false_iff, Bool.and_eq_false_iff, cond_true, cond_false, Bool.not_eq_eq_eq_not, Bool.not_true, Bool.not_false, decide_eq_true_eq, decide_eq_false_iff_not, Int.toNat_natCast, Nat.zero_add, Decidable.not_not, maxL, inn_iff] at *; omega
          rw [if_neg h1] at ho
          refine ⟨(), trivial, Weak.list [(i0, .old i0, arow n d), ((7, 0, 0), .old (7, 0, 0), urow (xorNext r).toNat)] rfl (by rfl) ?_ (.old rfl (BLe.refl _) (.old rfl (BLe.refl _) .nil))⟩
          ((repeat' first | exact TLes.nil | refine TLes.cons (TLe.eq rfl) ?_ | refine TLes.cons (TLe.int ?_) ?_); (all_goals first | ((try (simp only [underG, true_and, and_true, Bool.cond_true_left, Bool.cond_false_left, Bool.cond_true_right, Bool.cond_false_right, Bool.or_eq_true, Bool.and_eq_true, Bool.or_eq_false_iff, Bool.and_eq_false_iff, cond_true, cond_false, Bool.not_eq_eq_eq_not, Bool.not_true, Bool.not_false, decide_eq_true_eq, decide_eq_false_iff_not, Int.toNat_natCast, Nat.zero_add, Decidable.not_not, maxL, inn_iff] at *)); omega) | skip))
          all_goals (rw [ho])
      rintro _ _ τ hτ
      refine AWp_weak hτ ?_
      conv => whnf
      ((repeat' first | (refine AWp_reg tok (by rfl) ?_; conv => whnf) | (refine AWp_any tok mix (by rfl) ?_; conv => whnf) | (refine @And.intro (underG _ _ _ _) _ ?_ ?_; rotate_left; (conv => whnf); rotate_right)); all_goals (try ((guard_target = underG _ _ _ _); refine underG_none ?_; (all_goals (try simp only [underG, true_and, and_true, Bool.cond_true_left, Bool.cond_false_left, Bool.cond_true_right, Bool.cond_false_right, Bool.or_eq_true, Bool.and_eq_true, Bool.or_eq_false_iff, Bool.and_eq_false_iff, cond_true, cond_false, Bool.not_eq_eq_eq_not, Bool.not_true, Bool.not_false, decide_eq_true_eq, decide_eq_false_iff_not, Int.toNat_natCast, Nat.zero_add, Decidable.not_not, maxL, inn_iff] at *)); (all_goals (try (simp (disch := omega) only [wrap64]))); all_goals omega)))
      have h2 : d[0 + (IntKind.i64.wrap ((a : Int) + (o : Int))).toNat]! = d[a + o]! := by simp (disch := omega) only [wrap64]; exact bang_at (by omega)
      refine ⟨(t + 1, xorNext r, swp d (I + t) (a + o)), ⟨ht2, by rw [swp_size]; exact hd, ?_⟩, by simp; omega, ?_⟩
      · rw [← hR]; exact (Go.Proofs.bp_step a L M I t r d o ht2 (by rw [← hO]; exact ho.symm)).symm
      refine Weak.list [(i0, .old i0, arow n (swp d (I + t) (a + o))), ((7, 0, 0), .old (7, 0, 0), urow (xorNext r).toNat)] rfl (by rfl) ?_ (.old rfl (BLe.row rfl (fun x hx => ?_)) (.old rfl (BLe.refl _) .nil))
      · ((repeat' first | exact TLes.nil | refine TLes.cons (TLe.eq rfl) ?_ | refine TLes.cons (TLe.int ?_) ?_); (all_goals first | ((try (simp only [underG, true_and, and_true, Bool.cond_true_left, Bool.cond_false_left, Bool.cond_true_right, Bool.cond_false_right, Bool.or_eq_true, Bool.and_eq_true, Bool.or_eq_false_iff, Bool.and_eq_false_iff, cond_true, cond_false, Bool.not_eq_eq_eq_not, Bool.not_true, Bool.not_false, decide_eq_true_eq, decide_eq_false_iff_not, Int.toNat_natCast, Nat.zero_add, Decidable.not_not, maxL, inn_iff] at *)); exact wrap64 (by omega) (by omega)) | skip))
      · exact swp_row (d := d) (i := I + t) (j := a + o) (by omega) (by omega) (by omega) (by simp (disch := omega) only [wrap64]; omega) h2 (bang_at (by omega)) x
    · have ht3 : t = 3 := by rw [eA, wrap64 (by omega) (by omega)] at hb; simp only [underG, true_and, and_true, Bool.cond_true_left, Bool.cond_false_left, Bool.cond_true_right, Bool.cond_false_right, Bool.or_eq_true, Bool.and_eq_true, Bool.or_eq_false_iff, Bool.and_eq_false_iff, cond_true, cond_false, Bool.not_eq_eq_eq_not, Bool.not_true, Bool.not_false, decide_eq_true_eq, decide_eq_false_iff_not, Int.toNat_natCast, Nat.zero_add, Decidable.not_not, maxL, inn_iff] at *; omega
      subst ht3
      have hRes : R0 = d := hR.symm
      rw [hRes]
      exact ⟨_, [(i0, .old i0, arow n d)], rfl, rfl, rfl, rfl, .old rfl (BLe.refl _) .nil, .eq rfl⟩
  · have h8 : ¬ 8 ≤ L := by simp (disch := omega) only [wrap64] at hb; simp only [underG, true_and, and_true, Bool.cond_true_left, Bool.cond_false_left, Bool.cond_true_right, Bool.cond_false_right, Bool.or_eq_true, Bool.and_eq_true, Bool.or_eq_false_iff, Bool.and_eq_false_iff, cond_true, cond_false, Bool.not_eq_eq_eq_not, Bool.not_true, Bool.not_false, decide_eq_true_eq, decide_eq_false_iff_not, Int.toNat_natCast, Nat.zero_add, Decidable.not_not, maxL, inn_iff] at *; omega
    have : breakPatterns d0 a (a + L) = d0 := by unfold breakPatterns; simp only []; rw [if_neg (by omega)]
    rw [this]
    exact ⟨_, [(i0, .old i0, arow n d0)], rfl, rfl, rfl, rfl, .old rfl (BLe.refl _) .nil, .eq rfl⟩
end Go.Proofs.Ytmanpbgaihdalaa
namespace Go.Proofs.Ytmanpbgaihdalaa
open Go Dv Go.Sort
set_option maxRecDepth 10000
set_option linter.unusedSimpArgs false
theorem c_Sort (n : Nat) (d : Array Int) (hn : d.size = n) : HC Try.prog [i0] 176 [(i0, arow n d)] [.rs i0 1 0 n] (.tup []) [(i0, arow n (Go.Sort.sort ltInt d))] := by
  refine HC_intro tok Try.func176 rfl (by decide +kernel) (Nat.le_of_ble_eq_true rfl) ?_
  refine AWp_facts 0 (fun hl => ?_)
  have hl0 : n ≤ 4294967296 := hl
  (repeat' first | refine AWp_seq ?_ | (refine AWp_reg tok (by rfl) ?_; conv => whnf))
  have hk := (bitsLen_le_iff n 62).2 (by omega)
  have hlen : ∀ z : Int, z = (n : Int) → FC Try.prog 183 [.int .u64 z] (iv (bitsLen n)) := fun z e => e ▸ c_Len n (by omega)
  refine .inl ⟨_, _, _, uG (QC.fc (hlen _ (by rw [IntKind.wrap_u64]; omega)) rfl), ?_⟩
  conv => whnf
  skip
  have hp := c_pdq c_break n n d 0 n (bitsLen n) hn (Nat.zero_le _) (Nat.le_refl _) (by omega) (by omega) (Or.inl rfl)
  have he : Go.Sort.sort ltInt d = pdq ltInt d 0 n (bitsLen n) true true := by unfold Go.Sort.sort; rw [hn]
  rw [he]
  refine .inr ⟨_, _, _, uG (QH.of (dead := []) [(i0, .old i0, arow n d)] hp rfl (.old rfl (BLe.refl _) .nil) (.cons (.eq rfl) (.cons (.eq rfl) (.cons (.eq rfl) (.cons (.eq rfl) .nil)))) [(i0, i0)] rfl (.cons rfl (BLe.refl _) .nil) rfl), ?_⟩
  conv => whnf
  skip
  exact ⟨_, [(i0, .old i0, arow n (pdq ltInt d 0 n (bitsLen n) true true))], rfl, rfl, rfl, rfl, .old rfl (BLe.refl _) .nil, .eq rfl⟩
/-- What it sorts to, as a list. -/
def sorted (l : List Int) : List Int := (Go.Sort.sort ltInt l.toArray).toList
theorem sorted_len (l : List Int) : (sorted l).length = l.length := by
  have := (sort_sorts ltInt swo_ltInt l.toArray).1.1
  simp only [sorted, Array.length_toList, this, List.size_toArray]
theorem sorted_eq (l : List Int) : sorted l = l.mergeSort (fun x y => decide (x ≤ y)) := sortInt l
theorem bang_list (l : List Int) (x : Nat) : l.toArray[x]! = l.getD x 0 := by
  by_cases h : x < l.length
  · rw [getElem!_pos l.toArray x (by simpa using h), getD_lt 0 h]; simp
  · rw [getElem!_neg l.toArray x (by simpa using h), List.getD_eq_getElem?_getD, List.getElem?_eq_none (by omega)]; rfl
end Go.Proofs.Ytmanpbgaihdalaa
namespace Go.Proofs.Ytmanpbgaihdalaa
open Go Dv Go.Sort
set_option maxRecDepth 10000
set_option linter.unusedSimpArgs false
def runs (d : Array Int) : Nat → Nat
  | 0 => 0
  | 1 => 1
  | j + 2 => runs d (j + 1) + if d[j + 1]! = d[j]! then 0 else 1
theorem runs_succ (d : Array Int) {j : Nat} (h : 1 ≤ j) : runs d (j + 1) = runs d j + if d[j]! = d[j - 1]! then 0 else 1 := by
  obtain ⟨j, rfl⟩ : ∃ k, j = k + 1 := ⟨j - 1, by omega⟩
  rfl
theorem runs_le (d : Array Int) : ∀ j, runs d j ≤ j
  | 0 => Nat.le_refl _
  | 1 => Nat.le_refl _
  | j + 2 => by have := runs_le d (j + 1); simp only [runs]; split <;> omega
abbrev xrow (n : Nat) : ABlock := .row true 1 n (fun _ => [.any])
theorem any_row {n n' : Nat} {f : Nat → List AV} (hn : n' ≤ n) (h : ∀ i, i < n' → ∃ v, f i = [v]) : BLe (.row true 1 n f) (xrow n') := by
  refine BLe.rowW hn (fun i hi => ?_)
  obtain ⟨v, e⟩ := h i hi
  rw [e]; exact .cons .any .nil
theorem set_row {d : Array Int} {i i' : Nat} {u v : Int} (hi : i < d.size) (ei : i' = i) (eu : u = v) (x : Nat) :
    updR (fun x => [AV.int .u16 d[x]!]) i' [.int .u16 u] x = [.int .u16 (d.setIfInBounds i v)[x]!] := by
  subst ei; subst eu
  rw [bang_set _ _ _ _ hi]
  unfold updR
  cases h2 : Nat.beq i' x with
  | true => have := Nat.eq_of_beq_eq_true h2; rw [if_pos this]; rfl
  | false =>
    have n2 : i' ≠ x := fun e => by subst e; simp at h2
    rw [if_neg n2]; rfl
theorem c_Compact (n : Nat) (d : Array Int) (hn : d.size = n) : HC Try.prog [i0] 168 [(i0, arow n d)] [.rs i0 1 0 n] (.rs i0 1 0 (runs d n)) [(i0, xrow n)] := by
  refine HC_intro tok Try.func168 rfl (by decide +kernel) (Nat.le_of_ble_eq_true rfl) ?_
  refine AWp_facts 0 (fun hl => ?_)
  have hl0 : n ≤ 4294967296 := hl
  (repeat' first | refine AWp_seq ?_ | (refine AWp_reg tok (by rfl) ?_; conv => whnf) | refine AWp_block ?_ | (refine AWp_skip ?_; conv => whnf) | (refine AWp_ret ?_; conv => whnf) | refine AWp_cond rfl (fun hb => ?_) (fun hb => ?_))
  · have h2 : n = 0 ∨ n = 1 := by simp only [underG, true_and, and_true, Bool.cond_true_left, Bool.cond_false_left, Bool.cond_true_right, Bool.cond_false_right, Bool.or_eq_true, Bool.and_eq_true, Bool.or_eq_false_iff, Bool.and_eq_false_iff, cond_true, cond_false, Bool.not_eq_eq_eq_not, Bool.not_true, Bool.not_false, decide_eq_true_eq, decide_eq_false_iff_not, Int.toNat_natCast, Nat.zero_add, Decidable.not_not, maxL, inn_iff] at *; omega
    have hr : runs d n = n := by rcases h2 with rfl | rfl <;> rfl
    rw [hr]
    exact ⟨_, [(i0, .old i0, xrow n)], rfl, rfl, rfl, rfl, .old rfl (any_row (Nat.le_refl _) (fun i _ => ⟨_, rfl⟩)) .nil, .eq rfl⟩
  have hn2 : 2 ≤ n := by simp only [underG, true_and, and_true, Bool.cond_true_left, Bool.cond_false_left, Bool.cond_true_right, Bool.cond_false_right, Bool.or_eq_true, Bool.and_eq_true, Bool.or_eq_false_iff, Bool.and_eq_false_iff, cond_true, cond_false, Bool.not_eq_eq_eq_not, Bool.not_true, Bool.not_false, decide_eq_true_eq, decide_eq_false_iff_not, Int.toNat_natCast, Nat.zero_add, Decidable.not_not, maxL, inn_iff] at *; omega
  clear hb
  refine AWp_loop (fun k : Nat => mkS [(0, .rs i0 1 0 n), (2, .nsl), (3, iv k)] [(i0, arow n d)])
    (fun k => 1 ≤ k ∧ k ≤ n ∧ runs d k = k) (fun k => n - k) 1 ⟨Nat.le_refl _, by omega, rfl⟩ ?_ ?_
  · refine Weak.list [(i0, .old i0, arow n d)] rfl (by rfl) ?_ (.old rfl (BLe.refl _) .nil)
    ((repeat' first | exact TLes.nil | refine TLes.cons (TLe.eq rfl) ?_); skip)
  rintro k ⟨hk1, hk2, hr⟩
  have hm1 : d[0 + (IntKind.i64.wrap ((k : Int) - 1)).toNat]! = d[k - 1]! := by simp (disch := omega) only [wrap64]; exact bang_at (by omega)
  ((repeat' ((fail_if_success (show AWp _ _ _ (Code.region 8 _ _) _ _)); first | refine AWp_seq ?_ | (refine AWp_reg tok (by rfl) ?_; conv => whnf) | (refine AWp_any tok mix (by rfl) ?_; conv => whnf) | refine AWp_block ?_ | (refine AWp_skip ?_; conv => whnf) | (refine AWp_exit ?_; conv => whnf) | (refine AWp_ret ?_; conv => whnf) | refine AWp_cond rfl (fun hb => ?_) (fun hb => ?_) | (refine @And.intro (underG _ _ _ _) _ ?_ ?_; rotate_left; (conv => whnf); rotate_right))); all_goals (try ((guard_target = underG _ _ _ _); refine underG_none ?_; (all_goals (try simp only [underG, true_and, and_true, Bool.cond_true_left, Bool.cond_false_left, Bool.cond_true_right, Bool.cond_false_right, Bool.or_eq_true, Bool.and_eq_true, Bool.or_eq_false_iff, Bool.and_eq_false_iff, cond_true, cond_false, Bool.not_eq_eq_eq_not, Bool.not_true, Bool.not_false, decide_eq_true_eq, decide_eq_false_iff_not, Int.toNat_natCast, Nat.zero_add, Decidable.not_not, maxL, inn_iff] at *)); (all_goals (try (simp (disch := omega) only [wrap64]))); all_goals omega)))
  · have hlt : k < n := by rename_i hx; simp only [underG, true_and, and_true, Bool.cond_true_left, Bool.cond_false_left, Bool.cond_true_right, Bool.cond_false_right, Bool.or_eq_true, Bool.and_eq_true, Bool.or_eq_false_iff, Bool.and_eq_false_iff, cond_true, cond_false, Bool.not_eq_eq_eq_not, Bool.not_true, Bool.not_false, decide_eq_true_eq, decide_eq_false_iff_not, Int.toNat_natCast, Nat.zero_add, Decidable.not_not, maxL, inn_iff] at *; omega
    have heq : d[k]! = d[k - 1]! := by rw [hm1] at hb; simpa using hb
    clear hb
    (repeat' first | (refine AWp_reg tok (by rfl) ?_; conv => whnf) | refine AWp_block ?_)
    refine AWp_loop (fun q : (Nat × Nat) × Array Int => mkS [(0, .rs i0 1 0 n), (2, .nsl), (3, iv q.1.2), (4, .rs i0 1 (0 + (k : Int).toNat) (n - k)), (5, iv q.1.1)] [(i0, arow n q.2)])
      (fun q => 1 ≤ q.1.1 ∧ q.1.1 ≤ n - k ∧ q.1.2 = runs d (k + q.1.1) ∧ q.2.size = n ∧ q.1.2 ≤ k + q.1.1 - 1 ∧ ∀ x, k + q.1.1 - 1 ≤ x → q.2[x]! = d[x]!) (fun q => n - k - q.1.1) ((1, k), d)
      ⟨by simp, by simp; omega, by simp only []; rw [runs_succ d hk1, if_pos heq, hr]; rfl, hn, by simp, fun _ _ => rfl⟩ ?_ ?_
    · refine Weak.list [(i0, .old i0, arow n d)] rfl (by rfl) ?_ (.old rfl (BLe.refl _) .nil)
      ((repeat' first | exact TLes.nil | refine TLes.cons (TLe.eq rfl) ?_); skip)
    rintro ⟨⟨j, i⟩, e⟩ ⟨hj1, hj2, hi, he, hij, hx⟩
    simp only at hj1 hj2 hi he hij hx ⊢
    ((repeat' first | refine AWp_seq ?_ | (refine AWp_reg tok (by rfl) ?_; conv => whnf) | (refine AWp_any tok mix (by rfl) ?_; conv => whnf) | refine AWp_block ?_ | (refine AWp_skip ?_; conv => whnf) | (refine AWp_exit ?_; conv => whnf) | (refine AWp_ret ?_; conv => whnf) | refine AWp_cond rfl (fun hb => ?_) (fun hb => ?_) | (refine @And.intro (underG _ _ _ _) _ ?_ ?_; rotate_left; (conv => whnf); rotate_right)); all_goals (try ((guard_target = underG _ _ _ _); refine underG_none ?_; (all_goals (try simp only [underG, true_and, and_true, Bool.cond_true_left, Bool.cond_false_left, Bool.cond_true_right, Bool.cond_false_right, Bool.or_eq_true, Bool.and_eq_true, Bool.or_eq_false_iff, Bool.and_eq_false_iff, cond_true, cond_false, Bool.not_eq_eq_eq_not, Bool.not_true, Bool.not_false, decide_eq_true_eq, decide_eq_false_iff_not, Int.toNat_natCast, Nat.zero_add, Decidable.not_not, maxL, inn_iff] at *)); (all_goals (try (simp (disch := omega) only [wrap64]))); all_goals omega)))
    · have hlt2 : j < n - k := by rename_i h1; simp only [underG, true_and, and_true, Bool.cond_true_left, Bool.cond_false_left, Bool.cond_true_right, Bool.cond_false_right, Bool.or_eq_true, Bool.and_eq_true, Bool.or_eq_false_iff, Bool.and_eq_false_iff, cond_true, cond_false, Bool.not_eq_eq_eq_not, Bool.not_true, Bool.not_false, decide_eq_true_eq, decide_eq_false_iff_not, Int.toNat_natCast, Nat.zero_add, Decidable.not_not, maxL, inn_iff] at *; omega
      have hv1 : e[0 + (k : Int).toNat + (j : Int).toNat]! = d[k + j]! := by rw [bang_at (i := k + j) (by omega)]; exact hx _ (by omega)
      have hv2 : e[0 + (k : Int).toNat + (IntKind.i64.wrap ((j : Int) - 1)).toNat]! = d[k + j - 1]! := by rw [wrap64 (by omega) (by omega), bang_at (i := k + j - 1) (by omega)]; exact hx _ (by omega)
      have hne : ¬ d[k + j]! = d[k + j - 1]! := by rw [hv1, hv2] at hb; simpa using hb
      refine ⟨((j + 1, i + 1), e.setIfInBounds i d[k + j]!), ⟨by simp, by simp; omega, ?_, by simp [he], by simp; omega, fun x h2 => ?_⟩, by simp; omega, ?_⟩
      · simp only []
        rw [show k + (j + 1) = k + j + 1 by omega, runs_succ d (by omega), if_neg hne, hi]
      · simp only [] at h2 ⊢
        rw [bang_set _ _ _ _ (by omega), if_neg (by omega)]
        exact hx x (by omega)
      refine Weak.list [(i0, .old i0, arow n (e.setIfInBounds i d[k + j]!))] rfl (by rfl) ?_ (.old rfl (BLe.row rfl (fun x h2 => ?_)) .nil)
      · ((repeat' first | exact TLes.nil | refine TLes.cons (TLe.eq rfl) ?_ | refine TLes.cons (TLe.int ?_) ?_); (all_goals first | ((try (simp only [underG, true_and, and_true, Bool.cond_true_left, Bool.cond_false_left, Bool.cond_true_right, Bool.cond_false_right, Bool.or_eq_true, Bool.and_eq_true, Bool.or_eq_false_iff, Bool.and_eq_false_iff, cond_true, cond_false, Bool.not_eq_eq_eq_not, Bool.not_true, Bool.not_false, decide_eq_true_eq, decide_eq_false_iff_not, Int.toNat_natCast, Nat.zero_add, Decidable.not_not, maxL, inn_iff] at *)); exact wrap64 (by omega) (by omega)) | skip))
      · exact set_row (d := e) (i := i) (by omega) (by omega) hv1 x
    · have hlt2 : j < n - k := by rename_i h1; simp only [underG, true_and, and_true, Bool.cond_true_left, Bool.cond_false_left, Bool.cond_true_right, Bool.cond_false_right, Bool.or_eq_true, Bool.and_eq_true, Bool.or_eq_false_iff, Bool.and_eq_false_iff, cond_true, cond_false, Bool.not_eq_eq_eq_not, Bool.not_true, Bool.not_false, decide_eq_true_eq, decide_eq_false_iff_not, Int.toNat_natCast, Nat.zero_add, Decidable.not_not, maxL, inn_iff] at *; omega
      have hv1 : e[0 + (k : Int).toNat + (j : Int).toNat]! = d[k + j]! := by rw [bang_at (i := k + j) (by omega)]; exact hx _ (by omega)
      have hv2 : e[0 + (k : Int).toNat + (IntKind.i64.wrap ((j : Int) - 1)).toNat]! = d[k + j - 1]! := by rw [wrap64 (by omega) (by omega), bang_at (i := k + j - 1) (by omega)]; exact hx _ (by omega)
      have hne : d[k + j]! = d[k + j - 1]! := by rw [hv1, hv2] at hb; simpa using hb
      refine ⟨((j + 1, i), e), ⟨by simp, by simp; omega, ?_, he, by simp; omega, fun x h2 => hx x (by simp at h2; omega)⟩, by simp; omega, ?_⟩
      · simp only []
        rw [show k + (j + 1) = k + j + 1 by omega, runs_succ d (by omega), if_pos hne, hi]; rfl
      refine Weak.list [(i0, .old i0, arow n e)] rfl (by rfl) ?_ (.old rfl (BLe.refl _) .nil)
      ((repeat' first | exact TLes.nil | refine TLes.cons (TLe.eq rfl) ?_ | refine TLes.cons (TLe.int ?_) ?_); (all_goals first | ((try (simp only [underG, true_and, and_true, Bool.cond_true_left, Bool.cond_false_left, Bool.cond_true_right, Bool.cond_false_right, Bool.or_eq_true, Bool.and_eq_true, Bool.or_eq_false_iff, Bool.and_eq_false_iff, cond_true, cond_false, Bool.not_eq_eq_eq_not, Bool.not_true, Bool.not_false, decide_eq_true_eq, decide_eq_false_iff_not, Int.toNat_natCast, Nat.zero_add, Decidable.not_not, maxL, inn_iff] at *)); exact wrap64 (by omega) (by omega)) | skip))
    · have hj : j = n - k := by simp only [underG, true_and, and_true, Bool.cond_true_left, Bool.cond_false_left, Bool.cond_true_right, Bool.cond_false_right, Bool.or_eq_true, Bool.and_eq_true, Bool.or_eq_false_iff, Bool.and_eq_false_iff, cond_true, cond_false, Bool.not_eq_eq_eq_not, Bool.not_true, Bool.not_false, decide_eq_true_eq, decide_eq_false_iff_not, Int.toNat_natCast, Nat.zero_add, Decidable.not_not, maxL, inn_iff] at *; omega
      have hin : i = runs d n := by rw [hi, hj]; congr 1; omega
      refine ⟨_, [(i0, .old i0, xrow n)], rfl, rfl, rfl, rfl, .old rfl (any_row (Nat.le_refl _) (fun x h2 => ?_)) .nil, TLe.rsL rfl (by rw [← hin]; simp)⟩
      show ∃ v, (bif inRow (0 + (i : Int).toNat) ((n : Int).toNat - (i : Int).toNat) x then [AV.int .u16 0] else [AV.int .u16 e[x]!]) = [v]
      cases inRow (0 + (i : Int).toNat) ((n : Int).toNat - (i : Int).toNat) x <;> exact ⟨_, rfl⟩
  · have hlt : k < n := by rename_i hx; simp only [underG, true_and, and_true, Bool.cond_true_left, Bool.cond_false_left, Bool.cond_true_right, Bool.cond_false_right, Bool.or_eq_true, Bool.and_eq_true, Bool.or_eq_false_iff, Bool.and_eq_false_iff, cond_true, cond_false, Bool.not_eq_eq_eq_not, Bool.not_true, Bool.not_false, decide_eq_true_eq, decide_eq_false_iff_not, Int.toNat_natCast, Nat.zero_add, Decidable.not_not, maxL, inn_iff] at *; omega
    have heq : ¬ d[k]! = d[k - 1]! := by rw [hm1] at hb; simpa using hb
    refine ⟨k + 1, ⟨by omega, by omega, by rw [runs_succ d hk1, if_neg heq, hr]⟩, by omega, ?_⟩
    refine Weak.list [(i0, .old i0, arow n d)] rfl (by rfl) ?_ (.old rfl (BLe.refl _) .nil)
    ((repeat' first | exact TLes.nil | refine TLes.cons (TLe.eq rfl) ?_ | refine TLes.cons (TLe.int ?_) ?_); (all_goals first | ((try (simp only [underG, true_and, and_true, Bool.cond_true_left, Bool.cond_false_left, Bool.cond_true_right, Bool.cond_false_right, Bool.or_eq_true, Bool.and_eq_true, Bool.or_eq_false_iff, Bool.and_eq_false_iff, cond_true, cond_false, Bool.not_eq_eq_eq_not, Bool.not_true, Bool.not_false, decide_eq_true_eq, decide_eq_false_iff_not, Int.toNat_natCast, Nat.zero_add, Decidable.not_not, maxL, inn_iff] at *)); exact wrap64 (by omega) (by omega)) | skip))
  · have hkn : k = n := by simp only [underG, true_and, and_true, Bool.cond_true_left, Bool.cond_false_left, Bool.cond_true_right, Bool.cond_false_right, Bool.or_eq_true, Bool.and_eq_true, Bool.or_eq_false_iff, Bool.and_eq_false_iff, cond_true, cond_false, Bool.not_eq_eq_eq_not, Bool.not_true, Bool.not_false, decide_eq_true_eq, decide_eq_false_iff_not, Int.toNat_natCast, Nat.zero_add, Decidable.not_not, maxL, inn_iff] at *; omega
    rw [← hkn, hr, hkn]
    exact ⟨_, [(i0, .old i0, xrow n)], rfl, rfl, rfl, rfl, .old rfl (any_row (Nat.le_refl _) (fun i _ => ⟨_, rfl⟩)) .nil, .eq rfl⟩
/-- A list that ascends has as many runs as elements just if none stands twice in it. -/
theorem runs_all {l : List Int} (hs : ∀ i j, i < j → j < l.length → l.getD i 0 ≤ l.getD j 0) : ∀ j, j ≤ l.length → (runs l.toArray j = j ↔ ∀ x, x < j → ∀ y, y < x → l.getD y 0 ≠ l.getD x 0)
  | 0, _ => ⟨fun _ x h => by omega, fun _ => rfl⟩
  | 1, _ => ⟨fun _ x h y h2 => by omega, fun _ => rfl⟩
  | j + 2, hj => by
      have ih := runs_all hs (j + 1) (by omega)
      have hle := runs_le l.toArray (j + 1)
      simp only [runs, bang_list]
      constructor
      · intro h
        split at h
        · omega
        · rename_i hne
          have hall := ih.1 (by omega)
          intro x hx y hy
          by_cases e : x = j + 1
          · subst e
            by_cases e2 : y = j
            · subst e2; exact fun h3 => hne h3.symm
            · have h1 := hs y j (by omega) (by omega)
              have h2 := hs j (j + 1) (by omega) (by omega)
              omega
          · exact hall x (by omega) y hy
      · intro h
        rw [if_neg (fun h3 => h (j + 1) (by omega) j (by omega) h3.symm)]
        have := ih.2 (fun x hx y hy => h x (by omega) y hy)
        omega
end Go.Proofs.Ytmanpbgaihdalaa
namespace Go.Proofs.Ytmanpbgaihdalaa
open Go Dv
set_option maxRecDepth 10000
set_option linter.unusedSimpArgs false
/-- A looker: a module and a function of it. -/
def encL (m : Module) (f : Func) : List AV := encMod m ++ encFunc f
theorem c_IdxInt {g : FuncId} {cap : List AV} {p : Int → Bool} (hi : immDs cap = true) (hg : ∀ k, FC Try.prog g (iv k :: cap) (.bool (p k))) (l : List Int) : FC Try.prog 163 [ints l, .fn g cap] (iv (idxG p l)) := by
  refine FC_intro tok Try.func163 rfl (by decide +kernel) (Nat.le_of_ble_eq_true rfl) ?_
  refine AWp_facts 0 (fun hl => ?_)
  have hl0 : l.length ≤ maxL := hl.1
  (repeat' first | refine AWp_seq ?_ | (refine AWp_reg tok (by rfl) ?_; conv => whnf) | refine AWp_block ?_)
  refine AWp_loop (fun i : Nat => mkS [(0, ints l), (1, .fn g cap), (7, iv l.length), (8, iv i)] [])
    (fun i => i ≤ l.length ∧ ∀ j, j < i → p (l.getD j 0) = false) (fun i => l.length - i) 0 ⟨Nat.zero_le _, by simp⟩ ?_ ?_
  · refine Weak.list [] rfl (by rfl) ?_ .nil
    ((repeat' first | exact TLes.nil | refine TLes.cons (TLe.eq rfl) ?_ | refine TLes.cons (TLe.fn (by assumption)) ?_); skip)
  rintro i ⟨hi2, hc⟩
  ((repeat' first | refine AWp_seq ?_ | (refine AWp_reg tok (by rfl) ?_; conv => whnf) | refine AWp_block ?_ | (refine AWp_skip ?_; conv => whnf) | (refine AWp_exit ?_; conv => whnf) | (refine AWp_ret ?_; conv => whnf) | (refine (forceL_eq _ _).mpr ?_; conv => whnf) | refine AWp_cond rfl (fun hb => ?_) (fun hb => ?_) | (refine @And.intro (underG _ _ _ _) _ ?_ ?_; rotate_left; (conv => whnf); rotate_right)); all_goals (try ((guard_target = underG _ _ _ _); refine underG_none ?_; (all_goals (try simp only [underG, true_and, and_true, Bool.cond_true_left, Bool.cond_false_left, Bool.cond_true_right, Bool.cond_false_right, Bool.or_eq_true, Bool.and_eq_true, Bool.or_eq_false_iff, Bool.and_eq_false_iff, cond_true, cond_false, Bool.not_eq_eq_eq_not, Bool.not_true, Bool.not_false, decide_eq_true_eq, decide_eq_false_iff_not, Int.toNat_natCast, Nat.zero_add, Decidable.not_not, maxL, inn_iff] at *)); all_goals omega)))
  · have hlt : i < l.length := by simp only [underG, true_and, and_true, Bool.cond_true_left, Bool.cond_false_left, Bool.cond_true_right, Bool.cond_false_right, Bool.or_eq_true, Bool.and_eq_true, Bool.or_eq_false_iff, Bool.and_eq_false_iff, cond_true, cond_false, Bool.not_eq_eq_eq_not, Bool.not_true, Bool.not_false, decide_eq_true_eq, decide_eq_false_iff_not, Int.toNat_natCast, Nat.zero_add, Decidable.not_not, maxL, inn_iff] at *; omega
    refine .inl ⟨_, _, _, uG (QC.fc (hg _) (immDs_app (xs := [_]) rfl hi)), ?_⟩
    conv => whnf
    (repeat' first | refine AWp_seq ?_ | (refine AWp_reg tok (by rfl) ?_; conv => whnf) | (refine AWp_skip ?_; conv => whnf) | (refine AWp_ret ?_; conv => whnf) | refine AWp_cond rfl (fun hb => ?_) (fun hb => ?_))
    · refine ⟨_, rfl, Rel.int ?_⟩
      exact (idxG_at 0 hlt hc (by simpa using hb)).symm
    · refine ⟨i + 1, ⟨hlt, fun j hj => ?_⟩, by omega, ?_⟩
      · by_cases e : j = i
        · subst e; simpa using hb
        · exact hc j (by omega)
      refine Weak.list [] rfl (by rfl) ?_ .nil
      ((repeat' first | exact TLes.nil | refine TLes.cons (TLe.eq rfl) ?_ | refine TLes.cons (TLe.int ?_) ?_ | refine TLes.cons (TLe.fn (by assumption)) ?_); (all_goals first | ((try (simp only [underG, true_and, and_true, Bool.cond_true_left, Bool.cond_false_left, Bool.cond_true_right, Bool.cond_false_right, Bool.or_eq_true, Bool.and_eq_true, Bool.or_eq_false_iff, Bool.and_eq_false_iff, cond_true, cond_false, Bool.not_eq_eq_eq_not, Bool.not_true, Bool.not_false, decide_eq_true_eq, decide_eq_false_iff_not, Int.toNat_natCast, Nat.zero_add, Decidable.not_not, maxL, inn_iff] at *)); exact wrap64 (by omega) (by omega)) | skip))
  · refine ⟨_, rfl, Rel.int ?_⟩
    exact (idxG_none 0 (fun j hj => hc j (by simp only [underG, true_and, and_true, Bool.cond_true_left, Bool.cond_false_left, Bool.cond_true_right, Bool.cond_false_right, Bool.or_eq_true, Bool.and_eq_true, Bool.or_eq_false_iff, Bool.and_eq_false_iff, cond_true, cond_false, Bool.not_eq_eq_eq_not, Bool.not_true, Bool.not_false, decide_eq_true_eq, decide_eq_false_iff_not, Int.toNat_natCast, Nat.zero_add, Decidable.not_not, maxL, inn_iff] at *; omega))).symm
theorem c_HasInt {g : FuncId} {cap : List AV} {p : Int → Bool} (hi : immDs cap = true) (hg : ∀ k, FC Try.prog g (iv k :: cap) (.bool (p k))) (l : List Int) : FC Try.prog 178 [ints l, .fn g cap] (.bool (l.any p)) := by
  refine FC_intro tok Try.func178 rfl (by decide +kernel) (Nat.le_of_ble_eq_true rfl) ?_
  (repeat' first | refine AWp_seq ?_ | (refine AWp_reg tok (by rfl) ?_; conv => whnf) | (refine (forceL_eq _ _).mpr ?_; conv => whnf))
  refine .inl ⟨_, _, _, uG (QC.fc (c_IdxInt hi hg l) (show immDs [ints l, AV.fn g cap] = true from by simp [immDs, immD, ints, hi])), ?_⟩
  conv => whnf
  (repeat' (refine AWp_ret ?_; conv => whnf))
  refine ⟨_, rfl, Rel.bool ?_⟩
  rw [← idxG_any]
theorem c_place (m : Module) (f : Func) (n : Int) : FC Try.prog 167 [.agg (encL m f), iv n] (.bool (inn n f.regs)) := by
  refine FC_intro tok Try.func167 rfl (by decide +kernel) (Nat.le_of_ble_eq_true rfl) ?_
  (repeat' first | refine AWp_seq ?_ | (refine AWp_reg tok (by rfl) ?_; conv => whnf) | (refine AWp_ret ?_; conv => whnf))
  exact ⟨_, rfl, Rel.imm rfl⟩
theorem c_lgoal (m : Module) (f : Func) (n : Int) : FC Try.prog 169 [.agg (encL m f), iv n] (.bool (goalB f n)) := by
  refine FC_intro tok Try.func169 rfl (by decide +kernel) (Nat.le_of_ble_eq_true rfl) ?_
  ((repeat' first | refine AWp_seq ?_ | (refine AWp_reg tok (by rfl) ?_; conv => whnf) | (refine AWp_ret ?_; conv => whnf) | (refine @And.intro (underG _ _ _ _) _ ?_ ?_; rotate_left; (conv => whnf); rotate_right)); all_goals (try ((guard_target = underG _ _ _ _); ((refine underG_some ?_; intro hgd; (conv at hgd => whnf))); (all_goals (try simp only [underG, true_and, and_true, Bool.cond_true_left, Bool.cond_false_left, Bool.cond_true_right, Bool.cond_false_right, Bool.or_eq_true, Bool.and_eq_true, Bool.or_eq_false_iff, Bool.and_eq_false_iff, cond_true, cond_false, Bool.not_eq_eq_eq_not, Bool.not_true, Bool.not_false, decide_eq_true_eq, decide_eq_false_iff_not, Int.toNat_natCast, Nat.zero_add, Decidable.not_not, maxL, inn_iff] at *)); all_goals omega)))
  exact ⟨_, rfl, Rel.imm rfl⟩
def landB (f : Func) (n : Int) : Bool := bif inn n f.blocks.length then (f.blocks.getD n.toNat default).landing else false
theorem c_landing (m : Module) (f : Func) (n : Int) : FC Try.prog 171 [.agg (encL m f), iv n] (.bool (landB f n)) := by
  refine FC_intro tok Try.func171 rfl (by decide +kernel) (Nat.le_of_ble_eq_true rfl) ?_
  ((repeat' first | refine AWp_seq ?_ | (refine AWp_reg tok (by rfl) ?_; conv => whnf) | (refine AWp_ret ?_; conv => whnf) | (refine @And.intro (underG _ _ _ _) _ ?_ ?_; rotate_left; (conv => whnf); rotate_right)); all_goals (try ((guard_target = underG _ _ _ _); ((refine underG_some ?_; intro hgd; (conv at hgd => whnf))); (all_goals (try simp only [underG, true_and, and_true, Bool.cond_true_left, Bool.cond_false_left, Bool.cond_true_right, Bool.cond_false_right, Bool.or_eq_true, Bool.and_eq_true, Bool.or_eq_false_iff, Bool.and_eq_false_iff, cond_true, cond_false, Bool.not_eq_eq_eq_not, Bool.not_true, Bool.not_false, decide_eq_true_eq, decide_eq_false_iff_not, Int.toNat_natCast, Nat.zero_add, Decidable.not_not, maxL, inn_iff] at *)); all_goals omega)))
  exact ⟨_, rfl, Rel.imm rfl⟩
theorem c_call1 (m : Module) (f : Func) (k : Int) : FC Try.prog 179 [iv k, .ip (encL m f)] (.bool (!inn k f.regs)) := by
  refine FC_intro tok Try.func179 rfl (by decide +kernel) (Nat.le_of_ble_eq_true rfl) ?_
  (repeat' first | refine AWp_seq ?_ | (refine AWp_reg tok (by rfl) ?_; conv => whnf))
  refine .inl ⟨_, _, _, uG (QC.fc (c_place m f k) rfl), ?_⟩
  conv => whnf
  (repeat' (refine AWp_ret ?_; conv => whnf))
  exact ⟨_, rfl, Rel.imm rfl⟩
theorem c_lcall (m : Module) (f : Func) (n : Int) (l : List Int) : FC Try.prog 170 [.agg (encL m f), iv n, ints l] (.bool (argsB m f n l)) := by
  refine FC_intro tok Try.func170 rfl (by decide +kernel) (Nat.le_of_ble_eq_true rfl) ?_
  ((repeat' first | refine AWp_seq ?_ | (refine AWp_reg tok (by rfl) ?_; conv => whnf) | (refine AWp_skip ?_; conv => whnf) | (refine AWp_ret ?_; conv => whnf) | refine AWp_cond rfl (fun hb => ?_) (fun hb => ?_) | (refine @And.intro (underG _ _ _ _) _ ?_ ?_; rotate_left; (conv => whnf); rotate_right)); all_goals (try ((guard_target = underG _ _ _ _); ((refine underG_some ?_; intro hgd; (conv at hgd => whnf))); (all_goals (try simp only [underG, true_and, and_true, Bool.cond_true_left, Bool.cond_false_left, Bool.cond_true_right, Bool.cond_false_right, Bool.or_eq_true, Bool.and_eq_true, Bool.or_eq_false_iff, Bool.and_eq_false_iff, cond_true, cond_false, Bool.not_eq_eq_eq_not, Bool.not_true, Bool.not_false, decide_eq_true_eq, decide_eq_false_iff_not, Int.toNat_natCast, Nat.zero_add, Decidable.not_not, maxL, inn_iff] at *)); all_goals omega)))
  · refine ⟨_, rfl, Rel.bool ?_⟩
    unfold argsB inn
    by_cases h0 : n < 0
    · rw [decide_eq_false (show ¬ 0 ≤ n by omega)]; rfl
    · by_cases h1 : (m.funcs.length : Int) ≤ n
      · rw [decide_eq_false (show ¬ n < (m.funcs.length : Int) by omega)]; cases decide (0 ≤ n) <;> rfl
      · rw [decide_eq_false h0, decide_eq_false h1] at hb
        simp only [cond_false, Bool.not_eq_eq_eq_not, Bool.not_true] at hb
        rw [hb]; cases decide (0 ≤ n) <;> cases decide (n < (m.funcs.length : Int)) <;> rfl
  have hh := c_HasInt (g := 179) (cap := [.ip (encL m f)]) (p := fun k => !inn k f.regs) rfl (fun k => c_call1 m f k) l
  refine .inl ⟨_, _, _, uG (QC.sc (rd := [freshD (some 3)]) hh (.cons (.imm rfl) (.cons (.fn (.cons (.ip rfl (List.mem_singleton.2 rfl) (by decide) (Ress.imms rfl)) .nil)) .nil)) rfl), ?_⟩
  conv => whnf
  (repeat' (refine AWp_ret ?_; conv => whnf))
  refine ⟨_, rfl, Rel.bool ?_⟩
  have h0 : ¬ n < 0 := by intro h0; rw [decide_eq_true h0] at hb; cases hb
  rw [decide_eq_false h0] at hb
  have h1 : ¬ (m.funcs.length : Int) ≤ n := by intro h1; rw [decide_eq_true h1] at hb; cases hb
  rw [decide_eq_false h1] at hb
  simp only [cond_false, Bool.not_eq_eq_eq_not, Bool.not_false] at hb
  unfold argsB
  rw [show inn n m.funcs.length = true from (inn_iff _ _).2 ⟨by omega, by omega⟩, hb]
  simp only [cond_true]
  rw [List.not_any_eq_all_not]
  simp
end Go.Proofs.Ytmanpbgaihdalaa
namespace Go.Proofs.Ytmanpbgaihdalaa
open Go Dv
set_option maxRecDepth 10000
set_option linter.unusedSimpArgs false
theorem c_EqualI (l k : List Int) : FC Try.prog 180 [ints l, ints k] (.bool (decide (l = k))) := by
  refine FC_intro tok Try.func180 rfl (by decide +kernel) (Nat.le_of_ble_eq_true rfl) ?_
  refine AWp_facts 0 (fun hl => ?_)
  have hl0 : l.length ≤ maxL := hl.1
  (repeat' first | refine AWp_seq ?_ | (refine AWp_reg tok (by rfl) ?_; conv => whnf) | refine AWp_block ?_ | (refine AWp_skip ?_; conv => whnf) | (refine AWp_ret ?_; conv => whnf) | refine AWp_cond rfl (fun hb => ?_) (fun hb => ?_))
  · refine ⟨_, rfl, Rel.bool ?_⟩
    simp only [underG, true_and, and_true, Bool.cond_true_left, Bool.cond_false_left, Bool.cond_true_right, Bool.cond_false_right, Bool.or_eq_true, Bool.and_eq_true, Bool.or_eq_false_iff, Bool.and_eq_false_iff, cond_true, cond_false, Bool.not_eq_eq_eq_not, Bool.not_true, Bool.not_false, decide_eq_true_eq, decide_eq_false_iff_not, Int.toNat_natCast, Nat.zero_add, Decidable.not_not, maxL, inn_iff] at *
    symm; rw [decide_eq_false_iff_not]
    intro e; rw [e] at hb; exact hb rfl
  have hlen : l.length = k.length := by simp only [underG, true_and, and_true, Bool.cond_true_left, Bool.cond_false_left, Bool.cond_true_right, Bool.cond_false_right, Bool.or_eq_true, Bool.and_eq_true, Bool.or_eq_false_iff, Bool.and_eq_false_iff, cond_true, cond_false, Bool.not_eq_eq_eq_not, Bool.not_true, Bool.not_false, decide_eq_true_eq, decide_eq_false_iff_not, Int.toNat_natCast, Nat.zero_add, Decidable.not_not, maxL, inn_iff] at *; omega
  refine AWp_loop (fun i : Nat => mkS [(0, ints l), (1, ints k), (4, .bool false), (12, iv l.length), (13, iv i)] []) (fun i => i ≤ l.length ∧ ∀ j, j < i → l.getD j 0 = k.getD j 0) (fun i => l.length - i) 0 ⟨Nat.zero_le _, by simp⟩ ?_ ?_
  · refine Weak.list [] rfl (by rfl) ?_ .nil
    ((repeat' first | exact TLes.nil | refine TLes.cons (TLe.eq rfl) ?_); skip)
  rintro i ⟨hi, hc⟩
  ((repeat' first | refine AWp_seq ?_ | (refine AWp_reg tok (by rfl) ?_; conv => whnf) | (refine AWp_any tok mix (by rfl) ?_; conv => whnf) | refine AWp_block ?_ | (refine AWp_skip ?_; conv => whnf) | (refine AWp_exit ?_; conv => whnf) | (refine AWp_ret ?_; conv => whnf) | refine AWp_cond rfl (fun hb => ?_) (fun hb => ?_) | (refine @And.intro (underG _ _ _ _) _ ?_ ?_; rotate_left; (conv => whnf); rotate_right)); all_goals (try ((guard_target = underG _ _ _ _); refine underG_none ?_; (all_goals (try simp only [underG, true_and, and_true, Bool.cond_true_left, Bool.cond_false_left, Bool.cond_true_right, Bool.cond_false_right, Bool.or_eq_true, Bool.and_eq_true, Bool.or_eq_false_iff, Bool.and_eq_false_iff, cond_true, cond_false, Bool.not_eq_eq_eq_not, Bool.not_true, Bool.not_false, decide_eq_true_eq, decide_eq_false_iff_not, Int.toNat_natCast, Nat.zero_add, Decidable.not_not, maxL, inn_iff] at *)); all_goals omega)))
  all_goals simp only [underG, true_and, and_true, Bool.cond_true_left, Bool.cond_false_left, Bool.cond_true_right, Bool.cond_false_right, Bool.or_eq_true, Bool.and_eq_true, Bool.or_eq_false_iff, Bool.and_eq_false_iff, cond_true, cond_false, Bool.not_eq_eq_eq_not, Bool.not_true, Bool.not_false, decide_eq_true_eq, decide_eq_false_iff_not, Int.toNat_natCast, Nat.zero_add, Decidable.not_not, maxL, inn_iff] at *
  · refine ⟨_, rfl, Rel.bool ?_⟩
    symm; rw [decide_eq_false_iff_not]
    intro e; subst e; exact hb rfl
  · refine ⟨i + 1, ⟨by omega, fun j hj => ?_⟩, by omega, ?_⟩
    · by_cases e : j = i
      · subst e; exact hb
      · exact hc j (by omega)
    refine Weak.list [] rfl (by rfl) ?_ .nil
    ((repeat' first | exact TLes.nil | refine TLes.cons (TLe.eq rfl) ?_ | refine TLes.cons (TLe.int ?_) ?_); (all_goals first | (exact wrap64 (by omega) (by omega)) | skip))
  · refine ⟨_, rfl, Rel.bool ?_⟩
    symm; rw [decide_eq_true_eq]
    exact list_ext_getD 0 hlen (fun j hj => hc j (by omega))
theorem c_EqualU (l k : List Int) : FC Try.prog 174 [u16s l, u16s k] (.bool (decide (l = k))) := by
  refine FC_intro tok Try.func174 rfl (by decide +kernel) (Nat.le_of_ble_eq_true rfl) ?_
  refine AWp_facts 0 (fun hl => ?_)
  have hl0 : l.length ≤ maxL := hl.1
  (repeat' first | refine AWp_seq ?_ | (refine AWp_reg tok (by rfl) ?_; conv => whnf) | refine AWp_block ?_ | (refine AWp_skip ?_; conv => whnf) | (refine AWp_ret ?_; conv => whnf) | refine AWp_cond rfl (fun hb => ?_) (fun hb => ?_))
  · refine ⟨_, rfl, Rel.bool ?_⟩
    simp only [underG, true_and, and_true, Bool.cond_true_left, Bool.cond_false_left, Bool.cond_true_right, Bool.cond_false_right, Bool.or_eq_true, Bool.and_eq_true, Bool.or_eq_false_iff, Bool.and_eq_false_iff, cond_true, cond_false, Bool.not_eq_eq_eq_not, Bool.not_true, Bool.not_false, decide_eq_true_eq, decide_eq_false_iff_not, Int.toNat_natCast, Nat.zero_add, Decidable.not_not, maxL, inn_iff] at *
    symm; rw [decide_eq_false_iff_not]
    intro e; rw [e] at hb; exact hb rfl
  have hlen : l.length = k.length := by simp only [underG, true_and, and_true, Bool.cond_true_left, Bool.cond_false_left, Bool.cond_true_right, Bool.cond_false_right, Bool.or_eq_true, Bool.and_eq_true, Bool.or_eq_false_iff, Bool.and_eq_false_iff, cond_true, cond_false, Bool.not_eq_eq_eq_not, Bool.not_true, Bool.not_false, decide_eq_true_eq, decide_eq_false_iff_not, Int.toNat_natCast, Nat.zero_add, Decidable.not_not, maxL, inn_iff] at *; omega
  refine AWp_loop (fun i : Nat => mkS [(0, u16s l), (1, u16s k), (4, .bool false), (12, iv l.length), (13, iv i)] []) (fun i => i ≤ l.length ∧ ∀ j, j < i → l.getD j 0 = k.getD j 0) (fun i => l.length - i) 0 ⟨Nat.zero_le _, by simp⟩ ?_ ?_
  · refine Weak.list [] rfl (by rfl) ?_ .nil
    ((repeat' first | exact TLes.nil | refine TLes.cons (TLe.eq rfl) ?_); skip)
  rintro i ⟨hi, hc⟩
  ((repeat' first | refine AWp_seq ?_ | (refine AWp_reg tok (by rfl) ?_; conv => whnf) | (refine AWp_any tok mix (by rfl) ?_; conv => whnf) | refine AWp_block ?_ | (refine AWp_skip ?_; conv => whnf) | (refine AWp_exit ?_; conv => whnf) | (refine AWp_ret ?_; conv => whnf) | refine AWp_cond rfl (fun hb => ?_) (fun hb => ?_) | (refine @And.intro (underG _ _ _ _) _ ?_ ?_; rotate_left; (conv => whnf); rotate_right)); all_goals (try ((guard_target = underG _ _ _ _); refine underG_none ?_; (all_goals (try simp only [underG, true_and, and_true, Bool.cond_true_left, Bool.cond_false_left, Bool.cond_true_right, Bool.cond_false_right, Bool.or_eq_true, Bool.and_eq_true, Bool.or_eq_false_iff, Bool.and_eq_false_iff, cond_true, cond_false, Bool.not_eq_eq_eq_not, Bool.not_true, Bool.not_false, decide_eq_true_eq, decide_eq_false_iff_not, Int.toNat_natCast, Nat.zero_add, Decidable.not_not, maxL, inn_iff] at *)); all_goals omega)))
  all_goals simp only [underG, true_and, and_true, Bool.cond_true_left, Bool.cond_false_left, Bool.cond_true_right, Bool.cond_false_right, Bool.or_eq_true, Bool.and_eq_true, Bool.or_eq_false_iff, Bool.and_eq_false_iff, cond_true, cond_false, Bool.not_eq_eq_eq_not, Bool.not_true, Bool.not_false, decide_eq_true_eq, decide_eq_false_iff_not, Int.toNat_natCast, Nat.zero_add, Decidable.not_not, maxL, inn_iff] at *
  · refine ⟨_, rfl, Rel.bool ?_⟩
    symm; rw [decide_eq_false_iff_not]
    intro e; subst e; exact hb rfl
  · refine ⟨i + 1, ⟨by omega, fun j hj => ?_⟩, by omega, ?_⟩
    · by_cases e : j = i
      · subst e; exact hb
      · exact hc j (by omega)
    refine Weak.list [] rfl (by rfl) ?_ .nil
    ((repeat' first | exact TLes.nil | refine TLes.cons (TLe.eq rfl) ?_ | refine TLes.cons (TLe.int ?_) ?_); (all_goals first | (exact wrap64 (by omega) (by omega)) | skip))
  · refine ⟨_, rfl, Rel.bool ?_⟩
    symm; rw [decide_eq_true_eq]
    exact list_ext_getD 0 hlen (fun j hj => hc j (by omega))
theorem c_sameIns (x y : Ins) : FC Try.prog 173 [.agg (encIns x), .agg (encIns y)] (.bool (decide (x = y))) := by
  refine FC_intro tok Try.func173 rfl (by decide +kernel) (Nat.le_of_ble_eq_true rfl) ?_
  (repeat' first | refine AWp_seq ?_ | (refine AWp_reg tok (by rfl) ?_; conv => whnf))
  refine .inl ⟨_, _, _, uG (QC.fc (c_EqualI x.args y.args) rfl), ?_⟩
  conv => whnf
  (repeat' (refine AWp_ret ?_; conv => whnf))
  refine ⟨_, rfl, Rel.bool ?_⟩
  obtain ⟨a1, a2, a3, a4, a5, a6, a7⟩ := x
  obtain ⟨b1, b2, b3, b4, b5, b6, b7⟩ := y
  rw [Bool.eq_iff_iff]
  simp [and_assoc]
theorem c_sameEnd (x y : End) : FC Try.prog 172 [.agg (encEnd x), .agg (encEnd y)] (.bool (decide (x = y))) := by
  refine FC_intro tok Try.func172 rfl (by decide +kernel) (Nat.le_of_ble_eq_true rfl) ?_
  (repeat' first | refine AWp_seq ?_ | (refine AWp_reg tok (by rfl) ?_; conv => whnf))
  refine .inl ⟨_, _, _, uG (QC.fc (c_EqualI x.args y.args) rfl), ?_⟩
  conv => whnf
  (repeat' (refine AWp_ret ?_; conv => whnf))
  refine ⟨_, rfl, Rel.bool ?_⟩
  obtain ⟨a1, a2, a3, a4, a5, a6, a7, a8⟩ := x
  obtain ⟨b1, b2, b3, b4, b5, b6, b7, b8⟩ := y
  rw [Bool.eq_iff_iff]
  simp [and_assoc]
theorem c_samePad (x y : Pad) : FC Try.prog 164 [.agg (encPad x), .agg (encPad y)] (.bool (decide (x = y))) := by
  refine FC_intro tok Try.func164 rfl (by decide +kernel) (Nat.le_of_ble_eq_true rfl) ?_
  (repeat' first | refine AWp_seq ?_ | (refine AWp_reg tok (by rfl) ?_; conv => whnf))
  refine .inl ⟨_, _, _, uG (QC.fc (c_EqualU x.catch_ y.catch_) rfl), ?_⟩
  conv => whnf
  (repeat' (refine AWp_ret ?_; conv => whnf))
  refine ⟨_, rfl, Rel.bool ?_⟩
  obtain ⟨a1, a2, a3, a4⟩ := x
  obtain ⟨b1, b2, b3, b4⟩ := y
  rw [Bool.eq_iff_iff]
  simp [and_assoc]
end Go.Proofs.Ytmanpbgaihdalaa
namespace Go.Proofs.Ytmanpbgaihdalaa
open Go Dv
set_option maxRecDepth 10000
set_option linter.unusedSimpArgs false
theorem ins_eq (u x : Ins) : u = x ↔ x.op = u.op ∧ x.dst = u.dst ∧ x.a = u.a ∧ x.b = u.b ∧ x.k = u.k ∧ x.f = u.f ∧ x.args = u.args := by
  rw [eq_comm (a := u)]; cases u; cases x; simp
set_option maxHeartbeats 4000000 in
theorem c_lins (m : Module) (f : Func) (x : Ins) : FC Try.prog 159 [.agg (encL m f), .agg (encIns x)] (.bool (decide (InsP m f x))) := by
  refine FC_intro tok Try.func159 rfl (by decide +kernel) (Nat.le_of_ble_eq_true rfl) ?_
  (repeat' ((fail_if_success (show AWp _ _ _ (Code.region 3 _ _) _ _)); first | refine AWp_seq ?_ | (refine AWp_reg tok (by rfl) ?_; conv => whnf)))
  refine AWp_reg tok (by rfl) ?_
  conv => whnf
  refine AWp_meet (fun q : Ins × Bool => mkS [(2, .bp (2, 0, 0) 0), (3, .bp (3, 0, 0) 0), (4, .bool false), (5, .bp (5, 0, 0) 0), (6, .bool q.2)] [((2, 0, 0), boxed (encL m f)), ((3, 0, 0), boxed (encIns x)), ((5, 0, 0), .row true 7 1 (fun _ => encIns q.1))]) (fun q => (q.2 && decide (q.1 = x)) = decide (InsP m f x)) ?_ ?_
  · (repeat' first | refine AWp_seq ?_ | (refine AWp_reg tok (by rfl) ?_; conv => whnf) | (refine AWp_any tok mix (by rfl) ?_; conv => whnf) | refine AWp_block ?_ | (refine AWp_skip ?_; conv => whnf) | (refine AWp_ret ?_; conv => whnf) | refine AWp_cond rfl (fun hb => ?_) (fun hb => ?_))
    all_goals (try (exfalso; simp only [decide_eq_true_eq, decide_eq_false_iff_not] at *; omega))
    all_goals (repeat' first | (refine .inl ⟨_, _, _, uG (QC.fc (c_place m f x.dst) rfl), ?_⟩; conv => whnf) | (refine .inl ⟨_, _, _, uG (QC.fc (c_place m f x.a) rfl), ?_⟩; conv => whnf) | (refine .inl ⟨_, _, _, uG (QC.fc (c_place m f x.b) rfl), ?_⟩; conv => whnf) | (refine .inl ⟨_, _, _, uG (QC.fc (c_lcall m f x.f x.args) rfl), ?_⟩; conv => whnf))
    skip
    all_goals (have hop := hb; simp only [decide_eq_true_eq, decide_eq_false_iff_not] at hop)
    all_goals (try (first | (refine ⟨(⟨x.op, x.dst, 0, 0, x.k, 0, []⟩, inn x.dst f.regs), ?hp, Weak.list [((2, 0, 0), .old (2, 0, 0), boxed (encL m f)), ((3, 0, 0), .old (3, 0, 0), boxed (encIns x)), ((5, 0, 0), .old (5, 0, 0), .row true 7 1 (fun _ => encIns ⟨x.op, x.dst, 0, 0, x.k, 0, []⟩))] rfl (by rfl) (.cons (.eq rfl) (.cons (.eq rfl) (.cons (.eq rfl) (.cons (.eq rfl) (.cons (.eq rfl) .nil))))) (.old rfl (BLe.refl _) (.old rfl (BLe.refl _) (.old rfl (BLe.rowW (Nat.le_refl _) (fun z hz => ?row)) .nil)))⟩; (case row => (match z, hz with | 0, _ => (repeat' ((conv => arg 1; whnf); (conv => arg 2; whnf); first | refine Wks.cons .refl ?_ | refine Wks.cons (.nsl rfl) ?_ | exact Wks.nil)))); (case hp => (rw [Bool.eq_iff_iff]; simp [InsP, ins_eq, hop, and_assoc, and_comm, and_left_comm]; done))) | (refine ⟨(⟨x.op, x.dst, x.a, 0, 0, 0, []⟩, bif inn x.dst f.regs then inn x.a f.regs else false), ?hp, Weak.list [((2, 0, 0), .old (2, 0, 0), boxed (encL m f)), ((3, 0, 0), .old (3, 0, 0), boxed (encIns x)), ((5, 0, 0), .old (5, 0, 0), .row true 7 1 (fun _ => encIns ⟨x.op, x.dst, x.a, 0, 0, 0, []⟩))] rfl (by rfl) (.cons (.eq rfl) (.cons (.eq rfl) (.cons (.eq rfl) (.cons (.eq rfl) (.cons (.eq rfl) .nil))))) (.old rfl (BLe.refl _) (.old rfl (BLe.refl _) (.old rfl (BLe.rowW (Nat.le_refl _) (fun z hz => ?row)) .nil)))⟩; (case row => (match z, hz with | 0, _ => (repeat' ((conv => arg 1; whnf); (conv => arg 2; whnf); first | refine Wks.cons .refl ?_ | refine Wks.cons (.nsl rfl) ?_ | exact Wks.nil)))); (case hp => (rw [Bool.eq_iff_iff]; simp [InsP, ins_eq, hop, and_assoc, and_comm, and_left_comm]; done))) | (refine ⟨(⟨x.op, x.dst, x.a, x.b, 0, 0, []⟩, bif bif inn x.dst f.regs then inn x.a f.regs else false then inn x.b f.regs else false), ?hp, Weak.list [((2, 0, 0), .old (2, 0, 0), boxed (encL m f)), ((3, 0, 0), .old (3, 0, 0), boxed (encIns x)), ((5, 0, 0), .old (5, 0, 0), .row true 7 1 (fun _ => encIns ⟨x.op, x.dst, x.a, x.b, 0, 0, []⟩))] rfl (by rfl) (.cons (.eq rfl) (.cons (.eq rfl) (.cons (.eq rfl) (.cons (.eq rfl) (.cons (.eq rfl) .nil))))) (.old rfl (BLe.refl _) (.old rfl (BLe.refl _) (.old rfl (BLe.rowW (Nat.le_refl _) (fun z hz => ?row)) .nil)))⟩; (case row => (match z, hz with | 0, _ => (repeat' ((conv => arg 1; whnf); (conv => arg 2; whnf); first | refine Wks.cons .refl ?_ | refine Wks.cons (.nsl rfl) ?_ | exact Wks.nil)))); (case hp => (rw [Bool.eq_iff_iff]; simp [InsP, ins_eq, hop, and_assoc, and_comm, and_left_comm]; done))) | (refine ⟨(⟨x.op, 0, x.a, x.b, 0, 0, []⟩, bif inn x.a f.regs then inn x.b f.regs else false), ?hp, Weak.list [((2, 0, 0), .old (2, 0, 0), boxed (encL m f)), ((3, 0, 0), .old (3, 0, 0), boxed (encIns x)), ((5, 0, 0), .old (5, 0, 0), .row true 7 1 (fun _ => encIns ⟨x.op, 0, x.a, x.b, 0, 0, []⟩))] rfl (by rfl) (.cons (.eq rfl) (.cons (.eq rfl) (.cons (.eq rfl) (.cons (.eq rfl) (.cons (.eq rfl) .nil))))) (.old rfl (BLe.refl _) (.old rfl (BLe.refl _) (.old rfl (BLe.rowW (Nat.le_refl _) (fun z hz => ?row)) .nil)))⟩; (case row => (match z, hz with | 0, _ => (repeat' ((conv => arg 1; whnf); (conv => arg 2; whnf); first | refine Wks.cons .refl ?_ | refine Wks.cons (.nsl rfl) ?_ | exact Wks.nil)))); (case hp => (rw [Bool.eq_iff_iff]; simp [InsP, ins_eq, hop, and_assoc, and_comm, and_left_comm]; done))) | (refine ⟨(⟨x.op, x.dst, 0, 0, 0, x.f, x.args⟩, bif inn x.dst f.regs then argsB m f x.f x.args else false), ?hp, Weak.list [((2, 0, 0), .old (2, 0, 0), boxed (encL m f)), ((3, 0, 0), .old (3, 0, 0), boxed (encIns x)), ((5, 0, 0), .old (5, 0, 0), .row true 7 1 (fun _ => encIns ⟨x.op, x.dst, 0, 0, 0, x.f, x.args⟩))] rfl (by rfl) (.cons (.eq rfl) (.cons (.eq rfl) (.cons (.eq rfl) (.cons (.eq rfl) (.cons (.eq rfl) .nil))))) (.old rfl (BLe.refl _) (.old rfl (BLe.refl _) (.old rfl (BLe.rowW (Nat.le_refl _) (fun z hz => ?row)) .nil)))⟩; (case row => (match z, hz with | 0, _ => (repeat' ((conv => arg 1; whnf); (conv => arg 2; whnf); first | refine Wks.cons .refl ?_ | exact Wks.nil)))); (case hp => (rw [Bool.eq_iff_iff]; simp [InsP, ins_eq, hop, and_assoc, and_comm, and_left_comm]; done))) | (refine ⟨(⟨x.op, 0, x.a, 0, 0, 0, []⟩, inn x.a f.regs), ?hp, Weak.list [((2, 0, 0), .old (2, 0, 0), boxed (encL m f)), ((3, 0, 0), .old (3, 0, 0), boxed (encIns x)), ((5, 0, 0), .old (5, 0, 0), .row true 7 1 (fun _ => encIns ⟨x.op, 0, x.a, 0, 0, 0, []⟩))] rfl (by rfl) (.cons (.eq rfl) (.cons (.eq rfl) (.cons (.eq rfl) (.cons (.eq rfl) (.cons (.eq rfl) .nil))))) (.old rfl (BLe.refl _) (.old rfl (BLe.refl _) (.old rfl (BLe.rowW (Nat.le_refl _) (fun z hz => ?row)) .nil)))⟩; (case row => (match z, hz with | 0, _ => (repeat' ((conv => arg 1; whnf); (conv => arg 2; whnf); first | refine Wks.cons .refl ?_ | refine Wks.cons (.nsl rfl) ?_ | exact Wks.nil)))); (case hp => (rw [Bool.eq_iff_iff]; simp [InsP, ins_eq, hop, and_assoc, and_comm, and_left_comm]; done))) | (refine ⟨(⟨x.op, x.dst, 0, 0, 0, 0, []⟩, inn x.dst f.regs), ?hp, Weak.list [((2, 0, 0), .old (2, 0, 0), boxed (encL m f)), ((3, 0, 0), .old (3, 0, 0), boxed (encIns x)), ((5, 0, 0), .old (5, 0, 0), .row true 7 1 (fun _ => encIns ⟨x.op, x.dst, 0, 0, 0, 0, []⟩))] rfl (by rfl) (.cons (.eq rfl) (.cons (.eq rfl) (.cons (.eq rfl) (.cons (.eq rfl) (.cons (.eq rfl) .nil))))) (.old rfl (BLe.refl _) (.old rfl (BLe.refl _) (.old rfl (BLe.rowW (Nat.le_refl _) (fun z hz => ?row)) .nil)))⟩; (case row => (match z, hz with | 0, _ => (repeat' ((conv => arg 1; whnf); (conv => arg 2; whnf); first | refine Wks.cons .refl ?_ | refine Wks.cons (.nsl rfl) ?_ | exact Wks.nil)))); (case hp => (rw [Bool.eq_iff_iff]; simp [InsP, ins_eq, hop, and_assoc, and_comm, and_left_comm]; done)))))
    refine ⟨_, rfl, Rel.bool ?_⟩
    simp only [decide_eq_true_eq, decide_eq_false_iff_not] at *
    symm; rw [decide_eq_false_iff_not]
    rintro (h | h | h | h | h | h | h) <;> omega
  rintro q hq τ hτ
  refine AWp_weak hτ ?_
  conv => whnf
  (repeat' first | refine AWp_seq ?_ | (refine AWp_reg tok (by rfl) ?_; conv => whnf))
  refine .inl ⟨_, _, _, uG (QC.fc (c_sameIns q.1 x) rfl), ?_⟩
  conv => whnf
  (repeat' (refine AWp_ret ?_; conv => whnf))
  refine ⟨_, rfl, Rel.bool ?_⟩
  rw [← hq]
  cases q.2 <;> rfl
end Go.Proofs.Ytmanpbgaihdalaa
namespace Go.Proofs.Ytmanpbgaihdalaa
open Go Dv
set_option maxRecDepth 10000
set_option linter.unusedSimpArgs false
theorem end_eq (u x : End) : u = x ↔ x.kind = u.kind ∧ x.a = u.a ∧ x.dst = u.dst ∧ x.f = u.f ∧ x.args = u.args ∧ x.to = u.to ∧ x.els = u.els ∧ x.pad = u.pad := by
  rw [eq_comm (a := u)]; cases u; cases x; simp
set_option maxHeartbeats 4000000 in
theorem c_lend (m : Module) (f : Func) (x : End) : FC Try.prog 157 [.agg (encL m f), .agg (encEnd x)] (.bool (decide (EndP m f x))) := by
  refine FC_intro tok Try.func157 rfl (by decide +kernel) (Nat.le_of_ble_eq_true rfl) ?_
  (repeat' ((fail_if_success (show AWp _ _ _ (Code.region 3 _ _) _ _)); first | refine AWp_seq ?_ | (refine AWp_reg tok (by rfl) ?_; conv => whnf)))
  refine AWp_reg tok (by rfl) ?_
  conv => whnf
  refine AWp_meet (fun q : End × Bool => mkS [(2, .bp (2, 0, 0) 0), (3, .bp (3, 0, 0) 0), (4, .bool false), (5, .bp (5, 0, 0) 0), (6, .bool q.2)] [((2, 0, 0), boxed (encL m f)), ((3, 0, 0), boxed (encEnd x)), ((5, 0, 0), .row true 8 1 (fun _ => encEnd q.1))]) (fun q => (q.2 && decide (q.1 = x)) = decide (EndP m f x)) ?_ ?_
  · (repeat' first | refine AWp_seq ?_ | (refine AWp_reg tok (by rfl) ?_; conv => whnf) | (refine AWp_any tok mix (by rfl) ?_; conv => whnf) | refine AWp_block ?_ | (refine AWp_skip ?_; conv => whnf) | (refine AWp_ret ?_; conv => whnf) | refine AWp_cond rfl (fun hb => ?_) (fun hb => ?_))
    all_goals (try (exfalso; simp only [decide_eq_true_eq, decide_eq_false_iff_not] at *; omega))
    all_goals (repeat' first | (refine .inl ⟨_, _, _, uG (QC.fc (c_place m f x.dst) rfl), ?_⟩; conv => whnf) | (refine .inl ⟨_, _, _, uG (QC.fc (c_place m f x.a) rfl), ?_⟩; conv => whnf) | (refine .inl ⟨_, _, _, uG (QC.fc (c_lgoal m f x.to) rfl), ?_⟩; conv => whnf) | (refine .inl ⟨_, _, _, uG (QC.fc (c_lgoal m f x.els) rfl), ?_⟩; conv => whnf) | (refine .inl ⟨_, _, _, uG (QC.fc (c_landing m f x.pad) rfl), ?_⟩; conv => whnf) | (refine .inl ⟨_, _, _, uG (QC.fc (c_lcall m f x.f x.args) rfl), ?_⟩; conv => whnf))
    skip
    all_goals (have hop := hb; simp only [decide_eq_true_eq, decide_eq_false_iff_not] at hop)
    all_goals (try (first | (refine ⟨(⟨x.kind, x.a, 0, 0, [], 0, 0, 0⟩, inn x.a f.regs), ?hp, Weak.list [((2, 0, 0), .old (2, 0, 0), boxed (encL m f)), ((3, 0, 0), .old (3, 0, 0), boxed (encEnd x)), ((5, 0, 0), .old (5, 0, 0), .row true 8 1 (fun _ => encEnd ⟨x.kind, x.a, 0, 0, [], 0, 0, 0⟩))] rfl (by rfl) (.cons (.eq rfl) (.cons (.eq rfl) (.cons (.eq rfl) (.cons (.eq rfl) (.cons (.eq rfl) .nil))))) (.old rfl (BLe.refl _) (.old rfl (BLe.refl _) (.old rfl (BLe.rowW (Nat.le_refl _) (fun z hz => ?row)) .nil)))⟩; (case row => (match z, hz with | 0, _ => (repeat' ((conv => arg 1; whnf); (conv => arg 2; whnf); first | refine Wks.cons .refl ?_ | refine Wks.cons (.nsl rfl) ?_ | exact Wks.nil)))); (case hp => (rw [Bool.eq_iff_iff]; simp [EndP, end_eq, hop, landB, and_assoc, and_comm, and_left_comm]; done))) | (refine ⟨(⟨x.kind, 0, 0, 0, [], x.to, 0, 0⟩, goalB f x.to), ?hp, Weak.list [((2, 0, 0), .old (2, 0, 0), boxed (encL m f)), ((3, 0, 0), .old (3, 0, 0), boxed (encEnd x)), ((5, 0, 0), .old (5, 0, 0), .row true 8 1 (fun _ => encEnd ⟨x.kind, 0, 0, 0, [], x.to, 0, 0⟩))] rfl (by rfl) (.cons (.eq rfl) (.cons (.eq rfl) (.cons (.eq rfl) (.cons (.eq rfl) (.cons (.eq rfl) .nil))))) (.old rfl (BLe.refl _) (.old rfl (BLe.refl _) (.old rfl (BLe.rowW (Nat.le_refl _) (fun z hz => ?row)) .nil)))⟩; (case row => (match z, hz with | 0, _ => (repeat' ((conv => arg 1; whnf); (conv => arg 2; whnf); first | refine Wks.cons .refl ?_ | refine Wks.cons (.nsl rfl) ?_ | exact Wks.nil)))); (case hp => (rw [Bool.eq_iff_iff]; simp [EndP, end_eq, hop, landB, and_assoc, and_comm, and_left_comm]; done))) | (refine ⟨(⟨x.kind, x.a, 0, 0, [], x.to, x.els, 0⟩, bif bif inn x.a f.regs then goalB f x.to else false then goalB f x.els else false), ?hp, Weak.list [((2, 0, 0), .old (2, 0, 0), boxed (encL m f)), ((3, 0, 0), .old (3, 0, 0), boxed (encEnd x)), ((5, 0, 0), .old (5, 0, 0), .row true 8 1 (fun _ => encEnd ⟨x.kind, x.a, 0, 0, [], x.to, x.els, 0⟩))] rfl (by rfl) (.cons (.eq rfl) (.cons (.eq rfl) (.cons (.eq rfl) (.cons (.eq rfl) (.cons (.eq rfl) .nil))))) (.old rfl (BLe.refl _) (.old rfl (BLe.refl _) (.old rfl (BLe.rowW (Nat.le_refl _) (fun z hz => ?row)) .nil)))⟩; (case row => (match z, hz with | 0, _ => (repeat' ((conv => arg 1; whnf); (conv => arg 2; whnf); first | refine Wks.cons .refl ?_ | refine Wks.cons (.nsl rfl) ?_ | exact Wks.nil)))); (case hp => (rw [Bool.eq_iff_iff]; simp [EndP, end_eq, hop, landB, and_assoc, and_comm, and_left_comm]; done))) | (refine ⟨(⟨x.kind, 0, x.dst, x.f, x.args, x.to, 0, x.pad⟩, bif bif bif inn x.dst f.regs then argsB m f x.f x.args else false then goalB f x.to else false then landB f x.pad else false), ?hp, Weak.list [((2, 0, 0), .old (2, 0, 0), boxed (encL m f)), ((3, 0, 0), .old (3, 0, 0), boxed (encEnd x)), ((5, 0, 0), .old (5, 0, 0), .row true 8 1 (fun _ => encEnd ⟨x.kind, 0, x.dst, x.f, x.args, x.to, 0, x.pad⟩))] rfl (by rfl) (.cons (.eq rfl) (.cons (.eq rfl) (.cons (.eq rfl) (.cons (.eq rfl) (.cons (.eq rfl) .nil))))) (.old rfl (BLe.refl _) (.old rfl (BLe.refl _) (.old rfl (BLe.rowW (Nat.le_refl _) (fun z hz => ?row)) .nil)))⟩; (case row => (match z, hz with | 0, _ => (repeat' ((conv => arg 1; whnf); (conv => arg 2; whnf); first | refine Wks.cons .refl ?_ | exact Wks.nil)))); (case hp => (rw [Bool.eq_iff_iff]; simp [EndP, end_eq, hop, landB, and_assoc, and_comm, and_left_comm]; done))) | (refine ⟨(⟨x.kind, 0, 0, 0, [], 0, 0, 0⟩, true), ?hp, Weak.list [((2, 0, 0), .old (2, 0, 0), boxed (encL m f)), ((3, 0, 0), .old (3, 0, 0), boxed (encEnd x)), ((5, 0, 0), .old (5, 0, 0), .row true 8 1 (fun _ => encEnd ⟨x.kind, 0, 0, 0, [], 0, 0, 0⟩))] rfl (by rfl) (.cons (.eq rfl) (.cons (.eq rfl) (.cons (.eq rfl) (.cons (.eq rfl) (.cons (.eq rfl) .nil))))) (.old rfl (BLe.refl _) (.old rfl (BLe.refl _) (.old rfl (BLe.rowW (Nat.le_refl _) (fun z hz => ?row)) .nil)))⟩; (case row => (match z, hz with | 0, _ => (repeat' ((conv => arg 1; whnf); (conv => arg 2; whnf); first | refine Wks.cons .refl ?_ | refine Wks.cons (.nsl rfl) ?_ | exact Wks.nil)))); (case hp => (rw [Bool.eq_iff_iff]; simp [EndP, end_eq, hop, landB, and_assoc, and_comm, and_left_comm]; done)))))
    refine ⟨_, rfl, Rel.bool ?_⟩
    simp only [decide_eq_true_eq, decide_eq_false_iff_not] at *
    symm; rw [decide_eq_false_iff_not]
    rintro (h | h | h | h | h) <;> omega
  rintro q hq τ hτ
  refine AWp_weak hτ ?_
  conv => whnf
  (repeat' first | refine AWp_seq ?_ | (refine AWp_reg tok (by rfl) ?_; conv => whnf))
  refine .inl ⟨_, _, _, uG (QC.fc (c_sameEnd q.1 x) rfl), ?_⟩
  conv => whnf
  (repeat' (refine AWp_ret ?_; conv => whnf))
  refine ⟨_, rfl, Rel.bool ?_⟩
  rw [← hq]
  cases q.2 <;> rfl
end Go.Proofs.Ytmanpbgaihdalaa
namespace Go.Proofs.Ytmanpbgaihdalaa
open Go Dv
set_option maxRecDepth 10000
set_option linter.unusedSimpArgs false
theorem c_IdxInsM {g : FuncId} {cap : List AV} {p : Ins → Bool} (hi : immDs cap = true) (l : List Ins) (hg : ∀ i, i < l.length → FC Try.prog g (.agg (encIns (l.getD i default)) :: cap) (.bool (p (l.getD i default)))) : FC Try.prog 122 [inss l, .fn g cap] (iv (idxG p l)) := by
  refine FC_intro tok Try.func122 rfl (by decide +kernel) (Nat.le_of_ble_eq_true rfl) ?_
  refine AWp_facts 0 (fun hl => ?_)
  have hl0 : l.length ≤ maxL := hl.1
  (repeat' first | refine AWp_seq ?_ | (refine AWp_reg tok (by rfl) ?_; conv => whnf) | refine AWp_block ?_)
  refine AWp_loop (fun i : Nat => mkS [(0, inss l), (1, .fn g cap), (7, iv l.length), (8, iv i)] [])
    (fun i => i ≤ l.length ∧ ∀ j, j < i → p (l.getD j default) = false) (fun i => l.length - i) 0 ⟨Nat.zero_le _, by simp⟩ ?_ ?_
  · refine Weak.list [] rfl (by rfl) ?_ .nil
    ((repeat' first | exact TLes.nil | refine TLes.cons (TLe.eq rfl) ?_ | refine TLes.cons (TLe.fn (by assumption)) ?_); skip)
  rintro i ⟨hi2, hc⟩
  ((repeat' first | refine AWp_seq ?_ | (refine AWp_reg tok (by rfl) ?_; conv => whnf) | refine AWp_block ?_ | (refine AWp_skip ?_; conv => whnf) | (refine AWp_exit ?_; conv => whnf) | (refine AWp_ret ?_; conv => whnf) | (refine (forceL_eq _ _).mpr ?_; conv => whnf) | refine AWp_cond rfl (fun hb => ?_) (fun hb => ?_) | (refine @And.intro (underG _ _ _ _) _ ?_ ?_; rotate_left; (conv => whnf); rotate_right)); all_goals (try ((guard_target = underG _ _ _ _); refine underG_none ?_; (all_goals (try simp only [underG, true_and, and_true, Bool.cond_true_left, Bool.cond_false_left, Bool.cond_true_right, Bool.cond_false_right, Bool.or_eq_true, Bool.and_eq_true, Bool.or_eq_false_iff, Bool.and_eq_false_iff, cond_true, cond_false, Bool.not_eq_eq_eq_not, Bool.not_true, Bool.not_false, decide_eq_true_eq, decide_eq_false_iff_not, Int.toNat_natCast, Nat.zero_add, Decidable.not_not, maxL, inn_iff] at *)); all_goals omega)))
  · have hlt : i < l.length := by simp only [underG, true_and, and_true, Bool.cond_true_left, Bool.cond_false_left, Bool.cond_true_right, Bool.cond_false_right, Bool.or_eq_true, Bool.and_eq_true, Bool.or_eq_false_iff, Bool.and_eq_false_iff, cond_true, cond_false, Bool.not_eq_eq_eq_not, Bool.not_true, Bool.not_false, decide_eq_true_eq, decide_eq_false_iff_not, Int.toNat_natCast, Nat.zero_add, Decidable.not_not, maxL, inn_iff] at *; omega
    refine .inl ⟨_, _, _, uG (QC.fc (hg (i : Int).toNat hlt) (immDs_app (xs := [.agg (encIns (l.getD (i : Int).toNat default))]) rfl hi)), ?_⟩
    conv => whnf
    (repeat' first | refine AWp_seq ?_ | (refine AWp_reg tok (by rfl) ?_; conv => whnf) | (refine AWp_skip ?_; conv => whnf) | (refine AWp_ret ?_; conv => whnf) | refine AWp_cond rfl (fun hb => ?_) (fun hb => ?_))
    · refine ⟨_, rfl, Rel.int ?_⟩
      exact (idxG_at default hlt hc (by simpa using hb)).symm
    · refine ⟨i + 1, ⟨hlt, fun j hj => ?_⟩, by omega, ?_⟩
      · by_cases e : j = i
        · subst e; simpa using hb
        · exact hc j (by omega)
      refine Weak.list [] rfl (by rfl) ?_ .nil
      ((repeat' first | exact TLes.nil | refine TLes.cons (TLe.eq rfl) ?_ | refine TLes.cons (TLe.int ?_) ?_ | refine TLes.cons (TLe.fn (by assumption)) ?_); (all_goals first | ((try (simp only [underG, true_and, and_true, Bool.cond_true_left, Bool.cond_false_left, Bool.cond_true_right, Bool.cond_false_right, Bool.or_eq_true, Bool.and_eq_true, Bool.or_eq_false_iff, Bool.and_eq_false_iff, cond_true, cond_false, Bool.not_eq_eq_eq_not, Bool.not_true, Bool.not_false, decide_eq_true_eq, decide_eq_false_iff_not, Int.toNat_natCast, Nat.zero_add, Decidable.not_not, maxL, inn_iff] at *)); exact wrap64 (by omega) (by omega)) | skip))
  · refine ⟨_, rfl, Rel.int ?_⟩
    exact (idxG_none default (fun j hj => hc j (by simp only [underG, true_and, and_true, Bool.cond_true_left, Bool.cond_false_left, Bool.cond_true_right, Bool.cond_false_right, Bool.or_eq_true, Bool.and_eq_true, Bool.or_eq_false_iff, Bool.and_eq_false_iff, cond_true, cond_false, Bool.not_eq_eq_eq_not, Bool.not_true, Bool.not_false, decide_eq_true_eq, decide_eq_false_iff_not, Int.toNat_natCast, Nat.zero_add, Decidable.not_not, maxL, inn_iff] at *; omega))).symm
theorem c_HasInsM {g : FuncId} {cap : List AV} {p : Ins → Bool} (hi : immDs cap = true) (l : List Ins) (hg : ∀ i, i < l.length → FC Try.prog g (.agg (encIns (l.getD i default)) :: cap) (.bool (p (l.getD i default)))) : FC Try.prog 85 [inss l, .fn g cap] (.bool (l.any p)) := by
  refine FC_intro tok Try.func85 rfl (by decide +kernel) (Nat.le_of_ble_eq_true rfl) ?_
  (repeat' first | refine AWp_seq ?_ | (refine AWp_reg tok (by rfl) ?_; conv => whnf) | (refine (forceL_eq _ _).mpr ?_; conv => whnf))
  refine .inl ⟨_, _, _, uG (QC.fc (c_IdxInsM hi l hg) (show immDs [inss l, AV.fn g cap] = true from by simp [immDs, immD, inss, hi])), ?_⟩
  conv => whnf
  (repeat' (refine AWp_ret ?_; conv => whnf))
  refine ⟨_, rfl, Rel.bool ?_⟩
  rw [← idxG_any]
theorem c_IdxBlockM {g : FuncId} {cap : List AV} {p : Block → Bool} (hi : immDs cap = true) (l : List Block) (hg : ∀ i, i < l.length → FC Try.prog g (.agg (encBlock (l.getD i default)) :: cap) (.bool (p (l.getD i default)))) : FC Try.prog 137 [blockss l, .fn g cap] (iv (idxG p l)) := by
  refine FC_intro tok Try.func137 rfl (by decide +kernel) (Nat.le_of_ble_eq_true rfl) ?_
  refine AWp_facts 0 (fun hl => ?_)
  have hl0 : l.length ≤ maxL := hl.1
  (repeat' first | refine AWp_seq ?_ | (refine AWp_reg tok (by rfl) ?_; conv => whnf) | refine AWp_block ?_)
  refine AWp_loop (fun i : Nat => mkS [(0, blockss l), (1, .fn g cap), (7, iv l.length), (8, iv i)] [])
    (fun i => i ≤ l.length ∧ ∀ j, j < i → p (l.getD j default) = false) (fun i => l.length - i) 0 ⟨Nat.zero_le _, by simp⟩ ?_ ?_
  · refine Weak.list [] rfl (by rfl) ?_ .nil
    ((repeat' first | exact TLes.nil | refine TLes.cons (TLe.eq rfl) ?_ | refine TLes.cons (TLe.fn (by assumption)) ?_); skip)
  rintro i ⟨hi2, hc⟩
  ((repeat' first | refine AWp_seq ?_ | (refine AWp_reg tok (by rfl) ?_; conv => whnf) | refine AWp_block ?_ | (refine AWp_skip ?_; conv => whnf) | (refine AWp_exit ?_; conv => whnf) | (refine AWp_ret ?_; conv => whnf) | (refine (forceL_eq _ _).mpr ?_; conv => whnf) | refine AWp_cond rfl (fun hb => ?_) (fun hb => ?_) | (refine @And.intro (underG _ _ _ _) _ ?_ ?_; rotate_left; (conv => whnf); rotate_right)); all_goals (try ((guard_target = underG _ _ _ _); refine underG_none ?_; (all_goals (try simp only [underG, true_and, and_true, Bool.cond_true_left, Bool.cond_false_left, Bool.cond_true_right, Bool.cond_false_right, Bool.or_eq_true, Bool.and_eq_true, Bool.or_eq_false_iff, Bool.and_eq_false_iff, cond_true, cond_false, Bool.not_eq_eq_eq_not, Bool.not_true, Bool.not_false, decide_eq_true_eq, decide_eq_false_iff_not, Int.toNat_natCast, Nat.zero_add, Decidable.not_not, maxL, inn_iff] at *)); all_goals omega)))
  · have hlt : i < l.length := by simp only [underG, true_and, and_true, Bool.cond_true_left, Bool.cond_false_left, Bool.cond_true_right, Bool.cond_false_right, Bool.or_eq_true, Bool.and_eq_true, Bool.or_eq_false_iff, Bool.and_eq_false_iff, cond_true, cond_false, Bool.not_eq_eq_eq_not, Bool.not_true, Bool.not_false, decide_eq_true_eq, decide_eq_false_iff_not, Int.toNat_natCast, Nat.zero_add, Decidable.not_not, maxL, inn_iff] at *; omega
    refine .inl ⟨_, _, _, uG (QC.fc (hg (i : Int).toNat hlt) (immDs_app (xs := [.agg (encBlock (l.getD (i : Int).toNat default))]) rfl hi)), ?_⟩
    conv => whnf
    (repeat' first | refine AWp_seq ?_ | (refine AWp_reg tok (by rfl) ?_; conv => whnf) | (refine AWp_skip ?_; conv => whnf) | (refine AWp_ret ?_; conv => whnf) | refine AWp_cond rfl (fun hb => ?_) (fun hb => ?_))
    · refine ⟨_, rfl, Rel.int ?_⟩
      exact (idxG_at default hlt hc (by simpa using hb)).symm
    · refine ⟨i + 1, ⟨hlt, fun j hj => ?_⟩, by omega, ?_⟩
      · by_cases e : j = i
        · subst e; simpa using hb
        · exact hc j (by omega)
      refine Weak.list [] rfl (by rfl) ?_ .nil
      ((repeat' first | exact TLes.nil | refine TLes.cons (TLe.eq rfl) ?_ | refine TLes.cons (TLe.int ?_) ?_ | refine TLes.cons (TLe.fn (by assumption)) ?_); (all_goals first | ((try (simp only [underG, true_and, and_true, Bool.cond_true_left, Bool.cond_false_left, Bool.cond_true_right, Bool.cond_false_right, Bool.or_eq_true, Bool.and_eq_true, Bool.or_eq_false_iff, Bool.and_eq_false_iff, cond_true, cond_false, Bool.not_eq_eq_eq_not, Bool.not_true, Bool.not_false, decide_eq_true_eq, decide_eq_false_iff_not, Int.toNat_natCast, Nat.zero_add, Decidable.not_not, maxL, inn_iff] at *)); exact wrap64 (by omega) (by omega)) | skip))
  · refine ⟨_, rfl, Rel.int ?_⟩
    exact (idxG_none default (fun j hj => hc j (by simp only [underG, true_and, and_true, Bool.cond_true_left, Bool.cond_false_left, Bool.cond_true_right, Bool.cond_false_right, Bool.or_eq_true, Bool.and_eq_true, Bool.or_eq_false_iff, Bool.and_eq_false_iff, cond_true, cond_false, Bool.not_eq_eq_eq_not, Bool.not_true, Bool.not_false, decide_eq_true_eq, decide_eq_false_iff_not, Int.toNat_natCast, Nat.zero_add, Decidable.not_not, maxL, inn_iff] at *; omega))).symm
theorem c_HasBlockM {g : FuncId} {cap : List AV} {p : Block → Bool} (hi : immDs cap = true) (l : List Block) (hg : ∀ i, i < l.length → FC Try.prog g (.agg (encBlock (l.getD i default)) :: cap) (.bool (p (l.getD i default)))) : FC Try.prog 108 [blockss l, .fn g cap] (.bool (l.any p)) := by
  refine FC_intro tok Try.func108 rfl (by decide +kernel) (Nat.le_of_ble_eq_true rfl) ?_
  (repeat' first | refine AWp_seq ?_ | (refine AWp_reg tok (by rfl) ?_; conv => whnf) | (refine (forceL_eq _ _).mpr ?_; conv => whnf))
  refine .inl ⟨_, _, _, uG (QC.fc (c_IdxBlockM hi l hg) (show immDs [blockss l, AV.fn g cap] = true from by simp [immDs, immD, blockss, hi])), ?_⟩
  conv => whnf
  (repeat' (refine AWp_ret ?_; conv => whnf))
  refine ⟨_, rfl, Rel.bool ?_⟩
  rw [← idxG_any]
theorem c_IdxFuncM {g : FuncId} {cap : List AV} {p : Func → Bool} (hi : immDs cap = true) (l : List Func) (hg : ∀ i, i < l.length → FC Try.prog g (.agg (encFunc (l.getD i default)) :: cap) (.bool (p (l.getD i default)))) : FC Try.prog 128 [funcss l, .fn g cap] (iv (idxG p l)) := by
  refine FC_intro tok Try.func128 rfl (by decide +kernel) (Nat.le_of_ble_eq_true rfl) ?_
  refine AWp_facts 0 (fun hl => ?_)
  have hl0 : l.length ≤ maxL := hl.1
  (repeat' first | refine AWp_seq ?_ | (refine AWp_reg tok (by rfl) ?_; conv => whnf) | refine AWp_block ?_)
  refine AWp_loop (fun i : Nat => mkS [(0, funcss l), (1, .fn g cap), (7, iv l.length), (8, iv i)] [])
    (fun i => i ≤ l.length ∧ ∀ j, j < i → p (l.getD j default) = false) (fun i => l.length - i) 0 ⟨Nat.zero_le _, by simp⟩ ?_ ?_
  · refine Weak.list [] rfl (by rfl) ?_ .nil
    ((repeat' first | exact TLes.nil | refine TLes.cons (TLe.eq rfl) ?_ | refine TLes.cons (TLe.fn (by assumption)) ?_); skip)
  rintro i ⟨hi2, hc⟩
  ((repeat' first | refine AWp_seq ?_ | (refine AWp_reg tok (by rfl) ?_; conv => whnf) | refine AWp_block ?_ | (refine AWp_skip ?_; conv => whnf) | (refine AWp_exit ?_; conv => whnf) | (refine AWp_ret ?_; conv => whnf) | (refine (forceL_eq _ _).mpr ?_; conv => whnf) | refine AWp_cond rfl (fun hb => ?_) (fun hb => ?_) | (refine @And.intro (underG _ _ _ _) _ ?_ ?_; rotate_left; (conv => whnf); rotate_right)); all_goals (try ((guard_target = underG _ _ _ _); refine underG_none ?_; (all_goals (try simp only [underG, true_and, and_true, Bool.cond_true_left, Bool.cond_false_left, Bool.cond_true_right, Bool.cond_false_right, Bool.or_eq_true, Bool.and_eq_true, Bool.or_eq_false_iff, Bool.and_eq_false_iff, cond_true, cond_false, Bool.not_eq_eq_eq_not, Bool.not_true, Bool.not_false, decide_eq_true_eq, decide_eq_false_iff_not, Int.toNat_natCast, Nat.zero_add, Decidable.not_not, maxL, inn_iff] at *)); all_goals omega)))
  · have hlt : i < l.length := by simp only [underG, true_and, and_true, Bool.cond_true_left, Bool.cond_false_left, Bool.cond_true_right, Bool.cond_false_right, Bool.or_eq_true, Bool.and_eq_true, Bool.or_eq_false_iff, Bool.and_eq_false_iff, cond_true, cond_false, Bool.not_eq_eq_eq_not, Bool.not_true, Bool.not_false, decide_eq_true_eq, decide_eq_false_iff_not, Int.toNat_natCast, Nat.zero_add, Decidable.not_not, maxL, inn_iff] at *; omega
    refine .inl ⟨_, _, _, uG (QC.fc (hg (i : Int).toNat hlt) (immDs_app (xs := [.agg (encFunc (l.getD (i : Int).toNat default))]) rfl hi)), ?_⟩
    conv => whnf
    (repeat' first | refine AWp_seq ?_ | (refine AWp_reg tok (by rfl) ?_; conv => whnf) | (refine AWp_skip ?_; conv => whnf) | (refine AWp_ret ?_; conv => whnf) | refine AWp_cond rfl (fun hb => ?_) (fun hb => ?_))
    · refine ⟨_, rfl, Rel.int ?_⟩
      exact (idxG_at default hlt hc (by simpa using hb)).symm
    · refine ⟨i + 1, ⟨hlt, fun j hj => ?_⟩, by omega, ?_⟩
      · by_cases e : j = i
        · subst e; simpa using hb
        · exact hc j (by omega)
      refine Weak.list [] rfl (by rfl) ?_ .nil
      ((repeat' first | exact TLes.nil | refine TLes.cons (TLe.eq rfl) ?_ | refine TLes.cons (TLe.int ?_) ?_ | refine TLes.cons (TLe.fn (by assumption)) ?_); (all_goals first | ((try (simp only [underG, true_and, and_true, Bool.cond_true_left, Bool.cond_false_left, Bool.cond_true_right, Bool.cond_false_right, Bool.or_eq_true, Bool.and_eq_true, Bool.or_eq_false_iff, Bool.and_eq_false_iff, cond_true, cond_false, Bool.not_eq_eq_eq_not, Bool.not_true, Bool.not_false, decide_eq_true_eq, decide_eq_false_iff_not, Int.toNat_natCast, Nat.zero_add, Decidable.not_not, maxL, inn_iff] at *)); exact wrap64 (by omega) (by omega)) | skip))
  · refine ⟨_, rfl, Rel.int ?_⟩
    exact (idxG_none default (fun j hj => hc j (by simp only [underG, true_and, and_true, Bool.cond_true_left, Bool.cond_false_left, Bool.cond_true_right, Bool.cond_false_right, Bool.or_eq_true, Bool.and_eq_true, Bool.or_eq_false_iff, Bool.and_eq_false_iff, cond_true, cond_false, Bool.not_eq_eq_eq_not, Bool.not_true, Bool.not_false, decide_eq_true_eq, decide_eq_false_iff_not, Int.toNat_natCast, Nat.zero_add, Decidable.not_not, maxL, inn_iff] at *; omega))).symm
theorem c_HasFuncM {g : FuncId} {cap : List AV} {p : Func → Bool} (hi : immDs cap = true) (l : List Func) (hg : ∀ i, i < l.length → FC Try.prog g (.agg (encFunc (l.getD i default)) :: cap) (.bool (p (l.getD i default)))) : FC Try.prog 103 [funcss l, .fn g cap] (.bool (l.any p)) := by
  refine FC_intro tok Try.func103 rfl (by decide +kernel) (Nat.le_of_ble_eq_true rfl) ?_
  (repeat' first | refine AWp_seq ?_ | (refine AWp_reg tok (by rfl) ?_; conv => whnf) | (refine (forceL_eq _ _).mpr ?_; conv => whnf))
  refine .inl ⟨_, _, _, uG (QC.fc (c_IdxFuncM hi l hg) (show immDs [funcss l, AV.fn g cap] = true from by simp [immDs, immD, funcss, hi])), ?_⟩
  conv => whnf
  (repeat' (refine AWp_ret ?_; conv => whnf))
  refine ⟨_, rfl, Rel.bool ?_⟩
  rw [← idxG_any]
theorem c_HasIns {g : FuncId} {cap : List AV} {p : Ins → Bool} (hi : immDs cap = true) (hg : ∀ x, FC Try.prog g (.agg (encIns x) :: cap) (.bool (p x))) (l : List Ins) : FC Try.prog 85 [inss l, .fn g cap] (.bool (l.any p)) := c_HasInsM hi l (fun i _ => hg _)
theorem c_HasBlock {g : FuncId} {cap : List AV} {p : Block → Bool} (hi : immDs cap = true) (hg : ∀ x, FC Try.prog g (.agg (encBlock x) :: cap) (.bool (p x))) (l : List Block) : FC Try.prog 108 [blockss l, .fn g cap] (.bool (l.any p)) := c_HasBlockM hi l (fun i _ => hg _)
theorem c_HasFunc {g : FuncId} {cap : List AV} {p : Func → Bool} (hi : immDs cap = true) (hg : ∀ x, FC Try.prog g (.agg (encFunc x) :: cap) (.bool (p x))) (l : List Func) : FC Try.prog 103 [funcss l, .fn g cap] (.bool (l.any p)) := c_HasFuncM hi l (fun i _ => hg _)
end Go.Proofs.Ytmanpbgaihdalaa
namespace Go.Proofs.Ytmanpbgaihdalaa
open Go Dv
set_option maxRecDepth 10000
set_option linter.unusedSimpArgs false
theorem c_lblk1 (m : Module) (f : Func) (x : Ins) : FC Try.prog 158 [.agg (encIns x), .ip (encL m f)] (.bool (!decide (InsP m f x))) := by
  refine FC_intro tok Try.func158 rfl (by decide +kernel) (Nat.le_of_ble_eq_true rfl) ?_
  (repeat' first | refine AWp_seq ?_ | (refine AWp_reg tok (by rfl) ?_; conv => whnf))
  refine .inl ⟨_, _, _, uG (QC.fc (c_lins m f x) rfl), ?_⟩
  conv => whnf
  (repeat' (refine AWp_ret ?_; conv => whnf))
  exact ⟨_, rfl, Rel.imm rfl⟩
/-- What is owed of looker.pad: it needs slices.Sorted (range over a function). -/
def LPad : Prop := ∀ (m : Module) (f : Func) (b : Block), FC Try.prog 156 [.agg (encL m f), .agg (encBlock b)] (.bool (decide (PadP f b)))
theorem c_lblock (hpad : LPad) (m : Module) (f : Func) (n : Nat) (hn : n < f.blocks.length) : FC Try.prog 134 [.agg (encL m f), iv n] (.bool (blkB m f (f.blocks.getD n default))) := by
  refine FC_intro tok Try.func134 rfl (by decide +kernel) (Nat.le_of_ble_eq_true rfl) ?_
  ((repeat' ((fail_if_success (show AWp _ _ _ (Code.region 2 _ _) _ _)); first | refine AWp_seq ?_ | (refine AWp_reg tok (by rfl) ?_; conv => whnf) | (refine @And.intro (underG _ _ _ _) _ ?_ ?_; rotate_left; (conv => whnf); rotate_right))); all_goals (try ((guard_target = underG _ _ _ _); refine underG_none ?_; all_goals omega)))
  have hget : f.blocks.getD (n : Int).toNat default = f.blocks.getD n default := by simp
  generalize f.blocks.getD n default = b at hget ⊢
  refine AWp_weak (Weak.list (tl := [(2, .bp (2, 0, 0) 0), (4, .bool false), (5, .bp (5, 0, 0) 0)]) [((2, 0, 0), .old (2, 0, 0), boxed (encL m f)), ((5, 0, 0), .old (5, 0, 0), .row true 14 1 (fun _ => encBlock b))] rfl (by rfl) ?_ (.old rfl (BLe.refl _) (.old rfl (BLe.rowW (Nat.le_refl _) (fun z hz => ?_)) .nil))) ?_
  · ((repeat' first | exact TLes.nil | refine TLes.cons (TLe.eq rfl) ?_); skip)
  · match z, hz with
    | 0, _ => rw [← hget]; exact Wks.of rfl
  (repeat' (refine AWp_reg tok (by rfl) ?_; conv => whnf))
  refine .inl ⟨_, _, _, uG (QC.fc (hpad m f b) rfl), ?_⟩
  conv => whnf
  skip
  refine .inl ⟨_, _, _, uG (QC.fc (c_lend m f b.fin) rfl), ?_⟩
  conv => whnf
  skip
  have hh := c_HasIns (g := 158) (cap := [.ip (encL m f)]) (p := fun x => !decide (InsP m f x)) rfl (fun x => c_lblk1 m f x) b.ins
  refine .inl ⟨_, _, _, uG (QC.sc (rd := [(2, 0, 0)]) hh (.cons (.imm rfl) (.cons (.fn (.cons (.ip rfl (List.mem_singleton.2 rfl) (by decide) (Ress.imms rfl)) .nil)) .nil)) rfl), ?_⟩
  conv => whnf
  (repeat' (refine AWp_ret ?_; conv => whnf))
  refine ⟨_, rfl, Rel.bool ?_⟩
  unfold blkB
  rw [List.not_any_eq_all_not, Bool.eq_iff_iff]
  have hc : decide ((b.ins.length : Int) ≤ 64) = decide (b.ins.length ≤ 64) := by rw [decide_eq_decide]; omega
  rw [hc]
  simp [and_assoc]
end Go.Proofs.Ytmanpbgaihdalaa
namespace Go.Proofs.Ytmanpbgaihdalaa
open Go Dv
set_option maxRecDepth 10000
set_option linter.unusedSimpArgs false
theorem c_lFunc (hpad : LPad) (m : Module) (f : Func) : FC Try.prog 105 [.agg (encMod m), .agg (encFunc f)] (.bool (funcB m f)) := by
  refine FC_intro tok Try.func105 rfl (by decide +kernel) (Nat.le_of_ble_eq_true rfl) ?_
  refine AWp_facts 1 (fun hl => ?_)
  have hl0 : f.blocks.length ≤ maxL := hl.2.2.1.1
  ((repeat' first | refine AWp_seq ?_ | (refine AWp_reg tok (by rfl) ?_; conv => whnf) | refine AWp_block ?_ | (refine AWp_skip ?_; conv => whnf) | (refine AWp_ret ?_; conv => whnf) | refine AWp_cond rfl (fun hb => ?_) (fun hb => ?_) | (refine @And.intro (underG _ _ _ _) _ ?_ ?_; rotate_left; (conv => whnf); rotate_right)); all_goals (try ((guard_target = underG _ _ _ _); ((refine underG_some ?_; intro hgd; (conv at hgd => whnf))); (all_goals (try simp only [underG, true_and, and_true, Bool.cond_true_left, Bool.cond_false_left, Bool.cond_true_right, Bool.cond_false_right, Bool.or_eq_true, Bool.and_eq_true, Bool.or_eq_false_iff, Bool.and_eq_false_iff, cond_true, cond_false, Bool.not_eq_eq_eq_not, Bool.not_true, Bool.not_false, decide_eq_true_eq, decide_eq_false_iff_not, Int.toNat_natCast, Nat.zero_add, Decidable.not_not, maxL, inn_iff] at *)); all_goals omega)))
  · refine ⟨_, rfl, Rel.bool ?_⟩
    rw [show Int.toNat 0 = 0 from rfl] at hb
    unfold funcB
    have hF : decide (FunP f) = false := by
      rw [decide_eq_false_iff_not]; intro h; unfold FunP at h
      rw [h.2.2.2.2.2.2] at hb; simp [-List.length_eq_zero_iff] at hb; omega
    rw [hF]; rfl
  have hF : FunP f := by
    rw [show Int.toNat 0 = 0 from rfl] at hb
    unfold FunP
    cases hland : (f.blocks.getD 0 default).landing with
    | true => rw [hland] at hb; simp at hb
    | false => rw [hland] at hb; simp [-List.length_eq_zero_iff] at hb; refine ⟨?_, ?_, ?_, ?_, ?_, ?_, rfl⟩ <;> omega
  clear hb
  refine AWp_loop (fun i : Nat => mkS [(4, .bool false), (5, .bp (5, 0, 0) 0), (51, iv f.blocks.length), (52, iv i)] [((5, 0, 0), .row true 4 1 (fun _ => encL m f))])
    (fun i => i ≤ f.blocks.length ∧ ∀ j, j < i → blkB m f (f.blocks.getD j default) = true) (fun i => f.blocks.length - i) 0 ⟨Nat.zero_le _, by simp⟩ ?_ ?_
  · refine Weak.list [((5, 0, 0), .old (5, 0, 0), .row true 4 1 (fun _ => encL m f))] rfl (by rfl) ?_ (.old rfl (BLe.rowW (Nat.le_refl _) (fun z hz => ?_)) .nil)
    · ((repeat' first | exact TLes.nil | refine TLes.cons (TLe.eq rfl) ?_); skip)
    · match z, hz with
      | 0, _ => exact Wks.of rfl
  rintro i ⟨hi, hc⟩
  (repeat' first | refine AWp_seq ?_ | (refine AWp_reg tok (by rfl) ?_; conv => whnf) | refine AWp_block ?_ | (refine AWp_skip ?_; conv => whnf) | (refine AWp_exit ?_; conv => whnf) | (refine AWp_ret ?_; conv => whnf) | refine AWp_cond rfl (fun hb => ?_) (fun hb => ?_))
  · have hlt : i < f.blocks.length := by simp only [underG, true_and, and_true, Bool.cond_true_left, Bool.cond_false_left, Bool.cond_true_right, Bool.cond_false_right, Bool.or_eq_true, Bool.and_eq_true, Bool.or_eq_false_iff, Bool.and_eq_false_iff, cond_true, cond_false, Bool.not_eq_eq_eq_not, Bool.not_true, Bool.not_false, decide_eq_true_eq, decide_eq_false_iff_not, Int.toNat_natCast, Nat.zero_add, Decidable.not_not, maxL, inn_iff] at *; omega
    refine .inl ⟨_, _, _, uG (QC.fc (c_lblock hpad m f i hlt) rfl), ?_⟩
    conv => whnf
    (repeat' first | refine AWp_seq ?_ | (refine AWp_reg tok (by rfl) ?_; conv => whnf) | (refine AWp_skip ?_; conv => whnf) | (refine AWp_ret ?_; conv => whnf) | refine AWp_cond rfl (fun hb => ?_) (fun hb => ?_))
    · refine ⟨_, rfl, Rel.bool ?_⟩
      unfold funcB
      rw [all_no default hlt (p := blkB m f) (by simpa using hb)]
      simp
    · refine ⟨i + 1, ⟨hlt, fun j hj => ?_⟩, by omega, ?_⟩
      · by_cases e : j = i
        · subst e; simpa using hb
        · exact hc j (by omega)
      refine Weak.list [((5, 0, 0), .old (5, 0, 0), .row true 4 1 (fun _ => encL m f))] rfl (by rfl) ?_ (.old rfl (BLe.refl _) .nil)
      ((repeat' first | exact TLes.nil | refine TLes.cons (TLe.eq rfl) ?_ | refine TLes.cons (TLe.int ?_) ?_); (all_goals first | ((try (simp only [underG, true_and, and_true, Bool.cond_true_left, Bool.cond_false_left, Bool.cond_true_right, Bool.cond_false_right, Bool.or_eq_true, Bool.and_eq_true, Bool.or_eq_false_iff, Bool.and_eq_false_iff, cond_true, cond_false, Bool.not_eq_eq_eq_not, Bool.not_true, Bool.not_false, decide_eq_true_eq, decide_eq_false_iff_not, Int.toNat_natCast, Nat.zero_add, Decidable.not_not, maxL, inn_iff] at *)); exact wrap64 (by omega) (by omega)) | skip))
  · refine ⟨_, rfl, Rel.bool ?_⟩
    unfold funcB
    rw [decide_eq_true hF, all_yes default (fun j hj => hc j (by simp only [underG, true_and, and_true, Bool.cond_true_left, Bool.cond_false_left, Bool.cond_true_right, Bool.cond_false_right, Bool.or_eq_true, Bool.and_eq_true, Bool.or_eq_false_iff, Bool.and_eq_false_iff, cond_true, cond_false, Bool.not_eq_eq_eq_not, Bool.not_true, Bool.not_false, decide_eq_true_eq, decide_eq_false_iff_not, Int.toNat_natCast, Nat.zero_add, Decidable.not_not, maxL, inn_iff] at *; omega))]; rfl
theorem c_lRight1 (hpad : LPad) (m : Module) (f : Func) : FC Try.prog 104 [.agg (encFunc f), .ip (encMod m)] (.bool (!funcB m f)) := by
  refine FC_intro tok Try.func104 rfl (by decide +kernel) (Nat.le_of_ble_eq_true rfl) ?_
  (repeat' first | refine AWp_seq ?_ | (refine AWp_reg tok (by rfl) ?_; conv => whnf))
  refine .inl ⟨_, _, _, uG (QC.fc (c_lFunc hpad m f) rfl), ?_⟩
  conv => whnf
  (repeat' (refine AWp_ret ?_; conv => whnf))
  exact ⟨_, rfl, Rel.imm rfl⟩
theorem c_lRight (hpad : LPad) (m : Module) : FC Try.prog 62 [.agg (encMod m)] (.bool (rightB m)) := by
  refine FC_intro tok Try.func62 rfl (by decide +kernel) (Nat.le_of_ble_eq_true rfl) ?_
  refine AWp_facts 0 (fun hl => ?_)
  have hl0 : m.funcs.length ≤ maxL := hl.1.1
  ((repeat' first | refine AWp_seq ?_ | (refine AWp_reg tok (by rfl) ?_; conv => whnf) | (refine AWp_skip ?_; conv => whnf) | (refine AWp_ret ?_; conv => whnf) | refine AWp_cond rfl (fun hb => ?_) (fun hb => ?_) | (refine @And.intro (underG _ _ _ _) _ ?_ ?_; rotate_left; (conv => whnf); rotate_right)); all_goals (try ((guard_target = underG _ _ _ _); ((refine underG_some ?_; intro hgd; (conv at hgd => whnf))); (all_goals (try simp only [underG, true_and, and_true, Bool.cond_true_left, Bool.cond_false_left, Bool.cond_true_right, Bool.cond_false_right, Bool.or_eq_true, Bool.and_eq_true, Bool.or_eq_false_iff, Bool.and_eq_false_iff, cond_true, cond_false, Bool.not_eq_eq_eq_not, Bool.not_true, Bool.not_false, decide_eq_true_eq, decide_eq_false_iff_not, Int.toNat_natCast, Nat.zero_add, Decidable.not_not, maxL, inn_iff] at *)); all_goals omega)))
  · refine ⟨_, rfl, Rel.bool ?_⟩
    rw [show Int.toNat 0 = 0 from rfl] at hb
    unfold rightB
    rw [decide_eq_false]
    · rfl
    · rintro ⟨h1, h2, h3⟩
      rw [h3] at hb; simp [-List.length_eq_zero_iff] at hb; omega
  have hF : 1 ≤ m.funcs.length ∧ m.funcs.length ≤ 16 ∧ (m.funcs.getD 0 default).params = 0 := by
    rw [show Int.toNat 0 = 0 from rfl] at hb
    simp only [Bool.cond_true_left, Bool.or_eq_false_iff] at hb
    refine ⟨?_, ?_, by simpa using hb.2⟩ <;> simp only [underG, true_and, and_true, Bool.cond_true_left, Bool.cond_false_left, Bool.cond_true_right, Bool.cond_false_right, Bool.or_eq_true, Bool.and_eq_true, Bool.or_eq_false_iff, Bool.and_eq_false_iff, cond_true, cond_false, Bool.not_eq_eq_eq_not, Bool.not_true, Bool.not_false, decide_eq_true_eq, decide_eq_false_iff_not, Int.toNat_natCast, Nat.zero_add, Decidable.not_not, maxL, inn_iff] at * <;> omega
  clear hb
  refine .inl ⟨_, _, _, uG (QC.sc (rd := [(1, 0, 0)]) (c_HasFunc (g := 104) (cap := [.ip (encMod m)]) (p := fun f => !funcB m f) rfl (fun f => c_lRight1 hpad m f) m.funcs) (.cons (.imm rfl) (.cons (.fn (.cons (.ip rfl (List.mem_singleton.2 rfl) (by decide) (Ress.imms rfl)) .nil)) .nil)) rfl), ?_⟩
  conv => whnf
  (repeat' (refine AWp_ret ?_; conv => whnf))
  refine ⟨_, rfl, Rel.bool ?_⟩
  unfold rightB
  rw [List.not_any_eq_all_not, decide_eq_true hF]
  simp
end Go.Proofs.Ytmanpbgaihdalaa
namespace Go.Proofs.Ytmanpbgaihdalaa
open Go Dv Go.RowKit Go.Maps Go.Sort Go.Shelf
set_option linter.unusedSimpArgs false
@[go_sem, reducible] def encU (k : Int) : Value := .int .u16 k
def SeqU (F : Fence) (n : Nat) (g : Nat) (lb : Array Value) (S : List Int → Prop) (N : Nat) (w : World) : Prop :=
  ∀ (l : Nat) (J : List Int → World → Prop) (W : World), RowKit.Below w.heap.size w W → (∀ pre W', J pre W' → RowKit.Below w.heap.size w W') →
    (∀ pre x W', J pre W' → pre.length < N → YieldAt F (n - 1) Try.prog l #[encU x] W' fun e W2 => e = .returned (.bool true) ∧ J (pre ++ [x]) W2 ∧ KeepsWalks W' W2) → J [] W →
    CallsIn F n Try.prog g (#[.func (.yield l) #[] #[]] ++ lb) W fun e W' => (∃ v, e = .returned v) ∧ ∃ ss, S ss ∧ J ss W'

def Sq.apAssign : Code := (Code.region 2 #[{ dst := some 5, op := Op.assign (Operand.tmp 7), type := 55, pos := "iter.go:51", after := #[], guard := none }] false)
def Sq.apBody : Code := (Code.block 1 (Code.region 3 #[{ dst := some 8, op := Op.load 37 (Operand.tmp 2), type := 37, pos := "iter.go:52", after := #[], guard := none }, { dst := some 9, op := Op.move (Operand.tmp 5), type := 55, pos := "iter.go:52", after := #[], guard := none }, { dst := some 10, op := Op.buildSlice 37 1 #[(0, Operand.tmp 9)], type := 37, pos := "iter.go:52", after := #[{ on := 1, ground := Ground.data }], guard := none }, { dst := some 11, op := Op.call { callee := Callee.builtin Builtin.append, args := #[Operand.tmp 8, Operand.tmp 10], argTypes := #[37, 37] }, type := 37, pos := "iter.go:52", after := #[{ on := 0, ground := Ground.data }, { on := 2, ground := Ground.data }], guard := none }, { dst := none, op := Op.store 37 (Operand.tmp 2) (Operand.tmp 11), type := 0, pos := "iter.go:52", after := #[{ on := 3, ground := Ground.data }, { on := 3, ground := Ground.chain }, { on := 0, ground := Ground.phase }, { on := 1, ground := Ground.phase }, { on := 2, ground := Ground.phase }, { on := 3, ground := Ground.phase }], guard := none }] false))
def Sq.apRec (fn : FuncId) (sv : Value) (Bs D : Nat) (st : LoopState) (pend : Option Code) : Loop :=
  { state := st, pending := pend, fn, tmps := #[.slice none 0 0, sv, .pointer (some ⟨Bs, 0, none⟩), undef, .slice none 0 0, undef, sv, undef, undef, undef, undef, undef, undef], params := #[7], assign := Sq.apAssign, body := Sq.apBody, defers := D }

structure Sq.ApAt (w0 : World) (fn : FuncId) (sv : Value) (Bs l D : Nat) (ss : List Int) (W : World) : Prop where
  box : ∃ v, W.heap[Bs]? = some (.cells #[v] 37 (0, 0)) ∧ W.ownsRow w0.heap.size 55 1 v ss.length (ss.map encU) ∧ (v = .slice none 0 0 ↔ ss = [])
  L : W.heap[l]? = some (.loop (Sq.apRec fn sv Bs D .ready none))
  K : W.heap[D]? = some (.deferred (some []))
  below : Below w0.heap.size w0 W

theorem ownsRow_abides {W W' : World} {row : Option Nat} {base : Nat} {e : TypeId} {size : Nat} {v : Value} {k : Nat} {xs : List Value} (h : W.ownsRow base e size v k xs) (hg : W.grownBy W' row)
    (hrow : ∀ r, row = some r → ∃ o : Obj, W.heap[r]? = some o ∧ o.isWalk = true) : W'.ownsRow base e size v k xs := by
  refine h.kept hg ?_
  rcases h.2 with ⟨rfl, _⟩ | ⟨g, cap, cur, rfl, _, hgb, _⟩
  · exact .inl rfl
  · refine .inr fun e' => ?_
    obtain ⟨o, ho, hw⟩ := hrow g (by simpa [Value.ownBlock] using e'.symm)
    rw [hgb] at ho; cases ho; cases hw

theorem Sq.ap_abides (w0 : World) (fn : FuncId) (sv : Value) (Bs l D B : Nat) (hB : w0.heap.size ≤ B) : AbidesFrom B (Sq.ApAt w0 fn sv Bs l D) := fun s W W' row h hg hrow => by
  have hrow' : ∀ r, row = some r → ∃ o : Obj, W.heap[r]? = some o ∧ o.isWalk = true := fun r e => (hrow r e).2
  obtain ⟨v, hv, hr, hn⟩ := h.box
  exact ⟨⟨v, (grownBy_keeps hg hrow' hv rfl).trans hv, ownsRow_abides hr hg hrow', hn⟩, (grownBy_keeps hg hrow' h.L rfl).trans h.L, (grownBy_keeps hg hrow' h.K rfl).trans h.K,
    h.below.grown hg h.below.size (fun k e => Nat.le_trans hB (hrow k e).1)⟩

theorem grownBy_putObj (W : World) (l : Nat) (o : Obj) : W.grownBy (W.putObj l o) (some l) :=
  ⟨rfl, rfl, rfl, by simp, fun k _ hk => World.putObj_heap_other (fun e => hk (by rw [e]))⟩
theorem grownBy_setCell0 (W : World) (b : Nat) (v : Value) : W.grownBy (W.setCell ⟨b, 0, none⟩ v) (some b) :=
  ⟨rfl, rfl, rfl, (KeepsWalks.setCell W _ v).size, fun k _ hk => Below.heap_setCell _ _ _ k (fun e => hk (by rw [e]))⟩
theorem ownsRow_ne {W : World} {base : Nat} {e : TypeId} {size : Nat} {v : Value} {k : Nat} {xs : List Value} (h : W.ownsRow base e size v k xs) {j : Nat} {o : Obj} (hj : W.heap[j]? = some o) (hno : ∀ cur, o ≠ .cells cur e (0, 0)) :
    v.ownBlock = none ∨ v.ownBlock ≠ some j := by
  rcases h.2 with ⟨rfl, _⟩ | ⟨g, cap, cur, rfl, _, hgb, _⟩
  · exact .inl rfl
  · refine .inr fun e' => ?_
    have : g = j := by simpa [Value.ownBlock] using e'
    subst this; rw [hgb] at hj; cases hj; exact hno cur rfl
theorem cell_of_box {W : World} {B : Nat} {v : Value} {t : TypeId} (h : W.heap[B]? = some (.cells #[v] t (0, 0))) : W.cell? ⟨B, 0, none⟩ = some v ∧ W.frozen? ⟨B, 0, none⟩ = false := by
  constructor <;> simp [World.cell?, World.frozen?, h]

theorem heap_setCell_box {W : World} {B : Nat} {v : Value} {t : TypeId} (v' : Value) (h : W.heap[B]? = some (.cells #[v] t (0, 0))) : (W.setCell ⟨B, 0, none⟩ v').heap[B]? = some (.cells #[v'] t (0, 0)) := by
  obtain ⟨hlt, hk⟩ := Array.getElem?_eq_some_iff.1 h
  show (W.heap.modify B _)[B]? = _
  rw [Array.getElem?_eq_getElem (by rw [Array.size_modify]; exact hlt), Array.getElem_modify_self, hk]
  rfl
theorem ownsRow_not_walk {W : World} {base : Nat} {e : TypeId} {size : Nat} {v : Value} {k : Nat} {xs : List Value} (h : W.ownsRow base e size v k xs) : ∀ (j : Nat) (o : Obj), v.ownBlock = some j → W.heap[j]? = some o → o.isWalk = false := by
  intro j o hj ho
  rcases h.2 with ⟨rfl, _⟩ | ⟨g, cap, cur, rfl, _, hgb, _⟩
  · simp [Value.ownBlock] at hj
  · have : g = j := by simpa [Value.ownBlock] using hj
    subst this; rw [hgb] at ho; cases ho; rfl

theorem Sq.info55 : (Try.prog.info? 55).map (fun i => (i.zero, i.size, i.bytes)) = some (some (.int .u16 0), 1, 2) := by kernel_rfl

set_option maxRecDepth 100000 in
set_option maxHeartbeats 2000000 in
theorem Sq.apYield (F : Fence) (m : Nat) (w0 : World) (fn : FuncId) (hfn : F.fn fn) (sv : Value) (Bs l D : Nat) (hBl : Bs ≠ l) (hDl : D ≠ l) (hDB : D ≠ Bs) (h0B : w0.heap.size ≤ Bs) (h0l : w0.heap.size ≤ l)
    (N : Nat) (hN : N ≤ maxLen) (hNb : N * 2 ≤ 140737488355328) (ss : List Int) (x : Int) (W : World) (h : Sq.ApAt w0 fn sv Bs l D ss W) (hlen : ss.length < N) :
    YieldAt F m Try.prog l #[encU x] W fun e W' => e = .returned (.bool true) ∧ Sq.ApAt w0 fn sv Bs l D (ss ++ [x]) W' ∧ KeepsWalks W W' := by
  obtain ⟨i0, hi, hz0, hz1, hz2⟩ := info_parts Sq.info55
  obtain ⟨v, hv, hrow, _⟩ := h.box
  refine ⟨fn, #[.slice none 0 0, sv, .pointer (some ⟨Bs, 0, none⟩), undef, .slice none 0 0, undef, sv, encU x, undef, undef, undef, undef, undef], Sq.apAssign, Sq.apBody, by simpa [Sq.apRec] using run_yield (P := Try.prog) (args := #[encU x]) h.L rfl, roundIn_of_wpIn hfn ?_⟩
  have hl : l < W.heap.size := (Array.getElem?_eq_some_iff.1 h.L).1
  have hbr := run_beginRound (P := Try.prog) h.L rfl
  obtain ⟨W2, hW2⟩ : ∃ W2, W.putObj l (.loop { Sq.apRec fn sv Bs D .ready none with state := .busy }) = W2 := ⟨_, rfl⟩
  rw [hW2] at hbr
  have hg2 : W.grownBy W2 (some l) := by rw [← hW2]; exact grownBy_putObj _ _ _
  have hk2 : KeepsWalks W W2 := by rw [← hW2]; exact KeepsWalks.putObj _ h.L rfl
  have hv2 : W2.heap[Bs]? = some (.cells #[v] 37 (0, 0)) := by rw [← hW2]; exact (World.putObj_heap_other hBl).trans hv
  have hK2 : W2.heap[D]? = some (.deferred (some [])) := by rw [← hW2]; exact (World.putObj_heap_other hDl).trans h.K
  have hL2 : W2.heap[l]? = some (.loop { Sq.apRec fn sv Bs D .ready none with state := .busy }) := by rw [← hW2]; exact World.putObj_heap_same hl
  have hrow2 : W2.ownsRow w0.heap.size 55 1 v ss.length (ss.map encU) := hrow.kept hg2 (ownsRow_ne hrow h.L (fun cur e => by cases e))
  have hb2 : Below w0.heap.size w0 W2 := h.below.grown hg2 h.below.size (fun k e => by cases e; exact h0l)
  obtain ⟨hc2, hf2⟩ := cell_of_box hv2
  have hBlt : Bs < W2.heap.size := (Array.getElem?_eq_some_iff.1 hv2).1
  have hl2 : l < W2.heap.size := (Array.getElem?_eq_some_iff.1 hL2).1
  have hDlt : D < W2.heap.size := (Array.getElem?_eq_some_iff.1 hK2).1
  have ne_of : ∀ {j : Nat} {o : Obj}, W2.heap[j]? = some o → (∀ cur, o ≠ .cells cur 55 (0, 0)) → some j ≠ v.ownBlock := fun hj hno => by
    rcases ownsRow_ne hrow2 hj hno with e | e
    · rw [e]; simp
    · exact fun e' => e e'.symm
  clear hW2
  unfold Sq.apAssign
  gi_wp2_with (rw [Oper.semAt_eq _ _ _ (fun c h => by cases h)]; go_simp; try go_bits)
  unfold Sq.apBody
  gi_wp2_with (first
    | (gi_at_builtin; refine wpListIn_append_own _ rfl _ _ 37 rfl w0.heap.size 55 i0 (.int .u16 0) 1 2 Try.underlying37 hi hz0 hz1 hz2 rfl (by decide) _ _ _ rfl (hrow2.alloc _) ⟨W2.heap.size, 0, none⟩ 1 1 [encU x] rfl rfl (cell_one_new _ _ _) (by simp [Value.oneCell', encU]) (by omega) (by omega) (by have := hb2.size; simp; omega) ?_; intro v' w3 hown' hg3 hnil3
       have hv3 : w3.heap[Bs]? = some (.cells #[v] 37 (0, 0)) := (hg3.block Bs (by simp; omega) (ne_of hv2 (fun cur e => by cases e))).trans ((Below.heap_alloc _ _ Bs hBlt).trans hv2)
       obtain ⟨hc3, hf3⟩ := cell_of_box hv3
       obtain ⟨g', cap', cur', rfl, hbase', hgb', hr1, hr2, hr3, hr4⟩ : ∃ g' cap' cur', v' = .slice (some ⟨g', 0, none⟩) (ss.length + 1) cap' ∧ w0.heap.size ≤ g' ∧ w3.heap[g']? = some (.cells cur' 55 (0, 0)) ∧ ss.length + 1 ≤ cap' ∧ cap' ≤ maxLen ∧ cur'.size = cap' * 1 ∧ cur'.toList.take ((ss.length + 1) * 1) = ss.map encU ++ [encU x] := by
         rcases hown'.2 with ⟨_, h0⟩ | h'
         · exact absurd h0 (by omega)
         · exact h'
       go_frame)
    | (rw [Oper.semAt_eq _ _ _ (fun c h => by cases h)]; go_simp; try go_bits))
  have hg3' : (W2.alloc (.cells #[encU x] 55)).grownBy w3 v.ownBlock := hg3
  have hL3 : w3.heap[l]? = some (.loop { Sq.apRec fn sv Bs D .ready none with state := .busy }) := (hg3'.block l (by simp; omega) (ne_of hL2 (fun cur e => by cases e))).trans ((Below.heap_alloc _ _ l hl2).trans hL2)
  have hK3 : w3.heap[D]? = some (.deferred (some [])) := (hg3'.block D (by simp; omega) (ne_of hK2 (fun cur e => by cases e))).trans ((Below.heap_alloc _ _ D hDlt).trans hK2)
  obtain ⟨w4, hw4⟩ : ∃ w4, w3.setCell ⟨Bs, 0, none⟩ (.slice (some ⟨g', 0, none⟩) (ss.length + 1) cap') = w4 := ⟨_, rfl⟩
  rw [hw4]
  have hg4 : w3.grownBy w4 (some Bs) := by rw [← hw4]; exact grownBy_setCell0 _ _ _
  have hv4 : w4.heap[Bs]? = some (.cells #[.slice (some ⟨g', 0, none⟩) (ss.length + 1) cap'] 37 (0, 0)) := by rw [← hw4]; exact heap_setCell_box _ hv3
  have hL4 : w4.heap[l]? = some (.loop { Sq.apRec fn sv Bs D .ready none with state := .busy }) := (hg4.block l (Array.getElem?_eq_some_iff.1 hL3).1 (fun e => hBl (by cases e; rfl))).trans hL3
  have hK4 : w4.heap[D]? = some (.deferred (some [])) := (hg4.block D (Array.getElem?_eq_some_iff.1 hK3).1 (fun e => hDB (by cases e; rfl))).trans hK3
  have hrow4 := hown'.kept hg4 (ownsRow_ne hown' hv3 (fun cur e => by cases e))
  have hl4 : l < w4.heap.size := (Array.getElem?_eq_some_iff.1 hL4).1
  have hb3 : Below w0.heap.size w0 w3 := (hb2.alloc hb2.size _).grown hg3' (by have := hb2.size; simp; omega) (fun k e => (hrow2.lt k e).1)
  have hb4 : Below w0.heap.size w0 w4 := hb3.grown hg4 hb3.size (fun k e => by cases e; exact h0B)
  have hk4 : KeepsWalks W w4 := ((hk2.trans (KeepsWalks.alloc _ _)).trans (KeepsWalks.of_grownBy hg3' (ownsRow_not_walk (hrow2.alloc _)))).trans (by rw [← hw4]; exact KeepsWalks.setCell _ _ _)
  clear hw4
  refine ⟨_, _, run_endRound none hL4, rfl, ⟨⟨_, (World.putObj_heap_other hBl).trans hv4, ?_, by simp⟩, World.putObj_heap_same hl4, (World.putObj_heap_other hDl).trans hK4, hb4.grown (grownBy_putObj _ _ _) hb4.size (fun k e => by cases e; exact h0l)⟩, hk4.trans (KeepsWalks.putObj _ hL4 rfl)⟩
  have := hrow4.kept (grownBy_putObj w4 l (.loop { { Sq.apRec fn sv Bs D .ready none with state := .busy } with state := if (none : Option Code).isNone then .ready else .done, pending := none })) (ownsRow_ne hrow4 hL4 (fun cur e => by cases e))
  simpa using this


set_option maxRecDepth 100000 in
set_option maxHeartbeats 2000000 in
theorem Sq.appendSeq_in (F : Fence) (n : Nat) (h11 : F.fn 181) (hro : F.round = none) (hn : 2 ≤ n) (g : Nat) (lb : Array Value) (hFg : F.fn g) (eg : ∀ args w, (callFunc g args).run Try.prog w = .ok (.enter g args) w)
    (S : List Int → Prop) (N : Nat) (hN : N ≤ maxLen) (hNb : N * 2 ≤ 140737488355328) (w : World) (hseq : SeqU F (n - 1) g lb S N w) :
    CallsIn F n Try.prog 181 #[.slice none 0 0, .func (.func g) #[] lb] w fun e w' => ∃ (v : Value) (ss : List Int), e = .returned v ∧ S ss ∧ w'.ownsRow w.heap.size 55 1 v ss.length (ss.map encU) ∧ (v = .slice none 0 0 ↔ ss = []) ∧ Below w.heap.size w w' := by
  have h1 : 1 ≤ n := by omega
  refine callsIn_of_wp_marks Try.func181 rfl h11 ?_ hro
  simp only [Try.ntmps181, List.size_toArray, List.length_cons, List.length_nil, Nat.reduceAdd, Nat.reduceSub, Array.replicate_succ, Array.replicate_zero, List.push_toArray, List.append_toArray, List.nil_append, List.cons_append]
  gi_wp2
  refine wpIn_rangeFunc ?_
  intro fn hfn
  rw [hro]
  obtain ⟨W0, hW0⟩ : ∃ W0, w.alloc (.cells #[.slice none 0 0] 37) = W0 := ⟨_, rfl⟩
  have hs0 : W0.heap.size = w.heap.size + 1 := by rw [← hW0]; simp
  have hv0 : W0.heap[w.heap.size]? = some (.cells #[.slice none 0 0] 37 (0, 0)) := by rw [← hW0]; exact World.alloc_heap_new w _
  have hb0 : Below w.heap.size w W0 := by rw [← hW0]; exact (Below.refl _ w).alloc (Nat.le_refl _) _
  rw [hW0]
  obtain ⟨W1, hW1⟩ : ∃ W1, (W0.alloc (.deferred (some []))).alloc (.loop (Sq.apRec fn (.func (.func g) #[] lb) w.heap.size W0.heap.size .ready none)) = W1 := ⟨_, rfl⟩
  have hold : ∀ k, k < W0.heap.size → W1.heap[k]? = W0.heap[k]? := fun k hk => by
    rw [← hW1]; exact (Below.heap_alloc _ _ k (by simp; omega)).trans (Below.heap_alloc _ _ k hk)
  have hb1 : Below w.heap.size w W1 := by rw [← hW1]; exact (hb0.alloc hb0.size _).alloc (by have := hb0.size; simp; omega) _
  have hs1 : W1.heap.size = W0.heap.size + 2 := by rw [← hW1]; simp
  have hM : Sq.ApAt w fn (.func (.func g) #[] lb) w.heap.size (W0.heap.size + 1) W0.heap.size [] W1 :=
    ⟨⟨_, (hold w.heap.size (by omega)).trans hv0, ⟨rfl, .inl ⟨rfl, rfl⟩⟩, by simp⟩,
     by rw [← hW1]; have := World.alloc_heap_new (W0.alloc (.deferred (some []))) (.loop (Sq.apRec fn (.func (.func g) #[] lb) w.heap.size W0.heap.size .ready none)); rwa [World.size_alloc] at this,
     by rw [← hW1]; exact (Below.heap_alloc _ _ _ (by simp)).trans (World.alloc_heap_new W0 _), hb1⟩
  refine ⟨W0.heap.size + 1, [{ target := .collected W0.heap.size, args := #[] }], W1, { target := .fn (.func g) lb, args := #[.func (.yield (W0.heap.size + 1)) #[] #[]] }, W1, g,
    #[.func (.yield (W0.heap.size + 1)) #[] #[]] ++ lb, W1, ?_, ?_, ?_, ?_, fun _ => h1, ?_⟩
  · rw [← hW1]; exact run_enterLoop_outer _ _ _ _ _
  · simp [resolve, go_sem]
  · intro f' hf'; simp [Target.leads] at hf'; subst hf'; exact hFg
  · simp [invoke, go_sem, eg]
  · refine (hseq (W0.heap.size + 1) (Sq.ApAt w fn (.func (.func g) #[] lb) w.heap.size (W0.heap.size + 1) W0.heap.size) W1 hb1 (fun _ _ h => h.below)
      (fun pre x W hJ hl => Sq.apYield F (n - 1 - 1) w fn hfn _ w.heap.size (W0.heap.size + 1) W0.heap.size (by omega) (by omega) (by omega) (Nat.le_refl _) (by omega) N hN hNb pre x W hJ hl) hM).mono ?_
    rintro e W2 ⟨⟨v0, rfl⟩, ss, hS, h2⟩
    obtain ⟨v, hv, hrow, hnil⟩ := h2.box
    have hend := run_endLoop (P := Try.prog) h2.L (by simp [Sq.apRec])
    obtain ⟨W3, hW3⟩ : ∃ W3, W2.putObj (W0.heap.size + 1) (.loop { Sq.apRec fn (.func (.func g) #[] lb) w.heap.size W0.heap.size .ready none with state := .exhausted }) = W3 := ⟨_, rfl⟩
    rw [hW3] at hend
    have hg3 : W2.grownBy W3 (some (W0.heap.size + 1)) := by rw [← hW3]; exact grownBy_putObj _ _ _
    have hv3 : W3.heap[w.heap.size]? = some (.cells #[v] 37 (0, 0)) := by rw [← hW3]; exact (World.putObj_heap_other (by omega)).trans hv
    have hK3 : W3.heap[W0.heap.size]? = some (.deferred (some [])) := by rw [← hW3]; exact (World.putObj_heap_other (by omega)).trans h2.K
    have hrow3 := hrow.kept hg3 (ownsRow_ne hrow h2.L (fun cur e => by cases e))
    have hb3 : Below w.heap.size w W3 := h2.below.grown hg3 h2.below.size (fun k e => by cases e; omega)
    obtain ⟨hc3, hf3⟩ := cell_of_box hv3
    clear hW3
    refine ⟨none, W3, hend, ?_⟩
    gi_wp2
    rw [← hs0]
    refine ⟨by simp, .inl ⟨_, _, rfl, run_takeDeferred hK3, ?_⟩⟩
    exact ⟨_, results_tmp rfl _ _ _, v, ss, rfl, hS, hrow3.kept (grownBy_putObj _ _ _) (ownsRow_ne hrow3 hK3 (fun cur e => by cases e)), hnil, hb3.grown (grownBy_putObj _ _ _) hb3.size (fun k e => by cases e; omega)⟩



end Go.Proofs.Ytmanpbgaihdalaa
namespace Go.Proofs.Ytmanpbgaihdalaa
open Go Dv Go.RowKit Go.Maps Go.Sort Go.Shelf
attribute [local go_sem] Oper.semAt_some
set_option maxRecDepth 100000 in
set_option maxHeartbeats 2000000 in
theorem Sq.values1_in (F : Fence) (n : Nat) (h7 : F.fn 177) (hro : F.round = none) (hn : 1 ≤ n) (Bs bo b off cap : Nat) (zs : List Int) (hreach : zs.length * 2 ≤ 140737488351232) (w : World) (hBs0 : Bs < w.heap.size) (hb : b < w.heap.size)
    (hBs : w.cell? ⟨Bs, bo, none⟩ = some (.slice (some ⟨b, off, none⟩) zs.length cap)) (hc : ∀ j, j < zs.length → w.cell? ⟨b, off + j, none⟩ = some (.int .u16 (zs[j]?.getD 0))) :
    SeqU F n 177 #[.pointer (some ⟨Bs, bo, none⟩)] (fun ss => ss = zs) zs.length w := by
  intro l J W hW hJB hY h0
  have hBsW := (hW.cell (p := ⟨Bs, bo, none⟩) hBs0).trans hBs
  have hcW : ∀ W', RowKit.Below w.heap.size w W' → ∀ k, k < zs.length → W'.cell? ⟨b, off + k, none⟩ = some (.int .u16 (zs[k]?.getD 0)) := fun W' h k hk => (h.cell (p := ⟨b, off + k, none⟩) hb).trans (hc k hk)
  refine callsIn_of_wp Try.func177 rfl h7 ?_ hro
  simp only [Try.ntmps177, List.size_toArray, List.length_cons, List.length_nil, Nat.reduceAdd, Nat.reduceSub, Array.replicate_succ, Array.replicate_zero, List.push_toArray, List.append_toArray, List.nil_append, List.cons_append]
  gi_wp2
  gi_loopw [7] (fun i wr => ∃ k : Nat, k ≤ zs.length ∧ i = .int .i64 k ∧ J (zs.take k) wr)
    (fun i _ => zs.length - (intOf i).toNat)
  case atStart => exact ⟨0, Nat.zero_le _, rfl, by simpa using h0⟩
  case round =>
    obtain ⟨k, hk, rfl, hJs⟩ := hrel
    by_cases hlt : k < zs.length
    · have hcx' := hcW wr (hJB _ _ hJs) k hlt
      have hJx : ∀ W', J (zs.take k ++ [zs[k]?.getD 0]) W' → J (zs.take (k + 1)) W' := fun W' h => by rw [List.take_add_one]; simpa [List.getElem?_eq_getElem hlt] using h
      generalize zs[k]?.getD 0 = x at hcx' hJx
      obtain ⟨fn, tmps, assign, body, hy, hR⟩ := hY _ x wr hJs (by rw [List.length_take]; omega)
      unfold encU at hy
      gi_wp2
      refine hR.mono ?_
      rintro e W3 ⟨rfl, hJ3, _⟩
      gi_wp2
      go_roundw
      case rel => exact ⟨k + 1, by omega, by simp, hJx _ hJ3⟩
      case measure => simp [intOf]; omega
    · obtain rfl : k = zs.length := by omega
      gi_wp2
      go_end0
      exact ⟨⟨_, rfl⟩, _, rfl, by simpa using hJs⟩
set_option maxRecDepth 100000 in
set_option maxHeartbeats 1000000 in
theorem Sq.values1_nil (F : Fence) (n : Nat) (h7 : F.fn 177) (hro : F.round = none) (Bs bo cap : Nat) (p : Option Addr) (w : World) (hBs0 : Bs < w.heap.size)
    (hBs : w.cell? ⟨Bs, bo, none⟩ = some (.slice p 0 cap)) :
    SeqU F n 177 #[.pointer (some ⟨Bs, bo, none⟩)] (fun ss => ss = []) 0 w := by
  intro l J W hW hJB hY h0
  have hBsW := (hW.cell (p := ⟨Bs, bo, none⟩) hBs0).trans hBs
  refine callsIn_of_wp Try.func177 rfl h7 ?_ hro
  simp only [Try.ntmps177, List.size_toArray, List.length_cons, List.length_nil, Nat.reduceAdd, Nat.reduceSub, Array.replicate_succ, Array.replicate_zero, List.push_toArray, List.append_toArray, List.nil_append, List.cons_append]
  gi_wp2
  gi_loopw [7] (fun i wr => i = .int .i64 0 ∧ J [] wr) (fun _ _ => 0)
  case atStart => exact ⟨rfl, h0⟩
  case round =>
    obtain ⟨rfl, hJs⟩ := hrel
    gi_wp2
    go_end0
    exact ⟨⟨_, rfl⟩, _, rfl, hJs⟩
end Go.Proofs.Ytmanpbgaihdalaa
namespace Go.Proofs.Ytmanpbgaihdalaa
open Go Dv Go.RowKit Go.Maps Go.Sort Go.Shelf
set_option linter.unusedSimpArgs false
theorem fr_below {w w' : World} (h : RowKit.Below w.heap.size w w') : Fr (fun _ => False) w w' :=
  ⟨h.os, h.tape, h.output, h.size, fun b hb _ => h.block b hb, fun a ha => by simp only [World.frozen?, h.block a.block ha]⟩
theorem c_AppendSeq (l : List Int) (hl : l.length ≤ maxL) : FO Try.prog 181 [.nsl, .fn 177 [.ip [u16s l]]] 1 l.length (fun i => [.int .u16 (l.getD i 0)]) := by
  refine ⟨⟨_, Try.func181, rfl, by decide +kernel⟩, fun X w vals hX hv => ?_⟩
  simp only [Vs, V, Vc, u16s] at hv
  obtain ⟨_, _, rfl, rfl, _, _, rfl, ⟨a, rfl, _, _, rfl, ⟨Bs, bo, rfl, hBs, hnX, ⟨v, hcell, _, p, c, rfl, hnc, _, hrow⟩, _⟩, rfl⟩, rfl⟩ := hv
  have hu : ∀ i, i < l.length → IntKind.u16.min ≤ l.getD i 0 ∧ l.getD i 0 ≤ IntKind.u16.max := fun i hi => by
    rcases hrow with h0 | ⟨b, o, _, _, _, hc⟩
    · omega
    · exact (hc i hi).2.1.choose_spec.2.2.2
  have key : ∃ N, SeqU Fence.wide 1 177 #[.pointer (some ⟨Bs, bo, none⟩)] (fun ss => ss = l) N w ∧ N ≤ maxLen ∧ N * 2 ≤ 140737488355328 := by
    rcases hrow with h0 | ⟨b, o, rfl, hb, _, hc⟩
    · have : l = [] := List.length_eq_zero_iff.1 h0
      subst this
      exact ⟨0, Sq.values1_nil Fence.wide 1 trivial rfl Bs bo c p w hBs hcell, by decide, by decide⟩
    · refine ⟨l.length, Sq.values1_in Fence.wide 1 trivial rfl (by omega) Bs bo b o c l (by simp only [maxL] at hl; omega) w hBs hb hcell (fun j hj => ?_), by simp only [maxL] at hl; simp only [maxLen]; omega, by simp only [maxL] at hl; omega⟩
      obtain ⟨_, ⟨v, h1, _, h2, _⟩, _⟩ := hc j hj
      rw [Nat.mul_one] at h1
      rw [h1, h2]; simp
  obtain ⟨N, hseq, hN, hN2⟩ := key
  refine (callsIn_wide.1 (Sq.appendSeq_in Fence.wide 2 trivial rfl (by omega) 177 #[.pointer (some ⟨Bs, bo, none⟩)] trivial (fun args w => run_callFunc ⟨_, Try.func177, rfl, by decide +kernel⟩ args w) (fun ss => ss = l) N hN hN2 w hseq)).mono ?_
  rintro e w' ⟨v, ss, rfl, rfl, hown, hnil, hb⟩
  refine ⟨v, rfl, fr_below hb, hl, ?_⟩
  rcases hown.2 with ⟨h1, h2⟩ | ⟨g, cap, cur, h1, h2, h3, h4, h5, h6, h7⟩
  · exact .inl ⟨h1, h2⟩
  · refine .inr ⟨_, g, cap, h1, h2, .inr rfl, cur, 55, h3, h4, h6, fun i hi => ⟨rfl, ?_⟩⟩
    simp only [Vc, V]
    have hg : cur[i]? = some (.int .u16 (ss.getD i 0)) := by
      have := congrArg (fun l => l[i]?) h7
      simp only [Nat.mul_one, List.getElem?_take, hi, if_true, List.getElem?_map] at this
      rw [← Array.getElem?_toList, this, List.getElem?_eq_getElem hi, List.getD_eq_getElem?_getD, List.getElem?_eq_getElem hi]; rfl
    refine ⟨⟨_, ?_, rfl, rfl, ?_⟩, trivial⟩
    · simp [World.cell?, h3, hg]
    · exact hu i hi
theorem Rel.bp {h : AHeap} {id : Dv.Id} {imm : Bool} {sz k : Nat} {f : Nat → List AV} {g : List AV} (hh : h id = some (.row imm sz k f)) (hk : 0 < k) (hm : Rels h (f 0) g) : Rel h (.bp id 0) (.ip g) := fun X ι w v s hv => by
  simp only [V] at hv ⊢
  cases hl : ι id with
  | none => simp [hl] at hv
  | some l =>
    cases l with
    | ghost => simp [hl] at hv
    | nil => simp [hl] at hv
    | «at» b c =>
      simp only [hl] at hv
      obtain ⟨arr, TT, hc, h4, h5, h6⟩ := s.rel id _ _ hh hl
      refine ⟨b, 0, hv, s.lt hl, s.apart id b c hl, ?_⟩
      obtain ⟨h7, h8⟩ := h6 0 hk
      have h9 := Vc_weak' imm _ _ _ h8
      rw [Nat.zero_mul] at h9
      obtain ⟨vs, hvl, hvc, hvV, hv1⟩ := Vc_read h9
      exact Vc_of_Vs (hm X ι w vs s hvV) hvc hv1
theorem c_Values (l : List Int) : FC Try.prog 166 [u16s l] (.fn 177 [.ip [u16s l]]) := by
  refine FC_intro tok Try.func166 rfl (by decide +kernel) (Nat.le_of_ble_eq_true rfl) ?_
  (repeat' first | refine AWp_seq ?_ | (refine AWp_reg tok (by rfl) ?_; conv => whnf) | (refine AWp_ret ?_; conv => whnf))
  exact ⟨_, rfl, Rel.fn (Rels.cons (Rel.bp rfl Nat.zero_lt_one (Rels.imm rfl)) Rels.nil)⟩
theorem c_Collect (l : List Int) (hl : l.length ≤ maxL) : FO Try.prog 175 [.fn 177 [.ip [u16s l]]] 1 l.length (fun i => [.int .u16 (l.getD i 0)]) := by
  refine FO_intro tok Try.func175 rfl (by decide +kernel) (Nat.le_of_ble_eq_true rfl) ?_
  (repeat' first | refine AWp_seq ?_ | (refine AWp_reg tok (by rfl) ?_; conv => whnf))
  refine .inl ⟨_, _, _, uG (QC.fo (rd := []) (c_AppendSeq l hl) (Ress.imms rfl) (.inl rfl) rfl), ?_⟩
  conv => whnf
  (repeat' (refine AWp_ret ?_; conv => whnf))
  exact ⟨_, rfl, .rs rfl (Nat.le_refl _) rfl (fun _ _ => rfl)⟩
theorem c_Sorted (l : List Int) (hl : l.length ≤ maxL) : FO Try.prog 165 [.fn 177 [.ip [u16s l]]] 1 l.length (fun i => [.int .u16 ((sorted l).getD i 0)]) := by
  refine FO_intro tok Try.func165 rfl (by decide +kernel) (Nat.le_of_ble_eq_true rfl) ?_
  (repeat' first | refine AWp_seq ?_ | (refine AWp_reg tok (by rfl) ?_; conv => whnf))
  refine .inl ⟨_, _, _, uG (QC.fo (rd := []) (c_Collect l hl) (Ress.imms rfl) (.inl rfl) rfl), ?_⟩
  conv => whnf
  (repeat' first | refine AWp_seq ?_ | (refine AWp_reg tok (by rfl) ?_; conv => whnf))
  have hS := c_Sort l.length l.toArray (by simp)
  refine .inr ⟨_, _, _, uG (QH.of (dead := []) [(i0, .old (5, 0, 0), arow l.length l.toArray)] hS rfl (.old rfl (BLe.row rfl (fun x h2 => ?_)) .nil) (.cons (.eq rfl) .nil) [(i0, (5, 0, 0))] rfl (.cons (b' := .row true 1 l.length (fun i => [.int .u16 ((sorted l).getD i 0)])) rfl (BLe.row rfl (fun x h2 => ?_)) .nil) rfl), ?_⟩
  · show [AV.int .u16 (l.getD x 0)] = [.int .u16 l.toArray[x]!]
    rw [bang_list]
  · show [AV.int .u16 (Go.Sort.sort ltInt l.toArray)[x]!] = [.int .u16 ((sorted l).getD x 0)]
    rw [← bang_list]; simp [sorted]
  conv => whnf
  (repeat' first | refine AWp_seq ?_ | (refine AWp_reg tok (by rfl) ?_; conv => whnf) | (refine AWp_ret ?_; conv => whnf))
  exact ⟨_, rfl, .rs rfl (Nat.le_refl _) rfl (fun _ _ => rfl)⟩
end Go.Proofs.Ytmanpbgaihdalaa
namespace Go.Proofs.Ytmanpbgaihdalaa
open Go Dv
set_option maxRecDepth 10000
set_option linter.unusedSimpArgs false
theorem sorted_perm (l : List Int) : (sorted l).Perm l := by rw [sorted_eq]; exact List.mergeSort_perm l _
theorem sorted_asc (l : List Int) : ∀ i j, i < j → j < (sorted l).length → (sorted l).getD i 0 ≤ (sorted l).getD j 0 := by
  have h : (sorted l).Pairwise (fun x y => decide (x ≤ y) = true) := by
    rw [sorted_eq]
    exact List.pairwise_mergeSort (fun a b c h1 h2 => by simp at *; omega) (fun a b => by simp; omega) l
  intro i j hij hj
  rw [List.pairwise_iff_getElem] at h
  have := h i j (by omega) hj hij
  rw [getD_lt _ (by omega), getD_lt _ hj]; simpa using this
theorem runs_sorted (l : List Int) : runs (sorted l).toArray l.length = l.length ↔ l.Nodup := by
  have h := runs_all (sorted_asc l) l.length (by rw [sorted_len]; omega)
  rw [h, ← (sorted_perm l).nodup_iff]
  constructor
  · intro hh; exact nodup_getD (fun i hi k hk => hh i (by rw [sorted_len] at hi; exact hi) k hk)
  · intro hn x hx y hy he
    exact not_nodup (by rw [sorted_len]; exact hx) hy he hn
theorem c_lpad : LPad := by
  intro m f b
  refine FC_intro tok Try.func156 rfl (by decide +kernel) (Nat.le_of_ble_eq_true rfl) ?_
  refine AWp_facts 1 (fun hl => ?_)
  have hl0 : b.pad.catch_.length ≤ maxL := hl.2.2.1.1
  (repeat' first | refine AWp_seq ?_ | (refine AWp_reg tok (by rfl) ?_; conv => whnf) | (refine AWp_skip ?_; conv => whnf) | refine AWp_cond rfl (fun hb => ?_) (fun hb => ?_))
  · refine .inl ⟨_, _, _, uG (QC.sc (rd := []) (c_samePad b.pad ⟨0, [], false, false⟩) (.cons (.imm rfl) (.cons (.agg (.cons (.imm rfl) (.cons .nsl (.cons (.imm rfl) (.cons (.imm rfl) .nil))))) .nil)) rfl), ?_⟩
    conv => whnf
    (repeat' (refine AWp_ret ?_; conv => whnf))
    refine ⟨_, rfl, Rel.bool ?_⟩
    rw [decide_eq_decide]
    obtain ⟨land, ⟨d, c, al, cl⟩, _, _⟩ := b
    simp at hb
    simp [PadP, hb, and_assoc]
  refine .inl ⟨_, _, _, uG (QC.fc (c_Values b.pad.catch_) rfl), ?_⟩
  conv => whnf
  skip
  refine .inl ⟨_, _, _, uG (QC.fo (rd := []) (c_Sorted b.pad.catch_ hl0) (Ress.imms rfl) (.inl rfl) rfl), ?_⟩
  conv => whnf
  (repeat' first | refine AWp_seq ?_ | (refine AWp_any tok mix (by rfl) ?_; conv => whnf))
  refine .inl ⟨_, _, _, uG (QC.fc (c_place m f b.pad.dst) rfl), ?_⟩
  conv => whnf
  skip
  have hC := c_Compact b.pad.catch_.length (sorted b.pad.catch_).toArray (by simp [sorted_len])
  refine .inl ⟨_, _, _, uG (QC.turn (i := (18, 0, 0)) (rd := [(18, 0, 0)]) (b := .row true 1 0 (fun _ => [])) (List.mem_singleton.2 rfl) (fun h' hh => QH.of (dead := []) [(i0, .old (18, 0, 0), arow b.pad.catch_.length (sorted b.pad.catch_).toArray)] hC rfl (.old (hh _ (List.mem_singleton.2 rfl)) (BLe.row rfl (fun x h2 => ?_)) .nil) (.cons (.eq rfl) .nil) [(i0, (18, 0, 0))] rfl (.cons (b' := .row true 1 0 (fun _ => [])) rfl (BLe.rowW (Nat.zero_le _) (fun x h2 => absurd h2 (Nat.not_lt_zero x))) .nil) rfl)), ?_⟩
  · show [AV.int .u16 ((sorted b.pad.catch_).getD x 0)] = [.int .u16 (sorted b.pad.catch_).toArray[x]!]
    rw [bang_list]
  conv => whnf
  (repeat' (refine AWp_ret ?_; conv => whnf))
  refine ⟨_, rfl, Rel.bool ?_⟩
  have h1 := runs_sorted b.pad.catch_
  generalize runs (sorted b.pad.catch_).toArray b.pad.catch_.length = rr at h1 ⊢
  have hland : b.landing = true := by simpa using hb
  rw [Bool.eq_iff_iff]
  have e1 : ((rr : Int) = (b.pad.catch_.length : Int)) ↔ b.pad.catch_.Nodup := by rw [← h1]; omega
  have e2 : ((b.pad.catch_.length : Int) ≤ 8) ↔ b.pad.catch_.length ≤ 8 := by omega
  have e3 : (0 : Int) < (b.pad.catch_.length : Int) ↔ b.pad.catch_ ≠ [] := by
    rw [← List.length_pos_iff]; omega
  simp only [cond_eq_ite, Bool.if_false_right, Bool.if_true_left, Bool.and_eq_true, Bool.or_eq_true, decide_eq_true_eq, e1, e2, e3, PadP, hland, Bool.decide_eq_true]
  simp
  constructor
  · rintro ⟨⟨⟨h2, h3⟩, h4⟩, h5⟩
    refine ⟨h3, h4, h2, ?_⟩
    rcases h5 with (h5 | h5) | h5 <;> simp [h5]
  · rintro ⟨h3, h4, h2, h5⟩
    refine ⟨⟨⟨h2, h3⟩, h4⟩, ?_⟩
    rcases h5 with h5 | h5 | h5 <;> simp [h5]
end Go.Proofs.Ytmanpbgaihdalaa
namespace Go.Proofs.Ytmanpbgaihdalaa
open Go Dv
set_option maxRecDepth 10000
set_option linter.unusedSimpArgs false
/-! Modules whose rows of functions and of blocks are of one's own. -/
def blkR1 (l : List Block) : ABlock := .row true 14 l.length (fun q => encBlock (l.getD q default))
def funR1 (l : List Func) (c : Nat → AV) : ABlock := .row false 3 l.length (fun j => [iv (l.getD j default).params, iv (l.getD j default).regs, c j])
def blkF1 (l : List Func) (p : Nat → Bool) : AHeap := famC 1000 (fun j z => bif Nat.beq z 0 && (Nat.blt j l.length && p j) then some (blkR1 (l.getD j default).blocks) else none)
def mem1 (l : List Func) (j : Nat) : AV := .rs (1000, j, 0) 14 0 (l.getD j default).blocks.length
def modH1 (l : List Func) : AHeap := orH (lookH [((900, 0, 0), funR1 l (mem1 l))]) (blkF1 l (fun _ => true))
theorem blkF1_some {l : List Func} {p : Nat → Bool} {j : Dv.Id} {b : ABlock} (h : blkF1 l p j = some b) : ∃ i, j = (1000, i, 0) ∧ i < l.length ∧ p i = true ∧ b = blkR1 (l.getD i default).blocks := by
  obtain ⟨a, z, rfl, h3⟩ := famC_some h
  cases e : (Nat.beq z 0 && (Nat.blt a l.length && p a)) with
  | false => rw [e] at h3; cases h3
  | true =>
    rw [e] at h3
    rw [Bool.and_eq_true, Bool.and_eq_true, Nat.blt_eq] at e
    have := Nat.eq_of_beq_eq_true e.1
    subst this
    exact ⟨a, rfl, e.2.1, e.2.2, (Option.some.inj h3).symm⟩
theorem blkF1_at {l : List Func} {p : Nat → Bool} {i : Nat} (h : i < l.length) (hp : p i = true) : blkF1 l p (1000, i, 0) = some (blkR1 (l.getD i default).blocks) := by
  show (bif (Nat.beq 0 0 && (Nat.blt i l.length && p i)) then _ else none) = _
  have : (Nat.beq 0 0 && (Nat.blt i l.length && p i)) = true := by
    rw [Bool.and_eq_true, Bool.and_eq_true, Nat.blt_eq]; exact ⟨rfl, h, hp⟩
  rw [this]; rfl
theorem GB_blk1 {src : Dv.Id → Option Dv.Id} {h h' : AHeap} (l : List Block) : GB src h h' (blkR1 l) (blkR1 l) := GB.rowI (Nat.le_refl _) (fun _ _ => ⟨rfl, rfl⟩)
theorem copyH_sub (fs : List Func) (j : Dv.Id) (b : ABlock) (e : modH1 fs j = some b) : (j = (900, 0, 0) ∧ b = funR1 fs (mem1 fs)) ∨ ∃ i, j = (1000, i, 0) ∧ i < fs.length ∧ b = blkR1 (fs.getD i default).blocks := by
  rcases orH_some e with e | ⟨_, e⟩
  · simp only [lookH] at e
    cases e2 : idEq (900, 0, 0) j with
    | false => rw [e2] at e; cases e
    | true => have := idEq_iff.1 e2; subst this; rw [e2] at e; cases e; exact .inl ⟨rfl, rfl⟩
  · obtain ⟨i, rfl, h1, _, h2⟩ := blkF1_some e
    exact .inr ⟨i, rfl, h1, h2⟩
theorem modH1_at {l : List Func} {i : Nat} (h : i < l.length) : modH1 l (1000, i, 0) = some (blkR1 (l.getD i default).blocks) := (show blkF1 l (fun _ => true) (1000, i, 0) = _ from blkF1_at h rfl)
/-- Copy, its instructions given away. -/
theorem c_Copy1 (fs : List Func) : HF Try.prog 26 [.agg (encMod ⟨fs⟩)] (.agg [.rs (900, 0, 0) 3 0 fs.length]) (modH1 fs) := by
  refine (c_Copy fs).weak (fun j => some j) (fun j j' i _ _ h1 h2 => some_inj j j' i h1 h2) (fun j b e => ?_) (.agg (.cons (.rs (b := funR1 fs (mem1 fs)) rfl rfl rfl rfl) .nil))
  rcases copyH_sub fs j b e with ⟨rfl, rfl⟩ | ⟨i, rfl, hi, rfl⟩
  · refine HOk.mk rfl (b0 := funR fs fs.length (fun _ => .any)) rfl (GB.row (Nat.le_refl _) (fun j hj => .cons (.imm rfl) (.cons (.imm rfl) (.cons ?_ .nil))) (fun e => by cases e))
    exact .cc (sel_lt hj) rfl (.rs (modH1_at hj) rfl rfl rfl)
  · refine HOk.mk rfl (b0 := blkR i (fs.getD i default).blocks (fs.getD i default).blocks.length (fun _ => .any)) (show treeF fs fs.length 0 (1000, i, 0) = _ from treeF_blk hi) (GB.row (Nat.le_refl _) (fun q hq => ?_) (fun _ _ _ => rfl))
    refine .cons (.imm rfl) (.cons (.imm rfl) (.cons (.imm rfl) (.cons (.imm rfl) (.cons (.imm rfl) (.cons ?_ (GVs.imm rfl))))))
    refine .cc (sel_lt hq) rfl (.frz (k := ((fs.getD i default).blocks.getD q default).ins.length) (f := fun j => encIns (((fs.getD i default).blocks.getD q default).ins.getD j default)) (imm := true) (fun j hj e => ?_) (show treeF fs fs.length 0 (1001, i, q) = _ from treeF_ins (.inl ⟨hi, hq⟩)) (Nat.le_of_eq (Nat.zero_add _)) rfl (fun x hx => GVs.eqI rfl (by rw [Nat.zero_add])) (fun _ _ => rfl))
    cases e
    cases hj
theorem rel_mod1 (l : List Func) : Rel (modH1 l) (.agg [.rs (900, 0, 0) 3 0 l.length]) (.agg (encMod ⟨l⟩)) := by
  refine Rel.agg (Rels.cons (Rel.rs (imm := false) (k := l.length) (f := fun j => [iv (l.getD j default).params, iv (l.getD j default).regs, mem1 l j]) rfl (Nat.le_of_eq (Nat.zero_add _)) (fun i hi => ?_)) Rels.nil)
  rw [Nat.zero_add]
  refine Rels.cons (Rel.imm rfl) (Rels.cons (Rel.imm rfl) (Rels.cons (Rel.rs (imm := true) (k := (l.getD i default).blocks.length) (f := fun q => encBlock ((l.getD i default).blocks.getD q default)) (modH1_at hi) (Nat.le_of_eq (Nat.zero_add _)) (fun q hq => ?_)) Rels.nil))
  rw [Nat.zero_add]
  exact Rels.imm rfl
theorem c_CopyF (m : Module) : FC Try.prog 26 [.agg (encMod m)] (.agg (encMod m)) := (c_Copy1 m.funcs).fc (rel_mod1 m.funcs)
end Go.Proofs.Ytmanpbgaihdalaa
namespace Go.Proofs.Ytmanpbgaihdalaa
open Go Dv
set_option maxRecDepth 10000
set_option linter.unusedSimpArgs false
def w16 (x : Int) : Int := IntKind.u16.wrap x
def doW (op a b : Int) : Int × Bool :=
  if op = 2 then (a, true) else if op = 3 then (w16 (a + b), true) else if op = 4 then (w16 (a - b), true) else if op = 5 then (w16 (a * b), true)
  else if op = 6 then (if b = 0 then (0, false) else (w16 (a.tdiv b), true)) else if op = 7 then (if a = b then 1 else 0, true) else if op = 8 then (if a < b then 1 else 0, true) else (0, false)
def pureO (op : Int) : Bool := bif decide (2 ≤ op) then decide (op ≤ 8) else false
def twoO (op : Int) : Bool := bif decide (2 < op) then decide (op ≤ 8) else false
def turnsO (op : Int) : Bool := decide (op = 3 ∨ op = 5 ∨ op = 7)
theorem c_truth (b : Bool) : FC Try.prog 144 [.bool b] (.int .u16 (if b = true then 1 else 0)) := by
  refine FC_intro tok Try.func144 rfl (by decide +kernel) (Nat.le_of_ble_eq_true rfl) ?_
  (repeat' first | refine AWp_seq ?_ | (refine AWp_reg tok (by rfl) ?_; conv => whnf) | (refine AWp_skip ?_; conv => whnf) | (refine AWp_ret ?_; conv => whnf) | refine AWp_cond rfl (fun hb => ?_) (fun hb => ?_))
  · exact ⟨_, rfl, Rel.int (by rw [if_pos hb])⟩
  · exact ⟨_, rfl, Rel.int (by rw [if_neg (by rw [hb]; simp)])⟩
theorem c_Pure (op : Int) : FC Try.prog 123 [iv op] (.bool (pureO op)) := by
  refine FC_intro tok Try.func123 rfl (by decide +kernel) (Nat.le_of_ble_eq_true rfl) ?_
  (repeat' first | refine AWp_seq ?_ | (refine AWp_reg tok (by rfl) ?_; conv => whnf) | (refine AWp_ret ?_; conv => whnf))
  exact ⟨_, rfl, Rel.imm rfl⟩
theorem c_Two (op : Int) : FC Try.prog 118 [iv op] (.bool (twoO op)) := by
  refine FC_intro tok Try.func118 rfl (by decide +kernel) (Nat.le_of_ble_eq_true rfl) ?_
  (repeat' first | refine AWp_seq ?_ | (refine AWp_reg tok (by rfl) ?_; conv => whnf) | (refine AWp_ret ?_; conv => whnf))
  exact ⟨_, rfl, Rel.imm rfl⟩
theorem c_Turns (op : Int) : FC Try.prog 117 [iv op] (.bool (turnsO op)) := by
  refine FC_intro tok Try.func117 rfl (by decide +kernel) (Nat.le_of_ble_eq_true rfl) ?_
  (repeat' first | refine AWp_seq ?_ | (refine AWp_reg tok (by rfl) ?_; conv => whnf) | refine AWp_block ?_ | (refine AWp_skip ?_; conv => whnf) | (refine AWp_ret ?_; conv => whnf) | refine AWp_cond rfl (fun hb => ?_) (fun hb => ?_))
  all_goals simp only [underG, true_and, and_true, Bool.cond_true_left, Bool.cond_false_left, Bool.cond_true_right, Bool.cond_false_right, Bool.or_eq_true, Bool.and_eq_true, Bool.or_eq_false_iff, Bool.and_eq_false_iff, cond_true, cond_false, Bool.not_eq_eq_eq_not, Bool.not_true, Bool.not_false, decide_eq_true_eq, decide_eq_false_iff_not, Int.toNat_natCast, Nat.zero_add, Decidable.not_not, maxL, inn_iff] at *
  all_goals refine ⟨_, rfl, Rel.bool ?_⟩
  all_goals simp only [turnsO]
  all_goals symm
  all_goals first | (rw [decide_eq_true_eq]; omega) | (rw [decide_eq_false_iff_not]; omega)
theorem c_Do (op a b : Int) : FC Try.prog 124 [iv op, .int .u16 a, .int .u16 b] (.tup [.int .u16 (doW op a b).1, .bool (doW op a b).2]) := by
  refine FC_intro tok Try.func124 rfl (by decide +kernel) (Nat.le_of_ble_eq_true rfl) ?_
  ((repeat' first | refine AWp_seq ?_ | (refine AWp_reg tok (by rfl) ?_; conv => whnf) | refine AWp_block ?_ | (refine AWp_skip ?_; conv => whnf) | (refine AWp_ret ?_; conv => whnf) | refine AWp_cond rfl (fun hb => ?_) (fun hb => ?_) | (refine @And.intro (underG _ _ _ _) _ ?_ ?_; rotate_left; (conv => whnf); rotate_right)); all_goals (try ((guard_target = underG _ _ _ _); refine underG_none ?_; (all_goals (try simp only [underG, true_and, and_true, Bool.cond_true_left, Bool.cond_false_left, Bool.cond_true_right, Bool.cond_false_right, Bool.or_eq_true, Bool.and_eq_true, Bool.or_eq_false_iff, Bool.and_eq_false_iff, cond_true, cond_false, Bool.not_eq_eq_eq_not, Bool.not_true, Bool.not_false, decide_eq_true_eq, decide_eq_false_iff_not, Int.toNat_natCast, Nat.zero_add, Decidable.not_not, maxL, inn_iff] at *)); all_goals omega)))
  all_goals (try (refine .inl ⟨_, _, _, uG (QC.fc (c_truth _) rfl), ?_⟩; conv => whnf))
  (repeat' (refine AWp_ret ?_; conv => whnf))
  all_goals refine ⟨_, rfl, Rel.tup (.cons (Rel.int ?_) (.cons (Rel.bool ?_) .nil))⟩
  all_goals simp only [underG, true_and, and_true, Bool.cond_true_left, Bool.cond_false_left, Bool.cond_true_right, Bool.cond_false_right, Bool.or_eq_true, Bool.and_eq_true, Bool.or_eq_false_iff, Bool.and_eq_false_iff, cond_true, cond_false, Bool.not_eq_eq_eq_not, Bool.not_true, Bool.not_false, decide_eq_true_eq, decide_eq_false_iff_not, Int.toNat_natCast, Nat.zero_add, Decidable.not_not, maxL, inn_iff] at *
  all_goals simp [doW, w16, *]
/-! ### fold -/
abbrev κF : MK := ⟨false, 1, .i64, .u16⟩
abbrev mpF (m : List (List Int × Int)) : ABlock := .map (.assoc κF m)
def ansW (m : List (List Int × Int)) (x : Ins) : Int × Bool :=
  match mlook m [x.a] with
  | none => (0, false)
  | some a => if pureO x.op = true then (if twoO x.op = true then (match mlook m [x.b] with | none => (0, false) | some b => doW x.op a b) else doW x.op a 0) else (0, false)
theorem _root_.Dv.TLe.ib {R : Dv.Rows} {k : IntKind} {n m : Int} {b c : Bool} (h1 : n = m) (h2 : b = c) : TLe R (.tup [.int k n, .bool b]) (.tup [.int k m, .bool c]) := by
  subst h1; subst h2; exact .eq rfl
theorem c_answer (m : List (List Int × Int)) (x : Ins) : HC Try.prog [i0] 88 [(i0, mpF m)] [.mp i0, .agg (encIns x)] (.tup [.int .u16 (ansW m x).1, .bool (ansW m x).2]) [(i0, mpF m)] := by
  refine HC_intro tok Try.func88 rfl (by decide +kernel) (Nat.le_of_ble_eq_true rfl) ?_
  (repeat' first | refine AWp_seq ?_ | (refine AWp_reg tok (by rfl) ?_; conv => whnf))
  refine .inl ⟨_, _, _, uG (QC.fc (c_Pure x.op) rfl), ?_⟩
  conv => whnf
  (repeat' first | refine AWp_seq ?_ | (refine AWp_reg tok (by rfl) ?_; conv => whnf) | (refine AWp_skip ?_; conv => whnf) | (refine AWp_ret ?_; conv => whnf) | refine AWp_cond rfl (fun hb => ?_) (fun hb => ?_))
  · refine ⟨_, [(i0, .old i0, mpF m)], rfl, rfl, rfl, rfl, .old rfl (BLe.refl _) .nil, TLe.ib ?_ ?_⟩
    all_goals
      unfold ansW
      cases h : mlook m [x.a] with
      | none => rfl
      | some a => simp [h] at hb; simp [hb]
  refine .inl ⟨_, _, _, uG (QC.fc (c_Two x.op) rfl), ?_⟩
  conv => whnf
  (repeat' first | refine AWp_seq ?_ | (refine AWp_reg tok (by rfl) ?_; conv => whnf) | (refine AWp_skip ?_; conv => whnf) | (refine AWp_ret ?_; conv => whnf) | refine AWp_cond rfl (fun hb => ?_) (fun hb => ?_))
  · refine ⟨_, [(i0, .old i0, mpF m)], rfl, rfl, rfl, rfl, .old rfl (BLe.refl _) .nil, TLe.ib ?_ ?_⟩
    all_goals
      rename_i hp ht
      unfold ansW
      cases h : mlook m [x.a] with
      | none => rfl
      | some a =>
        simp [h] at hp
        cases h2 : mlook m [x.b] with
        | none => simp [hp, ht]
        | some b => simp [h2] at hb
  · refine .inl ⟨_, _, _, uG (QC.fc (c_Do x.op _ _) rfl), ?_⟩
    conv => whnf
    (repeat' (refine AWp_ret ?_; conv => whnf))
    refine ⟨_, [(i0, .old i0, mpF m)], rfl, rfl, rfl, rfl, .old rfl (BLe.refl _) .nil, TLe.ib ?_ ?_⟩
    all_goals
      rename_i hp ht
      unfold ansW
      cases h : mlook m [x.a] with
      | none => simp [h] at hp
      | some a =>
        simp [h] at hp
        cases h2 : mlook m [x.b] with
        | none => simp [h2] at hb
        | some b => simp [hp, ht]
  · refine .inl ⟨_, _, _, uG (QC.fc (c_Do x.op _ _) rfl), ?_⟩
    conv => whnf
    (repeat' (refine AWp_ret ?_; conv => whnf))
    refine ⟨_, [(i0, .old i0, mpF m)], rfl, rfl, rfl, rfl, .old rfl (BLe.refl _) .nil, TLe.ib ?_ ?_⟩
    all_goals
      rename_i hp
      unfold ansW
      cases h : mlook m [x.a] with
      | none => simp [h] at hp
      | some a => simp [h] at hp; simp [hp, hb]
def noteW (m : List (List Int × Int)) (x : Ins) : List (List Int × Int) :=
  if x.op = 10 ∨ x.op = 12 then m else if x.op = 1 then mput m [x.dst] x.k else mdel m [x.dst]
theorem c_note (m : List (List Int × Int)) (x : Ins) : HC Try.prog [i0] 89 [(i0, mpF m)] [.mp i0, .agg (encIns x)] (.tup []) [(i0, mpF (noteW m x))] := by
  refine HC_intro tok Try.func89 rfl (by decide +kernel) (Nat.le_of_ble_eq_true rfl) ?_
  (repeat' first | refine AWp_seq ?_ | (refine AWp_reg tok (by rfl) ?_; conv => whnf) | refine AWp_block ?_ | (refine AWp_skip ?_; conv => whnf) | refine AWp_cond rfl (fun hb => ?_) (fun hb => ?_))
  all_goals simp only [underG, true_and, and_true, Bool.cond_true_left, Bool.cond_false_left, Bool.cond_true_right, Bool.cond_false_right, Bool.or_eq_true, Bool.and_eq_true, Bool.or_eq_false_iff, Bool.and_eq_false_iff, cond_true, cond_false, Bool.not_eq_eq_eq_not, Bool.not_true, Bool.not_false, decide_eq_true_eq, decide_eq_false_iff_not, Int.toNat_natCast, Nat.zero_add, Decidable.not_not, maxL, inn_iff] at *
  all_goals first | (exfalso; omega; done) | skip
  · rw [show noteW m x = m by simp [noteW, *]]
    exact ⟨_, [(i0, .old i0, mpF m)], rfl, rfl, rfl, rfl, .old rfl (BLe.refl _) .nil, .eq rfl⟩
  · rw [show noteW m x = m by simp [noteW, *]]
    exact ⟨_, [(i0, .old i0, mpF m)], rfl, rfl, rfl, rfl, .old rfl (BLe.refl _) .nil, .eq rfl⟩
  · rw [show noteW m x = mput m [x.dst] x.k by simp [noteW, *]]
    exact ⟨_, [(i0, .old i0, mpF (mput m [x.dst] x.k))], rfl, rfl, rfl, rfl, .old rfl (BLe.refl _) .nil, .eq rfl⟩
  · rw [show noteW m x = mdel m [x.dst] by simp [noteW, *]]
    exact ⟨_, [(i0, .old i0, mpF (mdel m [x.dst]))], rfl, rfl, rfl, rfl, .old rfl (BLe.refl _) .nil, .eq rfl⟩
def foldY (m : List (List Int × Int)) (x : Ins) : Ins := if (ansW m x).2 = true then ⟨1, x.dst, 0, 0, (ansW m x).1, 0, []⟩ else x
def foldIns : List (List Int × Int) → List Ins → List Ins × List (List Int × Int)
  | m, [] => ([], m)
  | m, x :: r => (foldY m x :: (foldIns (noteW m (foldY m x)) r).1, (foldIns (noteW m (foldY m x)) r).2)
theorem foldIns_snoc : ∀ (l : List Ins) (m : List (List Int × Int)) (x : Ins), foldIns m (l ++ [x]) = ((foldIns m l).1 ++ [foldY (foldIns m l).2 x], noteW (foldIns m l).2 (foldY (foldIns m l).2 x))
  | [], m, x => rfl
  | y :: r, m, x => by
      simp only [List.cons_append, foldIns]
      rw [foldIns_snoc r _ x]
theorem foldIns_len : ∀ (l : List Ins) (m : List (List Int × Int)), (foldIns m l).1.length = l.length
  | [], _ => rfl
  | _ :: r, m => by simp [foldIns, foldIns_len r]
def foldEnd (m : List (List Int × Int)) (e : End) : End := match mlook m [e.a] with
  | none => e
  | some v => if e.kind = 3 then ⟨2, 0, 0, 0, [], if v = 0 then e.els else e.to, 0, 0⟩ else e
def foldBlock (b : Block) : Block := { b with ins := (foldIns [] b.ins).1, fin := foldEnd (foldIns [] b.ins).2 b.fin }
def mapAt (l : List Ins) (i : Nat) : List (List Int × Int) := (foldIns [] (l.take i)).2
def foldAt (l : List Ins) (i : Nat) : List Ins := (foldIns [] (l.take i)).1 ++ l.drop i
theorem foldAt_len (l : List Ins) (i : Nat) : (foldAt l i).length = l.length := by
  simp only [foldAt, List.length_append, foldIns_len, List.length_take, List.length_drop]; omega
theorem foldAt_get {l : List Ins} {i : Nat} (h : i < l.length) : (foldAt l i).getD i default = l.getD i default := by
  unfold foldAt
  rw [getD_append, foldIns_len, List.length_take, if_neg (by omega)]
  have : i - min i l.length = 0 := by omega
  rw [this, drop_getD default h]; rfl
theorem mapAt_succ {l : List Ins} {i : Nat} (h : i < l.length) : mapAt l (i + 1) = noteW (mapAt l i) (foldY (mapAt l i) (l.getD i default)) := by
  unfold mapAt; rw [take_succ_getD default h, foldIns_snoc]
theorem foldAt_succ {l : List Ins} {i : Nat} (h : i < l.length) : foldAt l (i + 1) = (foldAt l i).set i (foldY (mapAt l i) (l.getD i default)) := by
  unfold foldAt mapAt
  rw [take_succ_getD default h, foldIns_snoc]
  have hl : (foldIns [] (l.take i)).1.length = i := by rw [foldIns_len, List.length_take]; omega
  rw [List.set_append_right _ _ (by omega), hl, Nat.sub_self, drop_getD default h]
  simp
theorem upd_rowW {α : Type} (e : α → List AV) (d : α) (r : List α) {k k' : Nat} {v : α} {c : List AV} (hk : k' < r.length) (ek : k = k') (hc : Wks c (e v)) (x : Nat) : Wks (updR (fun x => e (r.getD x d)) k c x) (e ((r.set k' v).getD x d)) := by
  subst ek
  unfold updR
  rw [getD_set]
  cases h : Nat.beq k x with
  | true => have := Nat.eq_of_beq_eq_true h; rw [if_pos ⟨this, hk⟩]; exact hc
  | false =>
    have : k ≠ x := fun e' => by subst e'; simp at h
    rw [if_neg (fun h => this h.1)]; exact Wks.refl _
abbrev insRow (l : List Ins) (n : Nat) : ABlock := .row true 7 n (fun x => encIns (l.getD x default))
abbrev blkCells (b : Block) (ins : AV) (e : End) : List AV := [.bool b.landing, iv b.pad.dst, u16s b.pad.catch_, .bool b.pad.all, .bool b.pad.cleanup, ins] ++ encEnd e
theorem c_Block (b : Block) : FC Try.prog 50 [.agg (encBlock b)] (.agg (encBlock (foldBlock b))) := by
  refine FC_intro tok Try.func50 rfl (by decide +kernel) (Nat.le_of_ble_eq_true rfl) ?_
  refine AWp_facts 0 (fun hl => ?_)
  have hl0 : b.ins.length ≤ maxL := hl.2.2.2.2.2.1.1
  (repeat' first | refine AWp_seq ?_ | (refine AWp_reg tok (by rfl) ?_; conv => whnf))
  refine .inl ⟨_, _, _, uG (QC.fo (rd := []) (c_CloneIns b.ins) (.cons (.imm rfl) .nil) (.inl rfl) rfl), ?_⟩
  conv => whnf
  (repeat' first | refine AWp_seq ?_ | (refine AWp_reg tok (by rfl) ?_; conv => whnf) | refine AWp_block ?_)
  generalize hl : b.ins = l at hl0
  refine AWp_loop (fun i : Nat => mkS [(1, .bp (1, 0, 0) 0), (2, .bp (2, 0, 0) 0), (3, .mp (11, 0, 0)), (18, iv l.length), (19, iv i)]
      [((1, 0, 0), .row false 14 1 (fun _ => blkCells b (.rs (14, 0, 0) 7 0 l.length) b.fin)), ((2, 0, 0), .row true 14 1 (fun _ => encBlock default)), ((11, 0, 0), mpF (mapAt l i)), ((14, 0, 0), insRow (foldAt l i) l.length)])
    (fun i => i ≤ l.length) (fun i => l.length - i) 0 (Nat.zero_le _) ?_ ?_
  · refine Weak.list [((1, 0, 0), .old (1, 0, 0), .row false 14 1 (fun _ => blkCells b (.rs (14, 0, 0) 7 0 l.length) b.fin)), ((2, 0, 0), .old (2, 0, 0), .row true 14 1 (fun _ => encBlock default)), ((11, 0, 0), .old (11, 0, 0), mpF (mapAt l 0)), ((14, 0, 0), .old (14, 0, 0), insRow (foldAt l 0) l.length)] rfl (by rfl) ?_ ?_
    · ((repeat' first | exact TLes.nil | refine TLes.cons (TLe.eq rfl) ?_); skip)
    · refine .old rfl (BLe.rowW (Nat.le_refl _) (fun x hx => ?_)) (.old rfl (BLe.rowW (Nat.le_refl _) (fun x hx => ?_)) (.old rfl (BLe.refl _) (.old rfl (BLe.row rfl (fun x hx => ?_)) .nil)))
      · match x, hx with
        | 0, _ => (repeat' ((conv => arg 1; whnf); (conv => arg 2; whnf); first | refine Wks.cons .refl ?_ | exact Wks.nil))
      · match x, hx with
        | 0, _ => (repeat' ((conv => arg 1; whnf); (conv => arg 2; whnf); first | refine Wks.cons .refl ?_ | refine Wks.cons (.nsl rfl) ?_ | exact Wks.nil))
      · rw [show foldAt l 0 = l by simp [foldAt, foldIns]]; rfl
  intro i hi
  have hfl := foldAt_len l i
  ((repeat' first | refine AWp_seq ?_ | (refine AWp_reg tok (by rfl) ?_; conv => whnf) | refine AWp_block ?_ | (refine AWp_skip ?_; conv => whnf) | (refine AWp_exit ?_; conv => whnf) | (refine AWp_ret ?_; conv => whnf) | refine AWp_cond rfl (fun hb => ?_) (fun hb => ?_) | (refine @And.intro (underG _ _ _ _) _ ?_ ?_; rotate_left; (conv => whnf); rotate_right)); all_goals (try ((guard_target = underG _ _ _ _); refine underG_none ?_; (all_goals (try simp only [underG, true_and, and_true, Bool.cond_true_left, Bool.cond_false_left, Bool.cond_true_right, Bool.cond_false_right, Bool.or_eq_true, Bool.and_eq_true, Bool.or_eq_false_iff, Bool.and_eq_false_iff, cond_true, cond_false, Bool.not_eq_eq_eq_not, Bool.not_true, Bool.not_false, decide_eq_true_eq, decide_eq_false_iff_not, Int.toNat_natCast, Nat.zero_add, Decidable.not_not, maxL, inn_iff] at *)); all_goals omega)))
  · have hlt : i < l.length := by simp only [underG, true_and, and_true, Bool.cond_true_left, Bool.cond_false_left, Bool.cond_true_right, Bool.cond_false_right, Bool.or_eq_true, Bool.and_eq_true, Bool.or_eq_false_iff, Bool.and_eq_false_iff, cond_true, cond_false, Bool.not_eq_eq_eq_not, Bool.not_true, Bool.not_false, decide_eq_true_eq, decide_eq_false_iff_not, Int.toNat_natCast, Nat.zero_add, Decidable.not_not, maxL, inn_iff] at *; omega
    have hget := foldAt_get hlt
    have hget' : (foldAt l i).getD (0 + (i : Int).toNat) default = l.getD i default := by simpa using hget
    have hcall : ∀ y, y = l.getD i default → HC Try.prog [i0] 88 [(i0, mpF (mapAt l i))] [.mp i0, .agg (encIns y)] (.tup [.int .u16 (ansW (mapAt l i) (l.getD i default)).1, .bool (ansW (mapAt l i) (l.getD i default)).2]) [(i0, mpF (mapAt l i))] := fun y e => e ▸ c_answer _ _
    refine .inr ⟨_, _, _, uG (QH.of (dead := []) [(i0, .old (11, 0, 0), mpF (mapAt l i))] (hcall ((foldAt l i).getD (0 + (i : Int).toNat) default) (by simpa using hget)) rfl (.old rfl (BLe.refl _) .nil) (.cons (.eq rfl) (.cons (.eq rfl) .nil)) [(i0, (11, 0, 0))] rfl (.cons rfl (BLe.refl _) .nil) rfl), ?_⟩
    conv => whnf
    (repeat' first | refine AWp_seq ?_ | (refine AWp_reg tok (by rfl) ?_; conv => whnf))
    refine AWp_meet (fun _ : Unit => mkS [(1, .bp (1, 0, 0) 0), (2, .bp (2, 0, 0) 0), (3, .mp (11, 0, 0)), (5, .rp (14, 0, 0) 7 (0 + (i : Int).toNat) 0), (18, iv l.length), (19, iv i)]
      [((1, 0, 0), .row false 14 1 (fun _ => blkCells b (.rs (14, 0, 0) 7 0 l.length) b.fin)), ((2, 0, 0), .row true 14 1 (fun _ => encBlock default)), ((11, 0, 0), mpF (mapAt l i)), ((14, 0, 0), insRow (foldAt l (i + 1)) l.length)]) (fun _ => True) ?_ ?_
    · ((repeat' first | (refine AWp_reg tok (by rfl) ?_; conv => whnf) | (refine AWp_skip ?_; conv => whnf) | refine AWp_cond rfl (fun hb => ?_) (fun hb => ?_) | (refine @And.intro (underG _ _ _ _) _ ?_ ?_; rotate_left; (conv => whnf); rotate_right)); all_goals (try ((guard_target = underG _ _ _ _); refine underG_none ?_; (all_goals (try simp only [underG, true_and, and_true, Bool.cond_true_left, Bool.cond_false_left, Bool.cond_true_right, Bool.cond_false_right, Bool.or_eq_true, Bool.and_eq_true, Bool.or_eq_false_iff, Bool.and_eq_false_iff, cond_true, cond_false, Bool.not_eq_eq_eq_not, Bool.not_true, Bool.not_false, decide_eq_true_eq, decide_eq_false_iff_not, Int.toNat_natCast, Nat.zero_add, Decidable.not_not, maxL, inn_iff] at *)); all_goals omega)))
      all_goals
        refine ⟨(), trivial, Weak.list [((1, 0, 0), .old (1, 0, 0), .row false 14 1 (fun _ => blkCells b (.rs (14, 0, 0) 7 0 l.length) b.fin)), ((2, 0, 0), .old (2, 0, 0), .row true 14 1 (fun _ => encBlock default)), ((11, 0, 0), .old (11, 0, 0), mpF (mapAt l i)), ((14, 0, 0), .old (14, 0, 0), insRow (foldAt l (i + 1)) l.length)] rfl (by rfl) ?_ ?_⟩
      · ((repeat' first | exact TLes.nil | refine TLes.cons (TLe.eq rfl) ?_); skip)
      · refine .old rfl (BLe.refl _) (.old rfl (BLe.refl _) (.old rfl (BLe.refl _) (.old rfl (BLe.rowW (Nat.le_refl _) (fun x hx => ?_)) .nil)))
        rw [foldAt_succ hlt]
        refine upd_rowW encIns default (foldAt l i) (by omega) (by simp) ?_ x
        rw [show foldY (mapAt l i) (l.getD i default) = _ from if_pos hb, hget']
        (repeat' ((conv => arg 1; whnf); (conv => arg 2; whnf); first | refine Wks.cons .refl ?_ | refine Wks.cons (.nsl rfl) ?_ | exact Wks.nil))
      · ((repeat' first | exact TLes.nil | refine TLes.cons (TLe.eq rfl) ?_); skip)
      · refine .old rfl (BLe.refl _) (.old rfl (BLe.refl _) (.old rfl (BLe.refl _) (.old rfl (BLe.rowW (Nat.le_refl _) (fun x hx => ?_)) .nil)))
        rw [foldAt_succ hlt, show foldY (mapAt l i) (l.getD i default) = _ from if_neg (by rw [hb]; simp)]
        refine Wks.of ?_
        show encIns ((foldAt l i).getD x default) = _
        rw [← hget, getD_set]
        split
        · rename_i h; rw [h.1]
        · rfl
    rintro _ _ τ hτ
    refine AWp_weak hτ ?_
    have hnote : ∀ y, y = (foldAt l (i + 1)).getD (0 + (i : Int).toNat) default → HC Try.prog [i0] 89 [(i0, mpF (mapAt l i))] [.mp i0, .agg (encIns y)] (.tup []) [(i0, mpF (mapAt l (i + 1)))] := fun y e => by
      have h := c_note (mapAt l i) y
      rw [show noteW (mapAt l i) y = mapAt l (i + 1) by rw [mapAt_succ hlt, e, show 0 + (i : Int).toNat = i by simp, foldAt_succ hlt, getD_set]; simp [hfl, hlt]] at h
      exact h
    conv => whnf
    refine AWp_reg tok (by rfl) ?_; conv => whnf
    refine @And.intro (underG _ _ _ _) _ ?_ ?_; rotate_left; (conv => whnf); rotate_right
    · ((guard_target = underG _ _ _ _); refine underG_none ?_; (all_goals (try simp only [underG, true_and, and_true, Bool.cond_true_left, Bool.cond_false_left, Bool.cond_true_right, Bool.cond_false_right, Bool.or_eq_true, Bool.and_eq_true, Bool.or_eq_false_iff, Bool.and_eq_false_iff, cond_true, cond_false, Bool.not_eq_eq_eq_not, Bool.not_true, Bool.not_false, decide_eq_true_eq, decide_eq_false_iff_not, Int.toNat_natCast, Nat.zero_add, Decidable.not_not, maxL, inn_iff] at *)); all_goals omega)
    refine .inr ⟨_, _, _, uG (QH.of (dead := []) [(i0, .old (11, 0, 0), mpF (mapAt l i))] (hnote _ rfl) rfl (.old rfl (BLe.refl _) .nil) (.cons (.eq rfl) (.cons (.eq rfl) .nil)) [(i0, (11, 0, 0))] rfl (.cons rfl (BLe.refl _) .nil) rfl), ?_⟩
    conv => whnf
    (repeat' (refine AWp_reg tok (by rfl) ?_; conv => whnf))
    refine ⟨i + 1, hlt, by omega, Weak.list [((1, 0, 0), .old (1, 0, 0), .row false 14 1 (fun _ => blkCells b (.rs (14, 0, 0) 7 0 l.length) b.fin)), ((2, 0, 0), .old (2, 0, 0), .row true 14 1 (fun _ => encBlock default)), ((11, 0, 0), .old (11, 0, 0), mpF (mapAt l (i + 1))), ((14, 0, 0), .old (14, 0, 0), insRow (foldAt l (i + 1)) l.length)] rfl (by rfl) ?_ ?_⟩
    · ((repeat' first | exact TLes.nil | refine TLes.cons (TLe.eq rfl) ?_ | refine TLes.cons (TLe.int ?_) ?_); (all_goals first | ((try (simp only [underG, true_and, and_true, Bool.cond_true_left, Bool.cond_false_left, Bool.cond_true_right, Bool.cond_false_right, Bool.or_eq_true, Bool.and_eq_true, Bool.or_eq_false_iff, Bool.and_eq_false_iff, cond_true, cond_false, Bool.not_eq_eq_eq_not, Bool.not_true, Bool.not_false, decide_eq_true_eq, decide_eq_false_iff_not, Int.toNat_natCast, Nat.zero_add, Decidable.not_not, maxL, inn_iff] at *)); exact wrap64 (by omega) (by omega)) | skip))
    · exact .old rfl (BLe.refl _) (.old rfl (BLe.refl _) (.old rfl (BLe.refl _) (.old rfl (BLe.refl _) .nil)))
  all_goals
    have hil : i = l.length := by simp only [underG, true_and, and_true, Bool.cond_true_left, Bool.cond_false_left, Bool.cond_true_right, Bool.cond_false_right, Bool.or_eq_true, Bool.and_eq_true, Bool.or_eq_false_iff, Bool.and_eq_false_iff, cond_true, cond_false, Bool.not_eq_eq_eq_not, Bool.not_true, Bool.not_false, decide_eq_true_eq, decide_eq_false_iff_not, Int.toNat_natCast, Nat.zero_add, Decidable.not_not, maxL, inn_iff] at *; omega
    subst hil
    have hm : mapAt b.ins b.ins.length = (foldIns [] b.ins).2 := by simp [mapAt]
    have hf : foldAt b.ins b.ins.length = (foldIns [] b.ins).1 := by simp [foldAt]
    subst hl
  · rename_i hb0
    have hfin : (foldBlock b).fin = ⟨2, 0, 0, 0, [], b.fin.to, 0, 0⟩ := by
      show foldEnd (foldIns [] b.ins).2 b.fin = _
      rw [← hm]; unfold foldEnd
      cases h : mlook (mapAt b.ins b.ins.length) [b.fin.a] with
      | none => simp [h] at hb0
      | some v => simp [h] at hb0 hb ⊢; simp [*]
    refine ⟨_, rfl, Rel.agg (.cons (Rel.imm rfl) (.cons (Rel.imm rfl) (.cons (Rel.imm rfl) (.cons (Rel.imm rfl) (.cons (Rel.imm rfl) (.cons (Rel.row rfl rfl (by simp [foldBlock, foldIns_len]) (fun x _ => ?_)) ?_))))))⟩
    · show encIns ((foldAt b.ins b.ins.length).getD x default) = encIns ((foldIns [] b.ins).1.getD x default)
      rw [hf]
    · rw [hfin]
      exact .cons (Rel.imm rfl) (.cons (Rel.imm rfl) (.cons (Rel.imm rfl) (.cons (Rel.imm rfl) (.cons (Rel.nsl' rfl) (.cons (Rel.imm rfl) (.cons (Rel.imm rfl) (.cons (Rel.imm rfl) .nil)))))))
  · rename_i hb0
    have hfin : (foldBlock b).fin = ⟨2, 0, 0, 0, [], b.fin.els, 0, 0⟩ := by
      show foldEnd (foldIns [] b.ins).2 b.fin = _
      rw [← hm]; unfold foldEnd
      cases h : mlook (mapAt b.ins b.ins.length) [b.fin.a] with
      | none => simp [h] at hb0
      | some v => simp [h] at hb0 hb ⊢; simp [*]
    refine ⟨_, rfl, Rel.agg (.cons (Rel.imm rfl) (.cons (Rel.imm rfl) (.cons (Rel.imm rfl) (.cons (Rel.imm rfl) (.cons (Rel.imm rfl) (.cons (Rel.row rfl rfl (by simp [foldBlock, foldIns_len]) (fun x _ => ?_)) ?_))))))⟩
    · show encIns ((foldAt b.ins b.ins.length).getD x default) = encIns ((foldIns [] b.ins).1.getD x default)
      rw [hf]
    · rw [hfin]
      exact .cons (Rel.imm rfl) (.cons (Rel.imm rfl) (.cons (Rel.imm rfl) (.cons (Rel.imm rfl) (.cons (Rel.nsl' rfl) (.cons (Rel.imm rfl) (.cons (Rel.imm rfl) (.cons (Rel.imm rfl) .nil)))))))
  · have hfin : (foldBlock b).fin = b.fin := by
      show foldEnd (foldIns [] b.ins).2 b.fin = _
      rw [← hm]; unfold foldEnd
      cases h : mlook (mapAt b.ins b.ins.length) [b.fin.a] with
      | none => rfl
      | some v => simp [h] at hb ⊢; simp [*]
    refine ⟨_, rfl, Rel.agg (.cons (Rel.imm rfl) (.cons (Rel.imm rfl) (.cons (Rel.imm rfl) (.cons (Rel.imm rfl) (.cons (Rel.imm rfl) (.cons (Rel.row rfl rfl (by simp [foldBlock, foldIns_len]) (fun x _ => ?_)) ?_))))))⟩
    · show encIns ((foldAt b.ins b.ins.length).getD x default) = encIns ((foldIns [] b.ins).1.getD x default)
      rw [hf]
    · rw [hfin]
      exact .cons (Rel.imm rfl) (.cons (Rel.imm rfl) (.cons (Rel.imm rfl) (.cons (Rel.imm rfl) (.cons (Rel.imm rfl) (.cons (Rel.imm rfl) (.cons (Rel.imm rfl) (.cons (Rel.imm rfl) .nil)))))))
end Go.Proofs.Ytmanpbgaihdalaa
namespace Go.Proofs.Ytmanpbgaihdalaa
open Go Dv
set_option maxRecDepth 10000
set_option linter.unusedSimpArgs false
structure Deed where
  op : Int
  a : Int
  b : Int
deriving DecidableEq, Inhabited
def Deed.l (d : Deed) : List Int := [d.op, d.a, d.b]
def ofD (x : Ins) : Deed := if turnsO x.op = true ∧ x.b < x.a then ⟨x.op, x.b, x.a⟩ else ⟨x.op, x.a, x.b⟩
theorem c_of (x : Ins) : FC Try.prog 77 [.agg (encIns x)] (.tup [.agg [iv (ofD x).op, iv (ofD x).a, iv (ofD x).b], .bool (twoO x.op)]) := by
  refine FC_intro tok Try.func77 rfl (by decide +kernel) (Nat.le_of_ble_eq_true rfl) ?_
  (repeat' first | refine AWp_seq ?_ | (refine AWp_reg tok (by rfl) ?_; conv => whnf))
  refine .inl ⟨_, _, _, uG (QC.fc (c_Turns x.op) rfl), ?_⟩
  conv => whnf
  (repeat' first | refine AWp_seq ?_ | (refine AWp_reg tok (by rfl) ?_; conv => whnf) | (refine AWp_any tok mix (by rfl) ?_; conv => whnf) | (refine AWp_skip ?_; conv => whnf) | refine AWp_cond rfl (fun hb => ?_) (fun hb => ?_))
  · refine .inl ⟨_, _, _, uG (QC.fc (c_Two x.op) rfl), ?_⟩
    conv => whnf
    (repeat' (refine AWp_ret ?_; conv => whnf))
    have ho : ofD x = ⟨x.op, x.b, x.a⟩ := if_pos (by simp only [underG, true_and, and_true, Bool.cond_true_left, Bool.cond_false_left, Bool.cond_true_right, Bool.cond_false_right, Bool.or_eq_true, Bool.and_eq_true, Bool.or_eq_false_iff, Bool.and_eq_false_iff, cond_true, cond_false, Bool.not_eq_eq_eq_not, Bool.not_true, Bool.not_false, decide_eq_true_eq, decide_eq_false_iff_not, Int.toNat_natCast, Nat.zero_add, Decidable.not_not, maxL, inn_iff] at *; exact hb)
    rw [ho]
    exact ⟨_, rfl, Rel.tup (.cons (Rel.agg (.cons (Rel.imm rfl) (.cons (Rel.imm rfl) (.cons (Rel.imm rfl) .nil)))) (.cons (Rel.imm rfl) .nil))⟩
  · refine .inl ⟨_, _, _, uG (QC.fc (c_Two x.op) rfl), ?_⟩
    conv => whnf
    (repeat' (refine AWp_ret ?_; conv => whnf))
    have ho : ofD x = ⟨x.op, x.a, x.b⟩ := if_neg (by intro h; rw [h.1] at hb; simp at hb; omega)
    rw [ho]
    exact ⟨_, rfl, Rel.tup (.cons (Rel.agg (.cons (Rel.imm rfl) (.cons (Rel.imm rfl) (.cons (Rel.imm rfl) .nil)))) (.cons (Rel.imm rfl) .nil))⟩
abbrev κS : MK := ⟨true, 3, .i64, .i64⟩
abbrev mpS (m : List (List Int × Int)) : ABlock := .map (.assoc κS m)
def hit (p : Int) (q : List Int × Int) : Bool := decide (q.1.getD 1 0 = p) || decide (q.1.getD 2 0 = p) || decide (q.2 = p)
def forgetM (m : List (List Int × Int)) (p : Int) : List (List Int × Int) := m.filter fun q => !hit p q
theorem mdel_filter (k : List Int) : ∀ {m : List (List Int × Int)}, (m.map (·.1)).Nodup → mdel m k = m.filter fun q => !decide (q.1 = k)
  | [], _ => rfl
  | (k', v') :: r, h => by
      simp only [List.map_cons, List.nodup_cons] at h
      simp only [mdel]
      split
      · rename_i e; subst e
        rw [List.filter_cons_of_neg (by simp)]
        symm
        refine List.filter_eq_self.2 (fun q hq => ?_)
        simp only [Bool.not_eq_true', decide_eq_false_iff_not]
        intro e; exact h.1 (e ▸ List.mem_map.2 ⟨q, hq, rfl⟩)
      · rename_i e
        rw [List.filter_cons_of_pos (by simpa using e), mdel_filter k h.2]
theorem mem_key {m : List (List Int × Int)} (h : (m.map (·.1)).Nodup) {k : List Int} {v v' : Int} (h1 : (k, v) ∈ m) (h2 : (k, v') ∈ m) : v = v' := by
  induction m with
  | nil => cases h1
  | cons q r ih =>
    simp only [List.map_cons, List.nodup_cons] at h
    rcases List.mem_cons.1 h1 with e1 | e1 <;> rcases List.mem_cons.1 h2 with e2 | e2
    · subst e1; cases e2; rfl
    · subst e1; exact absurd (List.mem_map.2 ⟨_, e2, rfl⟩) h.1
    · subst e2; exact absurd (List.mem_map.2 ⟨_, e1, rfl⟩) h.1
    · exact ih h.2 e1 e2
theorem forget_del {m : List (List Int × Int)} (h : (m.map (·.1)).Nodup) {k : List Int} {v p : Int} (h1 : (k, v) ∈ m) (hh : hit p (k, v) = true) : forgetM (mdel m k) p = forgetM m p := by
  unfold forgetM
  rw [mdel_filter k h, List.filter_filter]
  refine List.filter_congr (fun q hq => ?_)
  by_cases e : q.1 = k
  · obtain ⟨qk, qv⟩ := q
    simp only at e; subst e
    have := mem_key h hq h1; subst this
    simp [hh]
  · simp [e]
structure FInv (m : List (List Int × Int)) (p : Int) (clock : Nat) (es : Array MapEntry) (seen : Array Nat) (m' : List (List Int × Int)) : Prop where
  ok : MOk κS m' es clock
  same : forgetM m' p = forgetM m p
  past : ∀ e ∈ es.toList, seen.contains e.born = true → ∀ k v, (k, v) ∈ m' → e.key = keyV κS k → hit p (k, v) = false
theorem FInv.done {m : List (List Int × Int)} {p : Int} {clock : Nat} {es : Array MapEntry} {seen : Array Nat} {m' : List (List Int × Int)} (h : FInv m p clock es seen m') (h0 : (leftOf es seen).size = 0) : MOk κS (forgetM m p) es clock := by
  rw [← h.same]
  have : forgetM m' p = m' := List.filter_eq_self.2 (fun q hq => by
    have h1 : (keyV κS q.1, Value.int .i64 q.2) ∈ m'.map (fun p => (keyV κS p.1, Value.int κS.vk p.2)) := List.mem_map.2 ⟨q, hq, rfl⟩
    rw [← h.ok.kv] at h1
    obtain ⟨e, he, h2⟩ := List.mem_map.1 h1
    have h3 := Prod.mk.inj h2
    rw [h.past e he (all_seen es seen h0 e he) q.1 q.2 hq h3.1]; rfl)
  rw [this]; exact h.ok
theorem FInv.miss {m : List (List Int × Int)} {p : Int} {clock : Nat} {es : Array MapEntry} {seen : Array Nat} {m' : List (List Int × Int)} (h : FInv m p clock es seen m') {e : MapEntry} (he : e ∈ es.toList) {k : List Int} {v : Int} (hm : (k, v) ∈ m') (hk : e.key = keyV κS k)
    (hh : hit p (k, v) = false) : FInv m p clock es (seen.push e.born) m' := by
  refine ⟨h.ok, h.same, fun x hx hs k' v' hm' hk' => ?_⟩
  rw [contains_push] at hs
  cases h1 : seen.contains x.born with
  | true => exact h.past x hx h1 k' v' hm' hk'
  | false =>
    rw [h1] at hs
    have hb : x.born = e.born := by simpa using hs
    have hxe := born_inj h.ok.born hx he hb
    subst hxe
    have := keyV_inj (κ := κS) (by simp) (h.ok.ok _ hm').1 (h.ok.ok _ hm).1 (hk'.symm.trans hk)
    subst this
    have := mem_key h.ok.nodup hm' hm
    subst this
    exact hh
theorem FInv.struck {m : List (List Int × Int)} {p : Int} {clock : Nat} {es es' : Array MapEntry} {seen : Array Nat} {m' : List (List Int × Int)} (h : FInv m p clock es seen m') {e : MapEntry} (he : e ∈ es.toList) {k : List Int} {v : Int} (hm : (k, v) ∈ m') (hk : e.key = keyV κS k)
    (hh : hit p (k, v) = true) (hM : MOk κS (mdel m' k) es' clock) (hs : es'.toList.Sublist es.toList) : FInv m p clock es' (seen.push e.born) (mdel m' k) := by
  refine ⟨hM, by rw [forget_del h.ok.nodup hm hh]; exact h.same, fun x hx hc k' v' hm' hk' => ?_⟩
  rw [mdel_filter k h.ok.nodup, List.mem_filter] at hm'
  have hx' := hs.subset hx
  rw [contains_push] at hc
  cases h1 : seen.contains x.born with
  | true => exact h.past x hx' h1 k' v' hm'.1 hk'
  | false =>
    rw [h1] at hc
    have hb : x.born = e.born := by simpa using hc
    have hxe := born_inj h.ok.born hx' he hb
    subst hxe
    have := keyV_inj (κ := κS) (by simp) (h.ok.ok _ hm'.1).1 (h.ok.ok _ hm).1 (hk'.symm.trans hk)
    subst this
    simp at hm'
theorem left_sub {es es' : Array MapEntry} {seen : Array Nat} (hs : es'.toList.Sublist es.toList) : (leftOf es' seen).size ≤ (leftOf es seen).size := by
  have e1 : ∀ a : Array MapEntry, (leftOf a seen).size = (a.toList.filter fun e => !seen.contains e.born).length := fun a => by
    unfold leftOf
    rw [← Array.toList_filter, Array.length_toList]
  rw [e1, e1]
  exact (hs.filter _).length_le
theorem key3 {k : List Int} (h : KeyOk κS k) : ∃ a b c, k = [a, b, c] := by
  have := h.1
  match k, this with
  | [a, b, c], _ => exact ⟨a, b, c, rfl⟩
theorem c_forget (m : List (List Int × Int)) (p : Int) : HC Try.prog [i0] 78 [(i0, mpS m)] [.mp i0, iv p] (.tup []) [(i0, mpS (forgetM m p))] := by
  refine HC_intro tok Try.func78 rfl (by decide +kernel) (Nat.le_of_ble_eq_true rfl) ?_
  refine AWp_open 0 i0 rfl rfl (fun es clock hM => ?_)
  (repeat' ((fail_if_success (show AWp _ _ _ (Code.region 0 _ _) _ _)); refine AWp_seq ?_))
  refine AWp_hand1 tok rfl (by rfl) rfl rfl ?_
  conv => whnf
  intro X ι a w s
  refine ⟨⟨_, _, []⟩, range_ok (t := 81) tok s rfl rfl rfl rfl rfl, rfl, ?_⟩
  clear s
  conv => whnf
  (repeat' refine AWp_block ?_)
  refine AWp_loop (fun q : Array MapEntry × Array Nat × List (List Int × Int) => mkS [(0, .mp i0), (1, iv p), (7, .bp (7, 0, 0) 0)] [(i0, .map (.exact q.1 clock)), ((7, 0, 0), .map (.itr i0 clock q.2.1 clock))])
    (fun q => FInv m p clock q.1 q.2.1 q.2.2) (fun q => (leftOf q.1 q.2.1).size) (es, #[], m) ⟨hM, rfl, fun e _ h => by simp at h⟩ ?_ ?_
  · refine Weak.list [(i0, .old i0, .map (.exact es clock)), ((7, 0, 0), .old (7, 0, 0), .map (.itr i0 clock #[] clock))] rfl (by rfl) ?_ (.old rfl (BLe.refl _) (.old rfl (BLe.refl _) .nil))
    ((repeat' first | exact TLes.nil | refine TLes.cons (TLe.eq rfl) ?_); skip)
  clear X ι a w hM es
  rintro ⟨es, seen, m'⟩ hI
  simp only at hI ⊢
  refine AWp_seq (AWp_next tok 81 (7, 0, 0) i0 es clock seen m' κS rfl (by rfl) rfl rfl rfl rfl rfl rfl rfl hI.ok (fun h0 => ⟨rfl, ?_⟩) (fun e he hem k v hm hk hv => ⟨rfl, ?_⟩))
  · conv => whnf
    (repeat' first | refine AWp_seq ?_ | (refine AWp_reg tok (by rfl) ?_; conv => whnf) | refine AWp_block ?_ | (refine AWp_skip ?_; conv => whnf) | (refine AWp_exit ?_; conv => whnf) | refine AWp_cond rfl (fun hb => ?_) (fun hb => ?_))
    · cases hb
    exact ⟨_, [(i0, .old i0, mpS (forgetM m p))], rfl, rfl, rfl, rfl, .old rfl (BLe.shut (hI.done h0)) .nil, .eq rfl⟩
  · obtain ⟨k0, k1, k2, rfl⟩ := key3 (hI.ok.ok _ hm).1
    conv => whnf
    (repeat' ((fail_if_success (show AWp _ _ _ (Code.region 2 _ _) _ _)); first | refine AWp_seq ?_ | refine AWp_block ?_ | (refine AWp_skip ?_; conv => whnf) | (refine AWp_exit ?_; conv => whnf) | refine AWp_cond rfl (fun hb => ?_) (fun hb => ?_)))
    · refine AWp_entry tok 81 (7, 0, 0) i0 es clock seen m' κS (ent := e) (k := [k0, k1, k2]) (v := v) rfl (by rfl) rfl rfl rfl rfl rfl rfl rfl hI.ok hem hm hk hv ⟨rfl, ?_⟩
      conv => whnf
      (repeat' ((fail_if_success (show AWp _ _ _ (Code.region 4 _ _) _ _)); first | refine AWp_seq ?_ | (refine AWp_reg tok (by rfl) ?_; conv => whnf) | (refine AWp_skip ?_; conv => whnf) | refine AWp_cond rfl (fun hb => ?_) (fun hb => ?_)))
      · refine AWp_hand2 tok rfl (by rfl) rfl rfl ?_
        conv => whnf
        intro X ι a w s
        refine del_ex tok s 81 i0 es clock m' κS [k0, k1, k2] rfl rfl rfl rfl rfl rfl rfl rfl hI.ok (fun es' hM' hsub => ⟨rfl, ?_⟩)
        clear s
        conv => whnf
        skip
        refine ⟨(es', seen.push e.born, mdel m' [k0, k1, k2]), hI.struck hem hm hk ?_ hM' hsub, Nat.lt_of_le_of_lt (left_sub hsub) (left_shrinks es seen e he), Weak.list [(i0, .old i0, .map (.exact es' clock)), ((7, 0, 0), .old (7, 0, 0), .map (.itr i0 clock (seen.push e.born) clock))] rfl (by rfl) ?_ (.old rfl (BLe.refl _) (.old rfl (BLe.refl _) .nil))⟩
        · simp [hit]; simp only [underG, true_and, and_true, Bool.cond_true_left, Bool.cond_false_left, Bool.cond_true_right, Bool.cond_false_right, Bool.or_eq_true, Bool.and_eq_true, Bool.or_eq_false_iff, Bool.and_eq_false_iff, cond_true, cond_false, Bool.not_eq_eq_eq_not, Bool.not_true, Bool.not_false, decide_eq_true_eq, decide_eq_false_iff_not, Int.toNat_natCast, Nat.zero_add, Decidable.not_not, maxL, inn_iff] at *; omega
        · ((repeat' first | exact TLes.nil | refine TLes.cons (TLe.eq rfl) ?_); skip)
      · refine ⟨(es, seen.push e.born, m'), hI.miss hem hm hk ?_, left_shrinks es seen e he, Weak.list [(i0, .old i0, .map (.exact es clock)), ((7, 0, 0), .old (7, 0, 0), .map (.itr i0 clock (seen.push e.born) clock))] rfl (by rfl) ?_ (.old rfl (BLe.refl _) (.old rfl (BLe.refl _) .nil))⟩
        · simp [hit]; simp only [underG, true_and, and_true, Bool.cond_true_left, Bool.cond_false_left, Bool.cond_true_right, Bool.cond_false_right, Bool.or_eq_true, Bool.and_eq_true, Bool.or_eq_false_iff, Bool.and_eq_false_iff, cond_true, cond_false, Bool.not_eq_eq_eq_not, Bool.not_true, Bool.not_false, decide_eq_true_eq, decide_eq_false_iff_not, Int.toNat_natCast, Nat.zero_add, Decidable.not_not, maxL, inn_iff] at *; omega
        · ((repeat' first | exact TLes.nil | refine TLes.cons (TLe.eq rfl) ?_); skip)
    · cases hb
abbrev Mp := List (List Int × Int)
def sameHit (m : Mp) (x : Ins) : Bool := bif twoO x.op then (mlook m (ofD x).l).isSome else false
def sameY (m : Mp) (x : Ins) : Ins := if sameHit m x = true then ⟨2, x.dst, (mlook m (ofD x).l).getD 0, 0, 0, 0, []⟩ else x
def sameOk (m : Mp) (x : Ins) : Bool := twoO x.op && !(mlook m (ofD x).l).isSome
def sameM (m : Mp) (x : Ins) : Mp := if (sameY m x).op = 10 ∨ (sameY m x).op = 12 then m else
  if sameOk m x = true ∧ (sameY m x).dst ≠ (ofD x).a ∧ (sameY m x).dst ≠ (ofD x).b then mput (forgetM m (sameY m x).dst) (ofD x).l (sameY m x).dst else forgetM m (sameY m x).dst
def sameIns : Mp → List Ins → List Ins × Mp
  | m, [] => ([], m)
  | m, x :: r => (sameY m x :: (sameIns (sameM m x) r).1, (sameIns (sameM m x) r).2)
theorem sameIns_snoc : ∀ (l : List Ins) (m : Mp) (x : Ins), sameIns m (l ++ [x]) = ((sameIns m l).1 ++ [sameY (sameIns m l).2 x], sameM (sameIns m l).2 x)
  | [], m, x => rfl
  | y :: r, m, x => by
      simp only [List.cons_append, sameIns]
      rw [sameIns_snoc r _ x]
theorem sameIns_len : ∀ (l : List Ins) (m : Mp), (sameIns m l).1.length = l.length
  | [], _ => rfl
  | _ :: r, m => by simp [sameIns, sameIns_len r]
def sameBlock (b : Block) : Block := { b with ins := (sameIns [] b.ins).1 }
def smapAt (l : List Ins) (i : Nat) : Mp := (sameIns [] (l.take i)).2
def sameAt (l : List Ins) (i : Nat) : List Ins := (sameIns [] (l.take i)).1 ++ l.drop i
theorem sameAt_len (l : List Ins) (i : Nat) : (sameAt l i).length = l.length := by
  simp only [sameAt, List.length_append, sameIns_len, List.length_take, List.length_drop]; omega
theorem sameAt_get {l : List Ins} {i : Nat} (h : i < l.length) : (sameAt l i).getD i default = l.getD i default := by
  unfold sameAt
  rw [getD_append, sameIns_len, List.length_take, if_neg (by omega)]
  have : i - min i l.length = 0 := by omega
  rw [this, drop_getD default h]; rfl
theorem smapAt_succ {l : List Ins} {i : Nat} (h : i < l.length) : smapAt l (i + 1) = sameM (smapAt l i) (l.getD i default) := by
  unfold smapAt; rw [take_succ_getD default h, sameIns_snoc]
theorem sameAt_succ {l : List Ins} {i : Nat} (h : i < l.length) : sameAt l (i + 1) = (sameAt l i).set i (sameY (smapAt l i) (l.getD i default)) := by
  unfold sameAt smapAt
  rw [take_succ_getD default h, sameIns_snoc]
  have hl : (sameIns [] (l.take i)).1.length = i := by rw [sameIns_len, List.length_take]; omega
  rw [List.set_append_right _ _ (by omega), hl, Nat.sub_self, drop_getD default h]
  simp
theorem sameAt_at {l : List Ins} {i : Nat} (h : i < l.length) : (sameAt l (i + 1)).getD i default = sameY (smapAt l i) (l.getD i default) := by
  rw [sameAt_succ h, getD_set, if_pos ⟨rfl, by rw [sameAt_len]; exact h⟩]
abbrev dRow (x : Ins) : ABlock := .row true 3 1 (fun _ => [iv (ofD x).op, iv (ofD x).a, iv (ofD x).b])
theorem c_sBlock (b : Block) : FC Try.prog 29 [.agg (encBlock b)] (.agg (encBlock (sameBlock b))) := by
  refine FC_intro tok Try.func29 rfl (by decide +kernel) (Nat.le_of_ble_eq_true rfl) ?_
  refine AWp_facts 0 (fun hl => ?_)
  have hl0 : b.ins.length ≤ maxL := hl.2.2.2.2.2.1.1
  (repeat' first | refine AWp_seq ?_ | (refine AWp_reg tok (by rfl) ?_; conv => whnf))
  refine .inl ⟨_, _, _, uG (QC.fo (rd := []) (c_CloneIns b.ins) (.cons (.imm rfl) .nil) (.inl rfl) rfl), ?_⟩
  conv => whnf
  (repeat' first | refine AWp_seq ?_ | (refine AWp_reg tok (by rfl) ?_; conv => whnf) | refine AWp_block ?_)
  generalize hl : b.ins = l at hl0
  refine AWp_loop (fun i : Nat => mkS [(1, .bp (1, 0, 0) 0), (2, .bp (2, 0, 0) 0), (3, .mp (10, 0, 0)), (17, iv l.length), (18, iv i)]
      [((1, 0, 0), .row false 14 1 (fun _ => blkCells b (.rs (13, 0, 0) 7 0 l.length) b.fin)), ((2, 0, 0), .row true 14 1 (fun _ => encBlock default)), ((10, 0, 0), mpS (smapAt l i)), ((13, 0, 0), insRow (sameAt l i) l.length)])
    (fun i => i ≤ l.length) (fun i => l.length - i) 0 (Nat.zero_le _) ?_ ?_
  · refine Weak.list [((1, 0, 0), .old (1, 0, 0), .row false 14 1 (fun _ => blkCells b (.rs (13, 0, 0) 7 0 l.length) b.fin)), ((2, 0, 0), .old (2, 0, 0), .row true 14 1 (fun _ => encBlock default)), ((10, 0, 0), .old (10, 0, 0), mpS (smapAt l 0)), ((13, 0, 0), .old (13, 0, 0), insRow (sameAt l 0) l.length)] rfl (by rfl) ?_ ?_
    · ((repeat' first | exact TLes.nil | refine TLes.cons (TLe.eq rfl) ?_); skip)
    · refine .old rfl (BLe.rowW (Nat.le_refl _) (fun x hx => ?_)) (.old rfl (BLe.rowW (Nat.le_refl _) (fun x hx => ?_)) (.old rfl (BLe.refl _) (.old rfl (BLe.row rfl (fun x hx => ?_)) .nil)))
      · match x, hx with
        | 0, _ => (repeat' ((conv => arg 1; whnf); (conv => arg 2; whnf); first | refine Wks.cons .refl ?_ | exact Wks.nil))
      · match x, hx with
        | 0, _ => (repeat' ((conv => arg 1; whnf); (conv => arg 2; whnf); first | refine Wks.cons .refl ?_ | refine Wks.cons (.nsl rfl) ?_ | exact Wks.nil))
      · rw [show sameAt l 0 = l by simp [sameAt, sameIns]]; rfl
  intro i hi
  have hfl := sameAt_len l i
  ((repeat' first | refine AWp_seq ?_ | (refine AWp_reg tok (by rfl) ?_; conv => whnf) | refine AWp_block ?_ | (refine AWp_skip ?_; conv => whnf) | (refine AWp_exit ?_; conv => whnf) | (refine AWp_ret ?_; conv => whnf) | refine AWp_cond rfl (fun hb => ?_) (fun hb => ?_) | (refine @And.intro (underG _ _ _ _) _ ?_ ?_; rotate_left; (conv => whnf); rotate_right)); all_goals (try ((guard_target = underG _ _ _ _); refine underG_none ?_; (all_goals (try simp only [underG, true_and, and_true, Bool.cond_true_left, Bool.cond_false_left, Bool.cond_true_right, Bool.cond_false_right, Bool.or_eq_true, Bool.and_eq_true, Bool.or_eq_false_iff, Bool.and_eq_false_iff, cond_true, cond_false, Bool.not_eq_eq_eq_not, Bool.not_true, Bool.not_false, decide_eq_true_eq, decide_eq_false_iff_not, Int.toNat_natCast, Nat.zero_add, Decidable.not_not, maxL, inn_iff] at *)); all_goals omega)))
  · have hlt : i < l.length := by simp only [underG, true_and, and_true, Bool.cond_true_left, Bool.cond_false_left, Bool.cond_true_right, Bool.cond_false_right, Bool.or_eq_true, Bool.and_eq_true, Bool.or_eq_false_iff, Bool.and_eq_false_iff, cond_true, cond_false, Bool.not_eq_eq_eq_not, Bool.not_true, Bool.not_false, decide_eq_true_eq, decide_eq_false_iff_not, Int.toNat_natCast, Nat.zero_add, Decidable.not_not, maxL, inn_iff] at *; omega
    have hget := sameAt_get hlt
    have hget' : (sameAt l i).getD (0 + (i : Int).toNat) default = l.getD i default := by simpa using hget
    generalize hx : l.getD i default = x at hget hget'
    generalize hm : smapAt l i = m
    have hcall : ∀ y, y = x → FC Try.prog 77 [.agg (encIns y)] (.tup [.agg [iv (ofD x).op, iv (ofD x).a, iv (ofD x).b], .bool (twoO x.op)]) := fun y e => e ▸ c_of y
    refine .inl ⟨_, _, _, uG (QC.fc (hcall ((sameAt l i).getD (0 + (i : Int).toNat) default) hget') rfl), ?_⟩
    conv => whnf
    (repeat' first | refine AWp_seq ?_ | (refine AWp_reg tok (by rfl) ?_; conv => whnf))
    refine AWp_meet (fun _ : Unit => mkS [(1, .bp (1, 0, 0) 0), (2, .bp (2, 0, 0) 0), (3, .mp (10, 0, 0)), (5, .rp (13, 0, 0) 7 (0 + (i : Int).toNat) 0), (6, .bp (6, 0, 0) 0), (7, .bool (sameOk m x)), (17, iv l.length), (18, iv i)]
      [((1, 0, 0), .row false 14 1 (fun _ => blkCells b (.rs (13, 0, 0) 7 0 l.length) b.fin)), ((2, 0, 0), .row true 14 1 (fun _ => encBlock default)), ((6, 0, 0), dRow x), ((10, 0, 0), mpS m), ((13, 0, 0), insRow (sameAt l (i + 1)) l.length)]) (fun _ => True) ?_ ?_
    · ((repeat' first | refine AWp_seq ?_ | (refine AWp_reg tok (by rfl) ?_; conv => whnf) | (refine AWp_skip ?_; conv => whnf) | refine AWp_cond rfl (fun hb => ?_) (fun hb => ?_) | (refine @And.intro (underG _ _ _ _) _ ?_ ?_; rotate_left; (conv => whnf); rotate_right)); all_goals (try ((guard_target = underG _ _ _ _); refine underG_none ?_; (all_goals (try simp only [underG, true_and, and_true, Bool.cond_true_left, Bool.cond_false_left, Bool.cond_true_right, Bool.cond_false_right, Bool.or_eq_true, Bool.and_eq_true, Bool.or_eq_false_iff, Bool.and_eq_false_iff, cond_true, cond_false, Bool.not_eq_eq_eq_not, Bool.not_true, Bool.not_false, decide_eq_true_eq, decide_eq_false_iff_not, Int.toNat_natCast, Nat.zero_add, Decidable.not_not, maxL, inn_iff] at *)); all_goals omega)))
      all_goals
        have hh : sameHit m x = _ := hb
        refine ⟨(), trivial, Weak.list [((1, 0, 0), .old (1, 0, 0), .row false 14 1 (fun _ => blkCells b (.rs (13, 0, 0) 7 0 l.length) b.fin)), ((2, 0, 0), .old (2, 0, 0), .row true 14 1 (fun _ => encBlock default)), ((6, 0, 0), .old (6, 0, 0), dRow x), ((10, 0, 0), .old (10, 0, 0), mpS m), ((13, 0, 0), .old (13, 0, 0), insRow (sameAt l (i + 1)) l.length)] rfl (by rfl) ?_ ?_⟩
      · ((repeat' first | exact TLes.nil | refine TLes.cons (TLe.eq rfl) ?_ | refine TLes.cons (TLe.bool ?_) ?_); skip)
        unfold sameHit at hh; unfold sameOk
        cases h1 : twoO x.op <;> cases h2 : (mlook m (ofD x).l).isSome <;> simp [h1, h2] at hh ⊢
      · refine .old rfl (BLe.refl _) (.old rfl (BLe.refl _) (.old rfl (BLe.row rfl (fun z hz => ?_)) (.old rfl (BLe.refl _) (.old rfl (BLe.rowW (Nat.le_refl _) (fun z hz => ?_)) .nil))))
        · match z, hz with
          | 0, _ => rfl
        · rw [sameAt_succ hlt, hx, hm, show sameY m x = _ from if_pos hh]
          refine upd_rowW encIns default (sameAt l i) (by omega) (by simp) ?_ z
          rw [hget']
          (repeat' ((conv => arg 1; whnf); (conv => arg 2; whnf); first | refine Wks.cons .refl ?_ | refine Wks.cons (.nsl rfl) ?_ | exact Wks.nil))
      · ((repeat' first | exact TLes.nil | refine TLes.cons (TLe.eq rfl) ?_ | refine TLes.cons (TLe.bool ?_) ?_); skip)
        unfold sameHit at hh; unfold sameOk
        cases h1 : twoO x.op <;> cases h2 : (mlook m (ofD x).l).isSome <;> simp [h1, h2] at hh ⊢
      · refine .old rfl (BLe.refl _) (.old rfl (BLe.refl _) (.old rfl (BLe.row rfl (fun z hz => ?_)) (.old rfl (BLe.refl _) (.old rfl (BLe.rowW (Nat.le_refl _) (fun z hz => ?_)) .nil))))
        · match z, hz with
          | 0, _ => rfl
        · rw [sameAt_succ hlt, hx, hm, show sameY m x = x from if_neg (by rw [hh]; simp)]
          refine Wks.of ?_
          show encIns ((sameAt l i).getD z default) = _
          rw [← hget, getD_set]
          split
          · rename_i h; rw [h.1]
          · rfl
    rintro _ _ τ hτ
    refine AWp_weak hτ ?_
    have hat := sameAt_at hlt
    rw [hm, hx] at hat
    have hat' : (sameAt l (i + 1)).getD (0 + (i : Int).toNat) default = sameY m x := by simpa using hat
    have hsucc := smapAt_succ hlt
    rw [hm, hx] at hsucc
    generalize hY : sameY m x = y at hat hat'
    have hforget : ∀ z, z = y → HC Try.prog [i0] 78 [(i0, mpS m)] [.mp i0, iv z.dst] (.tup []) [(i0, mpS (forgetM m y.dst))] := fun z e => e ▸ c_forget m z.dst
    conv => whnf
    ((repeat' first | refine AWp_seq ?_ | (refine AWp_reg tok (by rfl) ?_; conv => whnf) | (refine AWp_skip ?_; conv => whnf) | (refine AWp_exit ?_; conv => whnf) | refine AWp_cond rfl (fun hb => ?_) (fun hb => ?_) | (refine @And.intro (underG _ _ _ _) _ ?_ ?_; rotate_left; (conv => whnf); rotate_right)); all_goals (try ((guard_target = underG _ _ _ _); (first | refine underG_none ?_ | (refine underG_some ?_; intro hgd; (conv at hgd => whnf))); (all_goals (try simp only [underG, true_and, and_true, Bool.cond_true_left, Bool.cond_false_left, Bool.cond_true_right, Bool.cond_false_right, Bool.or_eq_true, Bool.and_eq_true, Bool.or_eq_false_iff, Bool.and_eq_false_iff, cond_true, cond_false, Bool.not_eq_eq_eq_not, Bool.not_true, Bool.not_false, decide_eq_true_eq, decide_eq_false_iff_not, Int.toNat_natCast, Nat.zero_add, Decidable.not_not, maxL, inn_iff] at *)); all_goals omega)))
    · rw [hat'] at hb
      have he : smapAt l (i + 1) = m := by
        rw [hsucc]; unfold sameM; rw [hY, if_pos]
        simp only [underG, true_and, and_true, Bool.cond_true_left, Bool.cond_false_left, Bool.cond_true_right, Bool.cond_false_right, Bool.or_eq_true, Bool.and_eq_true, Bool.or_eq_false_iff, Bool.and_eq_false_iff, cond_true, cond_false, Bool.not_eq_eq_eq_not, Bool.not_true, Bool.not_false, decide_eq_true_eq, decide_eq_false_iff_not, Int.toNat_natCast, Nat.zero_add, Decidable.not_not, maxL, inn_iff] at *; omega
      rw [← he]
      refine ⟨i + 1, hlt, by omega, Weak.list [((1, 0, 0), .old (1, 0, 0), .row false 14 1 (fun _ => blkCells b (.rs (13, 0, 0) 7 0 l.length) b.fin)), ((2, 0, 0), .old (2, 0, 0), .row true 14 1 (fun _ => encBlock default)), ((10, 0, 0), .old (10, 0, 0), mpS (smapAt l (i + 1))), ((13, 0, 0), .old (13, 0, 0), insRow (sameAt l (i + 1)) l.length)] rfl (by rfl) ?_ ?_⟩
      · ((repeat' first | exact TLes.nil | refine TLes.cons (TLe.eq rfl) ?_ | refine TLes.cons (TLe.int ?_) ?_); (all_goals first | ((try (simp only [underG, true_and, and_true, Bool.cond_true_left, Bool.cond_false_left, Bool.cond_true_right, Bool.cond_false_right, Bool.or_eq_true, Bool.and_eq_true, Bool.or_eq_false_iff, Bool.and_eq_false_iff, cond_true, cond_false, Bool.not_eq_eq_eq_not, Bool.not_true, Bool.not_false, decide_eq_true_eq, decide_eq_false_iff_not, Int.toNat_natCast, Nat.zero_add, Decidable.not_not, maxL, inn_iff] at *)); exact wrap64 (by omega) (by omega)) | skip))
      · exact .old rfl (BLe.refl _) (.old rfl (BLe.refl _) (.old rfl (BLe.refl _) (.old rfl (BLe.refl _) .nil)))
    rw [hat'] at hb
    have hno : ¬ (y.op = 10 ∨ y.op = 12) := by intro h; rcases h with h | h <;> simp [h] at hb
    refine .inr ⟨_, _, _, uG (QH.of (dead := []) [(i0, .old (10, 0, 0), mpS m)] (hforget _ hat') rfl (.old rfl (BLe.refl _) .nil) (.cons (.eq rfl) (.cons (.eq rfl) .nil)) [(i0, (10, 0, 0))] rfl (.cons rfl (BLe.refl _) .nil) rfl), ?_⟩
    conv => whnf
    ((repeat' first | refine AWp_seq ?_ | (refine AWp_reg tok (by rfl) ?_; conv => whnf) | (refine AWp_any tok mix (by rfl) ?_; conv => whnf) | (refine AWp_skip ?_; conv => whnf) | refine AWp_cond rfl (fun hb => ?_) (fun hb => ?_) | (refine @And.intro (underG _ _ _ _) _ ?_ ?_; rotate_left; (conv => whnf); rotate_right)); all_goals (try ((guard_target = underG _ _ _ _); (first | refine underG_none ?_ | (refine underG_some ?_; intro hgd; (conv at hgd => whnf))); (all_goals (try simp only [underG, true_and, and_true, Bool.cond_true_left, Bool.cond_false_left, Bool.cond_true_right, Bool.cond_false_right, Bool.or_eq_true, Bool.and_eq_true, Bool.or_eq_false_iff, Bool.and_eq_false_iff, cond_true, cond_false, Bool.not_eq_eq_eq_not, Bool.not_true, Bool.not_false, decide_eq_true_eq, decide_eq_false_iff_not, Int.toNat_natCast, Nat.zero_add, Decidable.not_not, maxL, inn_iff] at *)); all_goals omega)))
    · rw [hat'] at hb
      have he : smapAt l (i + 1) = mput (forgetM m y.dst) (ofD x).l y.dst := by
        rw [hsucc]; unfold sameM; rw [hY, if_neg hno, if_pos]
        cases h : sameOk m x <;> simp [h] at hb ⊢
        exact hb
      refine ⟨i + 1, hlt, by omega, Weak.list [((1, 0, 0), .old (1, 0, 0), .row false 14 1 (fun _ => blkCells b (.rs (13, 0, 0) 7 0 l.length) b.fin)), ((2, 0, 0), .old (2, 0, 0), .row true 14 1 (fun _ => encBlock default)), ((10, 0, 0), .old (10, 0, 0), mpS (smapAt l (i + 1))), ((13, 0, 0), .old (13, 0, 0), insRow (sameAt l (i + 1)) l.length)] rfl (by rfl) ?_ ?_⟩
      · ((repeat' first | exact TLes.nil | refine TLes.cons (TLe.eq rfl) ?_ | refine TLes.cons (TLe.int ?_) ?_); (all_goals first | ((try (simp only [underG, true_and, and_true, Bool.cond_true_left, Bool.cond_false_left, Bool.cond_true_right, Bool.cond_false_right, Bool.or_eq_true, Bool.and_eq_true, Bool.or_eq_false_iff, Bool.and_eq_false_iff, cond_true, cond_false, Bool.not_eq_eq_eq_not, Bool.not_true, Bool.not_false, decide_eq_true_eq, decide_eq_false_iff_not, Int.toNat_natCast, Nat.zero_add, Decidable.not_not, maxL, inn_iff] at *)); exact wrap64 (by omega) (by omega)) | skip))
      · rw [he, ← hat']
        exact .old rfl (BLe.refl _) (.old rfl (BLe.refl _) (.old rfl (BLe.refl _) (.old rfl (BLe.refl _) .nil)))
    · rw [hat'] at hb
      have he : smapAt l (i + 1) = forgetM m y.dst := by
        rw [hsucc]; unfold sameM; rw [hY, if_neg hno, if_neg]
        cases h : sameOk m x <;> simp [h] at hb ⊢
        exact hb
      refine ⟨i + 1, hlt, by omega, Weak.list [((1, 0, 0), .old (1, 0, 0), .row false 14 1 (fun _ => blkCells b (.rs (13, 0, 0) 7 0 l.length) b.fin)), ((2, 0, 0), .old (2, 0, 0), .row true 14 1 (fun _ => encBlock default)), ((10, 0, 0), .old (10, 0, 0), mpS (smapAt l (i + 1))), ((13, 0, 0), .old (13, 0, 0), insRow (sameAt l (i + 1)) l.length)] rfl (by rfl) ?_ ?_⟩
      · ((repeat' first | exact TLes.nil | refine TLes.cons (TLe.eq rfl) ?_ | refine TLes.cons (TLe.int ?_) ?_); (all_goals first | ((try (simp only [underG, true_and, and_true, Bool.cond_true_left, Bool.cond_false_left, Bool.cond_true_right, Bool.cond_false_right, Bool.or_eq_true, Bool.and_eq_true, Bool.or_eq_false_iff, Bool.and_eq_false_iff, cond_true, cond_false, Bool.not_eq_eq_eq_not, Bool.not_true, Bool.not_false, decide_eq_true_eq, decide_eq_false_iff_not, Int.toNat_natCast, Nat.zero_add, Decidable.not_not, maxL, inn_iff] at *)); exact wrap64 (by omega) (by omega)) | skip))
      · rw [he]
        exact .old rfl (BLe.refl _) (.old rfl (BLe.refl _) (.old rfl (BLe.refl _) (.old rfl (BLe.refl _) .nil)))
  · have hil : i = l.length := by simp only [underG, true_and, and_true, Bool.cond_true_left, Bool.cond_false_left, Bool.cond_true_right, Bool.cond_false_right, Bool.or_eq_true, Bool.and_eq_true, Bool.or_eq_false_iff, Bool.and_eq_false_iff, cond_true, cond_false, Bool.not_eq_eq_eq_not, Bool.not_true, Bool.not_false, decide_eq_true_eq, decide_eq_false_iff_not, Int.toNat_natCast, Nat.zero_add, Decidable.not_not, maxL, inn_iff] at *; omega
    subst hil
    subst hl
    have hf : sameAt b.ins b.ins.length = (sameIns [] b.ins).1 := by simp [sameAt]
    refine ⟨_, rfl, Rel.agg (.cons (Rel.imm rfl) (.cons (Rel.imm rfl) (.cons (Rel.imm rfl) (.cons (Rel.imm rfl) (.cons (Rel.imm rfl) (.cons (Rel.row rfl rfl (by simp [sameBlock, sameIns_len]) (fun x _ => ?_)) (.cons (Rel.imm rfl) (.cons (Rel.imm rfl) (.cons (Rel.imm rfl) (.cons (Rel.imm rfl) (.cons (Rel.imm rfl) (.cons (Rel.imm rfl) (.cons (Rel.imm rfl) (.cons (Rel.imm rfl) .nil))))))))))))))⟩
    show encIns ((sameAt b.ins b.ins.length).getD x default) = encIns ((sameIns [] b.ins).1.getD x default)
    rw [hf]
end Go.Proofs.Ytmanpbgaihdalaa
namespace Go.Proofs.Ytmanpbgaihdalaa
open Go Dv
set_option maxRecDepth 10000
set_option linter.unusedSimpArgs false
section
variable (B : Block → Block)
/-- The first k blocks gone through. -/
def mapB (l : List Block) (k : Nat) : List Block := (List.range l.length).map fun q => if q < k then B (l.getD q default) else l.getD q default
def mapF (f : Func) (k : Nat) : Func := { f with blocks := mapB B f.blocks k }
def curL (l : List Func) (n : Nat) : List Func := (List.range l.length).map fun j => if j < n then mapF B (l.getD j default) (l.getD j default).blocks.length else l.getD j default
def passM (m : Module) : Module := ⟨m.funcs.map fun f => { f with blocks := f.blocks.map B }⟩
end
theorem range_getD {α : Type} (d : α) (f : Nat → α) {n i : Nat} (h : i < n) : ((List.range n).map f).getD i d = f i := by
  simp [List.getD_eq_getElem?_getD, h]
theorem mapB_len {B : Block → Block} (l : List Block) (k : Nat) : (mapB B l k).length = l.length := by simp [mapB]
theorem mapB_at {B : Block → Block} {l : List Block} {k q : Nat} (h : q < l.length) : (mapB B l k).getD q default = if q < k then B (l.getD q default) else l.getD q default := range_getD _ _ h
theorem curL_len {B : Block → Block} (l : List Func) (k : Nat) : (curL B l k).length = l.length := by simp [curL]
theorem curL_at {B : Block → Block} {l : List Func} {k q : Nat} (h : q < l.length) : (curL B l k).getD q default = if q < k then mapF B (l.getD q default) (l.getD q default).blocks.length else l.getD q default := range_getD _ _ h
theorem mapB_all {B : Block → Block} (l : List Block) : mapB B l l.length = l.map B := by
  refine list_ext_getD default (by simp [mapB]) (fun i hi => ?_)
  rw [mapB_len] at hi
  rw [mapB_at hi, if_pos hi, getD_lt (d := default) (l := l.map B) (by simpa using hi), getD_lt _ hi]; simp
theorem curL_all {B : Block → Block} (l : List Func) : curL B l l.length = (passM B ⟨l⟩).funcs := by
  refine list_ext_getD default (by simp [curL, passM]) (fun i hi => ?_)
  rw [curL_len] at hi
  rw [curL_at hi, if_pos hi]
  simp only [passM]
  rw [getD_lt (d := default) (l := l.map _) (by simpa using hi), List.getElem_map, mapF, mapB_all, getD_lt _ hi]
theorem curL_zero {B : Block → Block} (l : List Func) : curL B l 0 = l := by
  refine list_ext_getD default (by simp [curL]) (fun i hi => ?_)
  rw [curL_len] at hi
  rw [curL_at hi, if_neg (Nat.not_lt_zero i)]
theorem curL_blen {B : Block → Block} {l : List Func} {k q : Nat} (h : q < l.length) : ((curL B l k).getD q default).blocks.length = (l.getD q default).blocks.length := by
  rw [curL_at h]; split
  · simp [mapF, mapB_len]
  · rfl
theorem curL_sig {B : Block → Block} {l : List Func} {k q : Nat} (h : q < l.length) : ((curL B l k).getD q default).params = (l.getD q default).params ∧ ((curL B l k).getD q default).regs = (l.getD q default).regs := by
  rw [curL_at h]; split <;> exact ⟨rfl, rfl⟩
def rdM (l : List Func) : List Dv.Id := (900, 0, 0) :: (List.range l.length).map fun j => (1000, j, 0)
theorem rdM_head (l : List Func) : (900, 0, 0) ∈ rdM l := by simp [rdM]
theorem rdM_at {l : List Func} {j : Nat} (h : j < l.length) : (1000, j, 0) ∈ rdM l := by simp [rdM, h]
theorem modH1_dom {l : List Func} {i : Dv.Id} (h : (modH1 l i).isSome = true) : i = (900, 0, 0) ∨ ∃ j, i = (1000, j, 0) := by
  cases e : modH1 l i with
  | none => rw [e] at h; cases h
  | some b =>
    rcases copyH_sub l i b e with ⟨h1, _⟩ | ⟨j, h1, _⟩
    · exact .inl h1
    · exact .inr ⟨j, h1⟩
/-- A module in memory, given away at the end. -/
theorem rel_mod {h : AHeap} {l l' : List Func} (hl : l'.length = l.length) (hs : ∀ j, j < l.length → (l'.getD j default).params = (l.getD j default).params ∧ (l'.getD j default).regs = (l.getD j default).regs ∧ (l'.getD j default).blocks.length = (l.getD j default).blocks.length)
    (h900 : h (900, 0, 0) = some (funR1 l (mem1 l))) (h1000 : ∀ j, j < l.length → h (1000, j, 0) = some (blkR1 (l'.getD j default).blocks)) : Rel h (.agg [.rs (900, 0, 0) 3 0 l.length]) (.agg (encMod ⟨l'⟩)) := by
  refine Rel.agg (Rels.cons ?_ Rels.nil)
  show Rel h _ (.sl 3 l'.length _)
  rw [hl]
  refine Rel.rs (imm := false) (k := l.length) (f := fun j => [iv (l.getD j default).params, iv (l.getD j default).regs, mem1 l j]) h900 (Nat.le_of_eq (Nat.zero_add _)) (fun i hi => ?_)
  obtain ⟨h1, h2, h3⟩ := hs i hi
  rw [Nat.zero_add]
  refine Rels.cons (Rel.int h1.symm) (Rels.cons (Rel.int h2.symm) (Rels.cons ?_ Rels.nil))
  show Rel h (.rs (1000, i, 0) 14 0 (l.getD i default).blocks.length) (.sl 14 (l'.getD i default).blocks.length _)
  rw [← h3]
  refine Rel.rs (imm := true) (k := (l'.getD i default).blocks.length) (f := fun q => encBlock ((l'.getD i default).blocks.getD q default)) (h1000 i hi) (Nat.le_of_eq (Nat.zero_add _)) (fun q hq => ?_)
  rw [Nat.zero_add]
  exact Rels.imm rfl
theorem ress_mod {h : AHeap} {l : List Func} (h900 : h (900, 0, 0) = some (funR1 l (mem1 l))) (h1000 : ∀ j, j < l.length → h (1000, j, 0) = some (blkR1 (l.getD j default).blocks)) : Ress h (rdM l) [.agg [.rs (900, 0, 0) 3 0 l.length]] [.agg (encMod ⟨l⟩)] :=
  .cons (.agg (.cons (.rsN (imm := false) (f := fun j => [iv (l.getD j default).params, iv (l.getD j default).regs, mem1 l j]) h900 (rdM_head l) (Nat.le_of_eq (Nat.zero_add _)) rfl (fun i hi => by
    rw [Nat.zero_add]
    exact .cons (.imm rfl) (.cons (.imm rfl) (.cons (.rsN (imm := true) (f := fun q => encBlock ((l.getD i default).blocks.getD q default)) (h1000 i hi) (rdM_at hi) (Nat.le_of_eq (Nat.zero_add _)) rfl (fun q hq => by rw [Nat.zero_add]; exact Ress.imms rfl)) .nil)))) .nil)) .nil
theorem GB_fun1 {src : Dv.Id → Option Dv.Id} {h h' : AHeap} {l : List Func} {c c' : Nat → AV} (hc : ∀ q, q < l.length → GV src h h' (c q) (c' q)) : GB src h h' (funR1 l c) (funR1 l c') :=
  GB.row (Nat.le_refl _) (fun q hq => .cons (.imm rfl) (.cons (.imm rfl) (.cons (hc q hq) .nil))) (fun e => by cases e)
theorem nbeq {q i : Nat} (h : q ≠ i) : (!(Nat.beq q i)) = true := by
  cases e : Nat.beq q i with
  | false => rfl
  | true => exact absurd (Nat.eq_of_beq_eq_true e) h
def errM (m : Module) : Int := if rightB m = true then 0 else 1
def doneM (B : Block → Block) (m : Module) : Module := if rightB m = true then passM B m else m
theorem keep1 {src : Dv.Id → Option Dv.Id} {h h' : AHeap} {fs : List Func} {i q m : Nat} {b b2 : ABlock} (h1 : q ≠ i → h' (1000, q, 0) = some b) (hs : src (1000, q, 0) = some (1000, q, 0)) (h2 : h' (901, 0, 0) = some b2) (hs2 : src (901, 0, 0) = some (901, 0, 0)) :
    GV src h h' (sel (Nat.beq q i) (.rs (901, 0, 0) 14 0 m) (mem1 fs q)) (sel (Nat.beq q i) (.rs (901, 0, 0) 14 0 m) (mem1 fs q)) := by
  by_cases e : q = i
  · subst e
    exact .cc sel_eq sel_eq (.rs h2 hs2 rfl rfl)
  · exact .cc (sel_ne e) (sel_ne e) (.rs (h1 e) hs rfl rfl)

set_option maxHeartbeats 2000000 in
theorem c_sModule (m : Module) : FC Try.prog 27 [.agg (encMod m)] (.tup [.agg (encMod (doneM sameBlock m)), iv (errM m)]) := by
  obtain ⟨fs⟩ := m
  refine FC_intro tok Try.func27 rfl (by decide +kernel) (Nat.le_of_ble_eq_true rfl) ?_
  refine AWp_facts 0 (fun hl => ?_)
  have hl0 : fs.length ≤ maxL := hl.1.1
  have hmx : maxL = 4294967296 := rfl
  have hl1 : ∀ i, i < fs.length → (fs.getD i default).blocks.length ≤ maxL := fun i hi => (hl.1.2 i hi).2.2.1.1
  clear hl
  (repeat' first | refine AWp_seq ?_ | (refine AWp_reg tok (by rfl) ?_; conv => whnf))
  refine .inr ⟨_, _, _, uG (QH.ofF (c_Copy1 fs) rfl (fun i hi => by rcases modH1_dom hi with rfl | ⟨j, rfl⟩ <;> rfl)), ?_⟩
  conv => whnf
  (repeat' first | refine AWp_seq ?_ | (refine AWp_reg tok (by rfl) ?_; conv => whnf))
  refine .inl ⟨_, _, _, uG (QC.sc (rd := rdM fs) (c_lRight c_lpad ⟨fs⟩) (ress_mod rfl (fun j hj => ?_)) rfl), ?_⟩
  · show bigH [] (modH1 fs) _ (1000, j, 0) = _
    unfold bigH; rw [modH1_at hj]
  conv => whnf
  (repeat' first | refine AWp_seq ?_ | (refine AWp_reg tok (by rfl) ?_; conv => whnf) | refine AWp_block ?_ | (refine AWp_skip ?_; conv => whnf) | (refine AWp_ret ?_; conv => whnf) | refine AWp_cond rfl (fun hb => ?_) (fun hb => ?_))
  · have hr : rightB ⟨fs⟩ = false := by simpa using hb
    refine ⟨_, rfl, Rel.tup (.cons ?_ (.cons (Rel.int (by simp [errM, hr])) .nil))⟩
    rw [show doneM sameBlock ⟨fs⟩ = ⟨fs⟩ from by simp [doneM, hr]]
    refine rel_mod rfl (fun j hj => ⟨rfl, rfl, rfl⟩) rfl (fun j hj => ?_)
    show bigH [] (modH1 fs) _ (1000, j, 0) = _
    unfold bigH; rw [modH1_at hj]
  have hr : rightB ⟨fs⟩ = true := by simpa using hb
  clear hb
  refine AWp_loop (fun i : Nat => mkF [(1, .bp (1, 0, 0) 0), (2, .bp (2, 0, 0) 0), (3, iv 0), (14, .rs (900, 0, 0) 3 0 fs.length), (15, iv fs.length), (16, iv i)] [((1, 0, 0), .row false 1 1 (fun _ => [.rs (900, 0, 0) 3 0 fs.length])), ((2, 0, 0), boxed [.nsl]), ((900, 0, 0), funR1 fs (mem1 fs))] (blkF1 (curL sameBlock fs i) (fun _ => true)))
    (fun i => i ≤ fs.length) (fun i => fs.length - i) 0 (Nat.zero_le _) ?_ ?_
  · refine Weak.fam [] rfl (fun i hi => by cases hi) ?_ ?_ ?_ (fun i hi => by cases hi)
    · (repeat' first | exact TLg.nil | refine TLg.cons (GV.imm rfl) ?_ | refine TLg.cons (GV.bp rfl rfl) ?_ | refine TLg.cons (GV.rs rfl rfl ?_ ?_) ?_)
      all_goals rfl
    · exact .old rfl rfl (GB.one (.cons (.rs rfl rfl rfl rfl) .nil) (fun e => by cases e)) (.old rfl rfl (GB.one (GVs.imm rfl) (fun _ => rfl)) (.old rfl rfl (GB_fun1 (fun q hq => .rs (b := blkR1 ((curL sameBlock fs 0).getD q default).blocks) (show blkF1 (curL sameBlock fs 0) (fun _ => true) (1000, q, 0) = _ from blkF1_at (by rw [curL_len]; exact hq) rfl) rfl rfl rfl)) .nil))
    · intro j b e
      obtain ⟨p, rfl, hp, hp2, rfl⟩ := blkF1_some e
      rw [curL_zero] at hp ⊢
      refine HOk.mk rfl (b0 := blkR1 (fs.getD p default).blocks) ?_ (GB_blk1 _)
      show bigH [] (modH1 fs) _ (1000, p, 0) = _
      unfold bigH; rw [modH1_at hp]
  intro i hi
  ((repeat' ((fail_if_success (show AWp _ _ _ (Code.region 7 _ _) _ _)); first | refine AWp_seq ?_ | (refine AWp_reg tok (by rfl) ?_; conv => whnf) | refine AWp_block ?_ | (refine AWp_skip ?_; conv => whnf) | (refine AWp_exit ?_; conv => whnf) | (refine AWp_ret ?_; conv => whnf) | refine AWp_cond rfl (fun hb => ?_) (fun hb => ?_) | (refine @And.intro (underG _ _ _ _) _ ?_ ?_; rotate_left; (conv => whnf); rotate_right))); all_goals (try ((guard_target = underG _ _ _ _); refine underG_none ?_; (all_goals (try simp only [underG, true_and, and_true, Bool.cond_true_left, Bool.cond_false_left, Bool.cond_true_right, Bool.cond_false_right, Bool.or_eq_true, Bool.and_eq_true, Bool.or_eq_false_iff, Bool.and_eq_false_iff, cond_true, cond_false, Bool.not_eq_eq_eq_not, Bool.not_true, Bool.not_false, decide_eq_true_eq, decide_eq_false_iff_not, Int.toNat_natCast, Nat.zero_add, Decidable.not_not, maxL, inn_iff] at *)); all_goals omega)))
  · have hlt : i < fs.length := by simp only [decide_eq_true_eq] at hb; omega
    clear hb
    have hz : 0 + (i : Int).toNat = i := by simp
    have hbl := hl1 i hlt
    refine AWp_weak (Weak.fam (tl := [(1, .bp (1, 0, 0) 0), (2, .bp (2, 0, 0) 0), (3, iv 0), (14, .rs (900, 0, 0) 3 0 fs.length), (15, iv fs.length), (16, iv i), (5, .bp (5, 0, 0) 0)]) (hl := [((1, 0, 0), .row false 1 1 (fun _ => [.rs (900, 0, 0) 3 0 fs.length])), ((2, 0, 0), boxed [.nsl]), ((900, 0, 0), funR1 fs (fun j => sel (Nat.beq j i) (.rs (901, 0, 0) 14 0 (fs.getD i default).blocks.length) (mem1 fs j))), ((5, 0, 0), .row false 3 1 (fun _ => [iv (fs.getD i default).params, iv (fs.getD i default).regs, .rs (901, 0, 0) 14 0 (fs.getD i default).blocks.length])), ((901, 0, 0), blkR1 (mapB sameBlock (fs.getD i default).blocks 0))]) (F := (blkF1 (curL sameBlock fs i) (fun j => !(Nat.beq j i)))) [((901, 0, 0), some (1000, i, 0))] rfl (fun c hc => ?_) ?_ ?_ ?_ (fun i hi => by cases hi)) ?_
    · simp only [tgts, List.mem_singleton] at hc; subst hc
      left
      show blkF1 (curL sameBlock fs i) (fun j => !(Nat.beq j i)) (1000, i, 0) = none
      cases e : blkF1 (curL sameBlock fs i) (fun j => !(Nat.beq j i)) (1000, i, 0) with
      | none => rfl
      | some b => obtain ⟨p, e1, _, e2, _⟩ := blkF1_some e; cases e1; simp at e2
    · (repeat' first | exact TLg.nil | refine TLg.cons (GV.imm rfl) ?_ | refine TLg.cons (GV.bp rfl rfl) ?_ | refine TLg.cons (GV.rs rfl rfl ?_ ?_) ?_)
      all_goals rfl
    · refine .old rfl rfl (GB.one (.cons (.rs rfl rfl rfl rfl) .nil) (fun e => by cases e)) (.old rfl rfl (GB.one (GVs.imm rfl) (fun _ => rfl)) (.old rfl rfl (GB_fun1 (fun q hq => ?_)) (.old rfl rfl (GB.one (.cons (.int (by rw [hz])) (.cons (.int (by rw [hz])) (.cons ?_ .nil))) (fun e => by cases e)) (.old rfl ?_ (GB_blk1 _) .nil))))
      · by_cases e : q = i
        · subst e
          exact .cc (x' := mem1 fs q) rfl (show sel (Nat.beq q q) _ _ = _ from sel_eq) (.rs rfl srcL_hit rfl rfl)
        · exact .cc (x' := mem1 fs q) rfl (show sel (Nat.beq q i) _ _ = _ from sel_ne e) (.rs (b := blkR1 ((curL sameBlock fs i).getD q default).blocks) (show blkF1 (curL sameBlock fs i) (fun j => !(Nat.beq j i)) (1000, q, 0) = _ from blkF1_at (by rw [curL_len]; exact hq) (nbeq e)) (srcL_miss (fun h => e (by cases h))) rfl rfl)
      · exact .cc (x' := .rs (1000, i, 0) 14 0 (fs.getD i default).blocks.length) (show AV.rs (1000, 0 + (i : Int).toNat, 0) 14 0 (fs.getD (0 + (i : Int).toNat) default).blocks.length = _ by rw [hz]) rfl (.rs rfl srcL_hit rfl rfl)
      · show blkF1 (curL sameBlock fs i) (fun _ => true) (1000, i, 0) = _
        rw [blkF1_at (by rw [curL_len]; exact hlt) rfl, curL_at hlt, if_neg (Nat.lt_irrefl i)]
        congr 2
        refine list_ext_getD default (by simp [mapB]) (fun q hq => ?_)
        rw [mapB_at hq, if_neg (Nat.not_lt_zero q)]
    · intro j b e
      obtain ⟨p, rfl, hp, hp2, rfl⟩ := blkF1_some e
      exact HOk.mk (srcL_miss (fun h => by cases h)) (b0 := blkR1 ((curL sameBlock fs i).getD p default).blocks) (show blkF1 (curL sameBlock fs i) (fun _ => true) (1000, p, 0) = _ from blkF1_at hp rfl) (GB_blk1 _)
    (repeat' ((fail_if_success (show AWp _ _ _ (Code.region 8 _ _) _ _)); first | (refine AWp_reg tok (by rfl) ?_; conv => whnf) | refine AWp_block ?_))
    refine AWp_loop (fun k : Nat => mkF [(1, .bp (1, 0, 0) 0), (2, .bp (2, 0, 0) 0), (3, iv 0), (14, .rs (900, 0, 0) 3 0 fs.length), (15, iv fs.length), (16, iv i), (5, .bp (5, 0, 0) 0), (22, iv (fs.getD i default).blocks.length), (23, iv k)] [((1, 0, 0), .row false 1 1 (fun _ => [.rs (900, 0, 0) 3 0 fs.length])), ((2, 0, 0), boxed [.nsl]), ((900, 0, 0), funR1 fs (fun j => sel (Nat.beq j i) (.rs (901, 0, 0) 14 0 (fs.getD i default).blocks.length) (mem1 fs j))), ((5, 0, 0), .row false 3 1 (fun _ => [iv (fs.getD i default).params, iv (fs.getD i default).regs, .rs (901, 0, 0) 14 0 (fs.getD i default).blocks.length])), ((901, 0, 0), blkR1 (mapB sameBlock (fs.getD i default).blocks k))] (blkF1 (curL sameBlock fs i) (fun j => !(Nat.beq j i)))) (fun k => k ≤ (fs.getD i default).blocks.length) (fun k => (fs.getD i default).blocks.length - k) 0 (Nat.zero_le _) ?_ ?_
    · refine Weak.fam [] rfl (fun i hi => by cases hi) ?_ ?_ ?_ (fun i hi => by cases hi)
      · (repeat' first | exact TLg.nil | refine TLg.cons (GV.imm rfl) ?_ | refine TLg.cons (GV.bp rfl rfl) ?_ | refine TLg.cons (GV.rs rfl rfl ?_ ?_) ?_)
        all_goals first | rfl | (rw [mapB_len])
      · exact .old rfl rfl (GB.one (.cons (.rs rfl rfl rfl rfl) .nil) (fun e => by cases e)) (.old rfl rfl (GB.one (GVs.imm rfl) (fun _ => rfl)) (.old rfl rfl (GB_fun1 (fun q hq => keep1 (b := blkR1 ((curL sameBlock fs i).getD q default).blocks) (fun h => show blkF1 (curL sameBlock fs i) (fun j => !(Nat.beq j i)) (1000, q, 0) = _ from blkF1_at (by rw [curL_len]; exact hq) (nbeq h)) rfl rfl rfl)) (.old rfl rfl (GB.one (.cons (.imm rfl) (.cons (.imm rfl) (.cons (.rs rfl rfl rfl rfl) .nil))) (fun e => by cases e)) (.old rfl rfl (GB_blk1 _) .nil))))
      · intro j b e
        obtain ⟨p, rfl, hp, hp2, rfl⟩ := blkF1_some e
        exact HOk.mk rfl (b0 := blkR1 ((curL sameBlock fs i).getD p default).blocks) (show blkF1 (curL sameBlock fs i) (fun j => !(Nat.beq j i)) (1000, p, 0) = _ from blkF1_at hp hp2) (GB_blk1 _)
    intro k hk
    (repeat' ((fail_if_success (show AWp _ _ _ (Code.region 10 _ _) _ _)); first | refine AWp_seq ?_ | (refine AWp_reg tok (by rfl) ?_; conv => whnf) | refine AWp_block ?_ | (refine AWp_skip ?_; conv => whnf) | (refine AWp_exit ?_; conv => whnf) | refine AWp_cond rfl (fun hb => ?_) (fun hb => ?_)))
    · have hkl : k < (fs.getD i default).blocks.length := by simp only [decide_eq_true_eq] at hb; omega
      clear hb
      have hzk : 0 + (k : Int).toNat = k := by simp
      have hml : (mapB sameBlock (fs.getD i default).blocks k).length = (fs.getD i default).blocks.length := mapB_len _ _
      ((repeat' first | (refine AWp_any tok mix (by rfl) ?_; conv => whnf) | (refine @And.intro (underG _ _ _ _) _ ?_ ?_; rotate_left; (conv => whnf); rotate_right)); all_goals (try ((guard_target = underG _ _ _ _); refine underG_none ?_; (all_goals (try simp only [underG, true_and, and_true, Bool.cond_true_left, Bool.cond_false_left, Bool.cond_true_right, Bool.cond_false_right, Bool.or_eq_true, Bool.and_eq_true, Bool.or_eq_false_iff, Bool.and_eq_false_iff, cond_true, cond_false, Bool.not_eq_eq_eq_not, Bool.not_true, Bool.not_false, decide_eq_true_eq, decide_eq_false_iff_not, Int.toNat_natCast, Nat.zero_add, Decidable.not_not, maxL, inn_iff] at *)); all_goals omega)))
      refine .inl ⟨_, _, _, uG (QC.fc (c_sBlock ((mapB sameBlock (fs.getD i default).blocks k).getD (0 + (k : Int).toNat) default)) rfl), ?_⟩
      conv => whnf
      ((repeat' first | (refine AWp_reg tok (by rfl) ?_; conv => whnf) | (refine @And.intro (underG _ _ _ _) _ ?_ ?_; rotate_left; (conv => whnf); rotate_right)); all_goals (try ((guard_target = underG _ _ _ _); refine underG_none ?_; (all_goals (try simp only [underG, true_and, and_true, Bool.cond_true_left, Bool.cond_false_left, Bool.cond_true_right, Bool.cond_false_right, Bool.or_eq_true, Bool.and_eq_true, Bool.or_eq_false_iff, Bool.and_eq_false_iff, cond_true, cond_false, Bool.not_eq_eq_eq_not, Bool.not_true, Bool.not_false, decide_eq_true_eq, decide_eq_false_iff_not, Int.toNat_natCast, Nat.zero_add, Decidable.not_not, maxL, inn_iff] at *)); all_goals omega)))
      refine ⟨k + 1, hkl, by omega, ?_⟩
      refine Weak.fam [] rfl (fun i hi => by cases hi) ?_ ?_ ?_ (fun i hi => by cases hi)
      · (repeat' first | exact TLg.nil | refine TLg.cons (GV.imm rfl) ?_ | refine TLg.cons (GV.bp rfl rfl) ?_ | refine TLg.cons (GV.rs rfl rfl ?_ ?_) ?_ | refine TLg.cons (GV.int ?_) ?_)
        all_goals first | rfl | (simp (disch := omega) only [wrap64]; omega) | omega
      · refine .old rfl rfl (GB.one (.cons (.rs rfl rfl rfl rfl) .nil) (fun e => by cases e)) (.old rfl rfl (GB.one (GVs.imm rfl) (fun _ => rfl)) (.old rfl rfl (GB_fun1 (fun q hq => keep1 (b := blkR1 ((curL sameBlock fs i).getD q default).blocks) (fun h => show blkF1 (curL sameBlock fs i) (fun j => !(Nat.beq j i)) (1000, q, 0) = _ from blkF1_at (by rw [curL_len]; exact hq) (nbeq h)) rfl rfl rfl)) (.old rfl rfl (GB.one (.cons (.imm rfl) (.cons (.imm rfl) (.cons (.rs rfl rfl rfl rfl) .nil))) (fun e => by cases e)) (.old rfl rfl (GB.row (Nat.le_of_eq (by rw [mapB_len, mapB_len])) (fun q hq => GVs.upd (fun e => ?_) (fun e => ?_)) (fun _ _ _ => rfl)) .nil))))
        · rw [hzk] at e; subst e
          rw [mapB_len] at hq
          exact GVs.eqI rfl (by rw [hzk, mapB_at hq, if_neg (Nat.lt_irrefl q), mapB_at hq, if_pos (Nat.lt_succ_self q)]; rfl)
        · rw [hzk] at e
          rw [mapB_len] at hq
          refine GVs.eqI rfl ?_
          rw [mapB_at hq, mapB_at hq]
          by_cases h1 : q < k
          · rw [if_pos h1, if_pos (by omega)]
          · rw [if_neg h1, if_neg (by omega)]
      · intro j b e
        obtain ⟨p, rfl, hp, hp2, rfl⟩ := blkF1_some e
        exact HOk.mk rfl (b0 := blkR1 ((curL sameBlock fs i).getD p default).blocks) (show blkF1 (curL sameBlock fs i) (fun j => !(Nat.beq j i)) (1000, p, 0) = _ from blkF1_at hp hp2) (GB_blk1 _)
    · have hkl : k = (fs.getD i default).blocks.length := by simp only [decide_eq_false_iff_not] at hb; omega
      clear hb
      subst hkl
      skip
      refine ⟨i + 1, hlt, by omega, ?_⟩
      refine Weak.fam [((1000, i, 0), some (901, 0, 0))] rfl (fun c hc => by simp only [tgts, List.mem_singleton] at hc; subst hc; exact .inl rfl) ?_ ?_ ?_ (fun i hi => by cases hi)
      · (repeat' first | exact TLg.nil | refine TLg.cons (GV.imm rfl) ?_ | refine TLg.cons (GV.bp rfl rfl) ?_ | refine TLg.cons (GV.rs rfl rfl ?_ ?_) ?_ | refine TLg.cons (GV.int ?_) ?_)
        all_goals first | rfl | (simp (disch := omega) only [wrap64]; omega) | omega
      · refine .old rfl rfl (GB.one (.cons (.rs rfl rfl rfl rfl) .nil) (fun e => by cases e)) (.old rfl rfl (GB.one (GVs.imm rfl) (fun _ => rfl)) (.old rfl rfl (GB_fun1 (fun q hq => ?_)) .nil))
        by_cases e : q = i
        · subst e
          exact .cc (show sel (Nat.beq q q) _ _ = _ from sel_eq) rfl (.rs (b := blkR1 ((curL sameBlock fs (q + 1)).getD q default).blocks) (show blkF1 (curL sameBlock fs (q + 1)) (fun _ => true) (1000, q, 0) = _ from blkF1_at (by rw [curL_len]; exact hq) rfl) srcL_hit rfl rfl)
        · exact .cc (show sel (Nat.beq q i) _ _ = _ from sel_ne e) rfl (.rs (b := blkR1 ((curL sameBlock fs (i + 1)).getD q default).blocks) (show blkF1 (curL sameBlock fs (i + 1)) (fun _ => true) (1000, q, 0) = _ from blkF1_at (by rw [curL_len]; exact hq) rfl) (srcL_miss (fun h => e (by cases h; rfl))) rfl rfl)
      · intro j b e
        obtain ⟨p, rfl, hp, hp2, rfl⟩ := blkF1_some e
        rw [curL_len] at hp
        by_cases e : p = i
        · subst e
          refine HOk.mk srcL_hit (b0 := blkR1 (mapB sameBlock (fs.getD p default).blocks (fs.getD p default).blocks.length)) rfl ?_
          rw [curL_at hp, if_pos (Nat.lt_succ_self p)]
          exact GB_blk1 _
        · refine HOk.mk (srcL_miss (fun h => e (by cases h; rfl))) (b0 := blkR1 ((curL sameBlock fs i).getD p default).blocks) (show blkF1 (curL sameBlock fs i) (fun j => !(Nat.beq j i)) (1000, p, 0) = _ from blkF1_at (by rw [curL_len]; exact hp) (nbeq e)) ?_
          rw [curL_at hp, curL_at hp]
          by_cases h1 : p < i
          · rw [if_pos h1, if_pos (by omega)]; exact GB_blk1 _
          · rw [if_neg h1, if_neg (by omega)]; exact GB_blk1 _
  · have hil : i = fs.length := by simp only [decide_eq_false_iff_not] at hb; omega
    clear hb
    subst hil
    refine ⟨_, rfl, Rel.tup (.cons ?_ (.cons (Rel.int (by simp [errM, hr])) .nil))⟩
    rw [show doneM sameBlock ⟨fs⟩ = ⟨curL sameBlock fs fs.length⟩ from by rw [curL_all]; simp [doneM, hr]]
    exact rel_mod (curL_len _ _) (fun j hj => ⟨(curL_sig hj).1, (curL_sig hj).2, curL_blen hj⟩) rfl (fun j hj => show blkF1 (curL sameBlock fs fs.length) (fun _ => true) (1000, j, 0) = _ from blkF1_at (by rw [curL_len]; exact hj) rfl)
end Go.Proofs.Ytmanpbgaihdalaa
namespace Go.Proofs.Ytmanpbgaihdalaa
open Go Dv
set_option maxRecDepth 10000
set_option linter.unusedSimpArgs false
theorem c_rInts (a b : List Int) : FC Try.prog 83 [ints a, ints b] (.bool (decide (a = b))) := by
  refine FC_intro tok Try.func83 rfl (by decide +kernel) (Nat.le_of_ble_eq_true rfl) ?_
  refine AWp_facts 0 (fun hl => ?_)
  have hl0 : a.length ≤ maxL := hl.1
  (repeat' first | refine AWp_seq ?_ | (refine AWp_reg tok (by rfl) ?_; conv => whnf) | refine AWp_block ?_ | (refine AWp_skip ?_; conv => whnf) | (refine AWp_ret ?_; conv => whnf) | refine AWp_cond rfl (fun hb => ?_) (fun hb => ?_))
  · refine ⟨_, rfl, Rel.bool ?_⟩
    symm; rw [decide_eq_false_iff_not]
    intro e; subst e; simp at hb
  have hlen : a.length = b.length := by simp at hb; omega
  clear hb
  refine AWp_loop (fun i : Nat => mkS [(0, ints a), (1, ints b), (5, iv i)] [])
    (fun i => i ≤ a.length ∧ ∀ j, j < i → a.getD j 0 = b.getD j 0) (fun i => a.length - i) 0 ⟨Nat.zero_le _, by simp⟩ ?_ ?_
  · refine Weak.list [] rfl (by rfl) ?_ .nil
    ((repeat' first | exact TLes.nil | refine TLes.cons (TLe.eq rfl) ?_); skip)
  rintro i ⟨hi2, hc⟩
  ((repeat' first | refine AWp_seq ?_ | (refine AWp_reg tok (by rfl) ?_; conv => whnf) | (refine AWp_any tok mix (by rfl) ?_; conv => whnf) | refine AWp_block ?_ | (refine AWp_skip ?_; conv => whnf) | (refine AWp_exit ?_; conv => whnf) | (refine AWp_ret ?_; conv => whnf) | refine AWp_cond rfl (fun hb => ?_) (fun hb => ?_) | (refine @And.intro (underG _ _ _ _) _ ?_ ?_; rotate_left; (conv => whnf); rotate_right)); all_goals (try ((guard_target = underG _ _ _ _); refine underG_none ?_; (all_goals (try simp only [underG, true_and, and_true, Bool.cond_true_left, Bool.cond_false_left, Bool.cond_true_right, Bool.cond_false_right, Bool.or_eq_true, Bool.and_eq_true, Bool.or_eq_false_iff, Bool.and_eq_false_iff, cond_true, cond_false, Bool.not_eq_eq_eq_not, Bool.not_true, Bool.not_false, decide_eq_true_eq, decide_eq_false_iff_not, Int.toNat_natCast, Nat.zero_add, Decidable.not_not, maxL, inn_iff] at *)); all_goals omega)))
  · have hlt : i < a.length := by rename_i h; simp only [underG, true_and, and_true, Bool.cond_true_left, Bool.cond_false_left, Bool.cond_true_right, Bool.cond_false_right, Bool.or_eq_true, Bool.and_eq_true, Bool.or_eq_false_iff, Bool.and_eq_false_iff, cond_true, cond_false, Bool.not_eq_eq_eq_not, Bool.not_true, Bool.not_false, decide_eq_true_eq, decide_eq_false_iff_not, Int.toNat_natCast, Nat.zero_add, Decidable.not_not, maxL, inn_iff] at *; omega
    refine ⟨_, rfl, Rel.bool ?_⟩
    symm; rw [decide_eq_false_iff_not]
    intro e; subst e; simp at hb
  · have hlt : i < a.length := by rename_i h; simp only [underG, true_and, and_true, Bool.cond_true_left, Bool.cond_false_left, Bool.cond_true_right, Bool.cond_false_right, Bool.or_eq_true, Bool.and_eq_true, Bool.or_eq_false_iff, Bool.and_eq_false_iff, cond_true, cond_false, Bool.not_eq_eq_eq_not, Bool.not_true, Bool.not_false, decide_eq_true_eq, decide_eq_false_iff_not, Int.toNat_natCast, Nat.zero_add, Decidable.not_not, maxL, inn_iff] at *; omega
    refine ⟨i + 1, ⟨hlt, fun j hj => ?_⟩, by omega, ?_⟩
    · by_cases e : j = i
      · subst e; simpa using hb
      · exact hc j (by omega)
    refine Weak.list [] rfl (by rfl) ?_ .nil
    ((repeat' first | exact TLes.nil | refine TLes.cons (TLe.eq rfl) ?_ | refine TLes.cons (TLe.int ?_) ?_); (all_goals first | ((try (simp only [underG, true_and, and_true, Bool.cond_true_left, Bool.cond_false_left, Bool.cond_true_right, Bool.cond_false_right, Bool.or_eq_true, Bool.and_eq_true, Bool.or_eq_false_iff, Bool.and_eq_false_iff, cond_true, cond_false, Bool.not_eq_eq_eq_not, Bool.not_true, Bool.not_false, decide_eq_true_eq, decide_eq_false_iff_not, Int.toNat_natCast, Nat.zero_add, Decidable.not_not, maxL, inn_iff] at *)); exact wrap64 (by omega) (by omega)) | skip))
  · refine ⟨_, rfl, Rel.bool ?_⟩
    symm; rw [decide_eq_true_eq]
    exact list_ext_getD 0 hlen (fun j hj => hc j (by simp only [underG, true_and, and_true, Bool.cond_true_left, Bool.cond_false_left, Bool.cond_true_right, Bool.cond_false_right, Bool.or_eq_true, Bool.and_eq_true, Bool.or_eq_false_iff, Bool.and_eq_false_iff, cond_true, cond_false, Bool.not_eq_eq_eq_not, Bool.not_true, Bool.not_false, decide_eq_true_eq, decide_eq_false_iff_not, Int.toNat_natCast, Nat.zero_add, Decidable.not_not, maxL, inn_iff] at *; omega))
theorem c_rSameIns (x y : Ins) : FC Try.prog 38 [.agg (encIns x), .agg (encIns y)] (.bool (decide (x = y))) := by
  refine FC_intro tok Try.func38 rfl (by decide +kernel) (Nat.le_of_ble_eq_true rfl) ?_
  (repeat' first | refine AWp_seq ?_ | (refine AWp_reg tok (by rfl) ?_; conv => whnf))
  refine .inl ⟨_, _, _, uG (QC.fc (c_rInts x.args y.args) rfl), ?_⟩
  conv => whnf
  (repeat' (refine AWp_ret ?_; conv => whnf))
  refine ⟨_, rfl, Rel.bool ?_⟩
  obtain ⟨a1, a2, a3, a4, a5, a6, a7⟩ := x
  obtain ⟨b1, b2, b3, b4, b5, b6, b7⟩ := y
  rw [Bool.eq_iff_iff]
  simp [and_assoc]
theorem c_rSameEnd (x y : End) : FC Try.prog 37 [.agg (encEnd x), .agg (encEnd y)] (.bool (decide (x = y))) := by
  refine FC_intro tok Try.func37 rfl (by decide +kernel) (Nat.le_of_ble_eq_true rfl) ?_
  (repeat' first | refine AWp_seq ?_ | (refine AWp_reg tok (by rfl) ?_; conv => whnf))
  refine .inl ⟨_, _, _, uG (QC.fc (c_rInts x.args y.args) rfl), ?_⟩
  conv => whnf
  (repeat' (refine AWp_ret ?_; conv => whnf))
  refine ⟨_, rfl, Rel.bool ?_⟩
  obtain ⟨a1, a2, a3, a4, a5, a6, a7, a8⟩ := x
  obtain ⟨b1, b2, b3, b4, b5, b6, b7, b8⟩ := y
  rw [Bool.eq_iff_iff]
  simp [and_assoc]
theorem c_rSamePad (x y : Pad) : FC Try.prog 65 [.agg (encPad x), .agg (encPad y)] (.bool (decide (x = y))) := by
  refine FC_intro tok Try.func65 rfl (by decide +kernel) (Nat.le_of_ble_eq_true rfl) ?_
  refine AWp_facts 0 (fun hl => ?_)
  have hl0 : x.catch_.length ≤ maxL := hl.2.1.1
  obtain ⟨a1, a2, a3, a4⟩ := x
  obtain ⟨b1, b2, b3, b4⟩ := y
  simp only at hl0
  (repeat' first | refine AWp_seq ?_ | (refine AWp_reg tok (by rfl) ?_; conv => whnf) | refine AWp_block ?_ | (refine AWp_skip ?_; conv => whnf) | (refine AWp_ret ?_; conv => whnf) | refine AWp_cond rfl (fun hb => ?_) (fun hb => ?_))
  · refine ⟨_, rfl, Rel.bool ?_⟩
    symm; rw [decide_eq_false_iff_not]
    intro e; cases e; simp at hb
  have hall : a1 = b1 ∧ a3 = b3 ∧ a4 = b4 ∧ a2.length = b2.length := by
    simp [and_assoc] at hb
    refine ⟨hb.1, hb.2.1, hb.2.2.1, ?_⟩
    have := hb.2.2.2; omega
  clear hb
  obtain ⟨rfl, rfl, rfl, hlen⟩ := hall
  refine AWp_loop (fun i : Nat => mkS [(2, .bp (2, 0, 0) 0), (3, .bp (3, 0, 0) 0), (5, iv i)] [((2, 0, 0), boxed (encPad ⟨a1, a2, a3, a4⟩)), ((3, 0, 0), boxed (encPad ⟨a1, b2, a3, a4⟩))])
    (fun i => i ≤ a2.length ∧ ∀ j, j < i → a2.getD j 0 = b2.getD j 0) (fun i => a2.length - i) 0 ⟨Nat.zero_le _, by simp⟩ ?_ ?_
  · refine Weak.list [((2, 0, 0), .old (2, 0, 0), boxed (encPad ⟨a1, a2, a3, a4⟩)), ((3, 0, 0), .old (3, 0, 0), boxed (encPad ⟨a1, b2, a3, a4⟩))] rfl (by rfl) ?_ (.old rfl (BLe.refl _) (.old rfl (BLe.refl _) .nil))
    ((repeat' first | exact TLes.nil | refine TLes.cons (TLe.eq rfl) ?_); skip)
  rintro i ⟨hi2, hc⟩
  ((repeat' first | refine AWp_seq ?_ | (refine AWp_reg tok (by rfl) ?_; conv => whnf) | (refine AWp_any tok mix (by rfl) ?_; conv => whnf) | refine AWp_block ?_ | (refine AWp_skip ?_; conv => whnf) | (refine AWp_exit ?_; conv => whnf) | (refine AWp_ret ?_; conv => whnf) | refine AWp_cond rfl (fun hb => ?_) (fun hb => ?_) | (refine @And.intro (underG _ _ _ _) _ ?_ ?_; rotate_left; (conv => whnf); rotate_right)); all_goals (try ((guard_target = underG _ _ _ _); refine underG_none ?_; (all_goals (try simp only [underG, true_and, and_true, Bool.cond_true_left, Bool.cond_false_left, Bool.cond_true_right, Bool.cond_false_right, Bool.or_eq_true, Bool.and_eq_true, Bool.or_eq_false_iff, Bool.and_eq_false_iff, cond_true, cond_false, Bool.not_eq_eq_eq_not, Bool.not_true, Bool.not_false, decide_eq_true_eq, decide_eq_false_iff_not, Int.toNat_natCast, Nat.zero_add, Decidable.not_not, maxL, inn_iff] at *)); all_goals omega)))
  · have hlt : i < a2.length := by rename_i h; simp only [underG, true_and, and_true, Bool.cond_true_left, Bool.cond_false_left, Bool.cond_true_right, Bool.cond_false_right, Bool.or_eq_true, Bool.and_eq_true, Bool.or_eq_false_iff, Bool.and_eq_false_iff, cond_true, cond_false, Bool.not_eq_eq_eq_not, Bool.not_true, Bool.not_false, decide_eq_true_eq, decide_eq_false_iff_not, Int.toNat_natCast, Nat.zero_add, Decidable.not_not, maxL, inn_iff] at *; omega
    refine ⟨_, rfl, Rel.bool ?_⟩
    symm; rw [decide_eq_false_iff_not]
    intro e; cases e; simp at hb
  · have hlt : i < a2.length := by rename_i h; simp only [underG, true_and, and_true, Bool.cond_true_left, Bool.cond_false_left, Bool.cond_true_right, Bool.cond_false_right, Bool.or_eq_true, Bool.and_eq_true, Bool.or_eq_false_iff, Bool.and_eq_false_iff, cond_true, cond_false, Bool.not_eq_eq_eq_not, Bool.not_true, Bool.not_false, decide_eq_true_eq, decide_eq_false_iff_not, Int.toNat_natCast, Nat.zero_add, Decidable.not_not, maxL, inn_iff] at *; omega
    refine ⟨i + 1, ⟨hlt, fun j hj => ?_⟩, by omega, ?_⟩
    · by_cases e : j = i
      · subst e; simpa using hb
      · exact hc j (by omega)
    refine Weak.list [((2, 0, 0), .old (2, 0, 0), boxed (encPad ⟨a1, a2, a3, a4⟩)), ((3, 0, 0), .old (3, 0, 0), boxed (encPad ⟨a1, b2, a3, a4⟩))] rfl (by rfl) ?_ (.old rfl (BLe.refl _) (.old rfl (BLe.refl _) .nil))
    ((repeat' first | exact TLes.nil | refine TLes.cons (TLe.eq rfl) ?_ | refine TLes.cons (TLe.int ?_) ?_); (all_goals first | ((try (simp only [underG, true_and, and_true, Bool.cond_true_left, Bool.cond_false_left, Bool.cond_true_right, Bool.cond_false_right, Bool.or_eq_true, Bool.and_eq_true, Bool.or_eq_false_iff, Bool.and_eq_false_iff, cond_true, cond_false, Bool.not_eq_eq_eq_not, Bool.not_true, Bool.not_false, decide_eq_true_eq, decide_eq_false_iff_not, Int.toNat_natCast, Nat.zero_add, Decidable.not_not, maxL, inn_iff] at *)); exact wrap64 (by omega) (by omega)) | skip))
  · refine ⟨_, rfl, Rel.bool ?_⟩
    symm; rw [decide_eq_true_eq]
    rw [list_ext_getD 0 hlen (fun j hj => hc j (by simp only [underG, true_and, and_true, Bool.cond_true_left, Bool.cond_false_left, Bool.cond_true_right, Bool.cond_false_right, Bool.or_eq_true, Bool.and_eq_true, Bool.or_eq_false_iff, Bool.and_eq_false_iff, cond_true, cond_false, Bool.not_eq_eq_eq_not, Bool.not_true, Bool.not_false, decide_eq_true_eq, decide_eq_false_iff_not, Int.toNat_natCast, Nat.zero_add, Decidable.not_not, maxL, inn_iff] at *; omega))]
theorem c_rSameFunc (x y : Func) : FC Try.prog 44 [.agg (encFunc x), .agg (encFunc y)] (.bool (decide (x = y))) := by
  refine FC_intro tok Try.func44 rfl (by decide +kernel) (Nat.le_of_ble_eq_true rfl) ?_
  refine AWp_facts 0 (fun hl => ?_)
  have hl0 : x.blocks.length ≤ maxL := hl.2.2.1.1
  have hl1 : ∀ i, i < x.blocks.length → (x.blocks.getD i default).ins.length ≤ maxL := fun i hi => (hl.2.2.1.2 i hi).2.2.2.2.2.1.1
  have hmx : maxL = 4294967296 := rfl
  clear hl
  obtain ⟨a1, a2, a3⟩ := x
  obtain ⟨b1, b2, b3⟩ := y
  simp only at hl0 hl1
  (repeat' first | refine AWp_seq ?_ | (refine AWp_reg tok (by rfl) ?_; conv => whnf) | refine AWp_block ?_ | (refine AWp_skip ?_; conv => whnf) | (refine AWp_ret ?_; conv => whnf) | refine AWp_cond rfl (fun hb => ?_) (fun hb => ?_))
  · refine ⟨_, rfl, Rel.bool ?_⟩
    symm; rw [decide_eq_false_iff_not]
    intro e; cases e; simp at hb
  have hall : a1 = b1 ∧ a2 = b2 ∧ a3.length = b3.length := by
    simp [and_assoc] at hb
    refine ⟨hb.1, hb.2.1, ?_⟩
    have := hb.2.2; omega
  clear hb
  obtain ⟨rfl, rfl, hlen⟩ := hall
  refine AWp_loop (fun i : Nat => mkS [(2, .bp (2, 0, 0) 0), (3, .bp (3, 0, 0) 0), (5, iv i)] [((2, 0, 0), boxed (encFunc ⟨a1, a2, a3⟩)), ((3, 0, 0), boxed (encFunc ⟨a1, a2, b3⟩))])
    (fun i => i ≤ a3.length ∧ ∀ j, j < i → a3.getD j default = b3.getD j default) (fun i => a3.length - i) 0 ⟨Nat.zero_le _, by simp⟩ ?_ ?_
  · refine Weak.list [((2, 0, 0), .old (2, 0, 0), boxed (encFunc ⟨a1, a2, a3⟩)), ((3, 0, 0), .old (3, 0, 0), boxed (encFunc ⟨a1, a2, b3⟩))] rfl (by rfl) ?_ (.old rfl (BLe.refl _) (.old rfl (BLe.refl _) .nil))
    ((repeat' first | exact TLes.nil | refine TLes.cons (TLe.eq rfl) ?_); skip)
  rintro i ⟨hi2, hc⟩
  ((repeat' ((fail_if_success (show AWp _ _ _ (Code.region 7 _ _) _ _)); first | refine AWp_seq ?_ | (refine AWp_reg tok (by rfl) ?_; conv => whnf) | (refine AWp_any tok mix (by rfl) ?_; conv => whnf) | refine AWp_block ?_ | (refine AWp_skip ?_; conv => whnf) | (refine AWp_exit ?_; conv => whnf) | (refine AWp_ret ?_; conv => whnf) | refine AWp_cond rfl (fun hb => ?_) (fun hb => ?_) | (refine @And.intro (underG _ _ _ _) _ ?_ ?_; rotate_left; (conv => whnf); rotate_right))); all_goals (try ((guard_target = underG _ _ _ _); refine underG_none ?_; (all_goals (try simp only [underG, true_and, and_true, Bool.cond_true_left, Bool.cond_false_left, Bool.cond_true_right, Bool.cond_false_right, Bool.or_eq_true, Bool.and_eq_true, Bool.or_eq_false_iff, Bool.and_eq_false_iff, cond_true, cond_false, Bool.not_eq_eq_eq_not, Bool.not_true, Bool.not_false, decide_eq_true_eq, decide_eq_false_iff_not, Int.toNat_natCast, Nat.zero_add, Decidable.not_not, maxL, inn_iff] at *)); all_goals omega)))
  · have hlt : i < a3.length := by simp only [decide_eq_true_eq] at hb; omega
    clear hb
    have hil := hl1 i hlt
    have hii : (i : Int).toNat = i := Int.toNat_natCast i
    have hgen : ∃ p, a3.getD i default = p := ⟨_, rfl⟩
    obtain ⟨p, hp⟩ := hgen
    have hgen : ∃ q, b3.getD i default = q := ⟨_, rfl⟩
    obtain ⟨q, hq⟩ := hgen
    refine AWp_weak (Weak.list (tl := [(2, .bp (2, 0, 0) 0), (3, .bp (3, 0, 0) 0), (5, iv i), (6, .bp (6, 0, 0) 0), (7, .bp (7, 0, 0) 0)]) [((2, 0, 0), .old (2, 0, 0), boxed (encFunc ⟨a1, a2, a3⟩)), ((3, 0, 0), .old (3, 0, 0), boxed (encFunc ⟨a1, a2, b3⟩)), ((6, 0, 0), .old (6, 0, 0), .row true 14 1 (fun _ => encBlock p)), ((7, 0, 0), .old (7, 0, 0), .row true 14 1 (fun _ => encBlock q))] rfl (by rfl) ?_ (.old rfl (BLe.refl _) (.old rfl (BLe.refl _) (.old rfl (BLe.rowW (Nat.le_refl _) (ltS (Wks.of (by rw [← hp]; rfl)) lt0)) (.old rfl (BLe.rowW (Nat.le_refl _) (ltS (Wks.of (by rw [← hq]; rfl)) lt0)) .nil))))) ?_
    · (repeat' first | exact TLes.nil | refine TLes.cons (TLe.eq rfl) ?_)
    have hne : p ≠ q → (⟨a1, a2, a3⟩ : Func) ≠ ⟨a1, a2, b3⟩ := fun h e => by cases e; exact h (hp.symm.trans hq)
    rw [hp] at hil
    (repeat' (refine AWp_reg tok (by rfl) ?_; conv => whnf))
    refine .inl ⟨_, _, _, uG (QC.fc (c_rSamePad p.pad q.pad) rfl), ?_⟩
    conv => whnf
    skip
    refine .inl ⟨_, _, _, uG (QC.fc (c_rSameEnd p.fin q.fin) rfl), ?_⟩
    conv => whnf
    (repeat' first | refine AWp_seq ?_ | (refine AWp_reg tok (by rfl) ?_; conv => whnf) | refine AWp_block ?_ | (refine AWp_skip ?_; conv => whnf) | (refine AWp_ret ?_; conv => whnf) | refine AWp_cond rfl (fun hb => ?_) (fun hb => ?_))
    · refine ⟨_, rfl, Rel.bool ?_⟩
      symm; rw [decide_eq_false_iff_not]
      refine hne (fun e => ?_)
      subst e; simp at hb
    have hall : p.landing = q.landing ∧ p.pad = q.pad ∧ p.fin = q.fin ∧ p.ins.length = q.ins.length := by
      simp [and_assoc] at hb
      refine ⟨hb.1, hb.2.1, hb.2.2.1, ?_⟩
      have := hb.2.2.2; omega
    clear hb
    obtain ⟨e1, e2, e3, e4⟩ := hall
    refine AWp_loop (fun k : Nat => mkS [(2, .bp (2, 0, 0) 0), (3, .bp (3, 0, 0) 0), (5, iv i), (6, .bp (6, 0, 0) 0), (7, .bp (7, 0, 0) 0), (8, iv k)] [((2, 0, 0), boxed (encFunc ⟨a1, a2, a3⟩)), ((3, 0, 0), boxed (encFunc ⟨a1, a2, b3⟩)), ((6, 0, 0), .row true 14 1 (fun _ => encBlock p)), ((7, 0, 0), .row true 14 1 (fun _ => encBlock q))])
      (fun k => k ≤ p.ins.length ∧ ∀ j, j < k → p.ins.getD j default = q.ins.getD j default) (fun k => p.ins.length - k) 0 ⟨Nat.zero_le _, by simp⟩ ?_ ?_
    · refine Weak.list [((2, 0, 0), .old (2, 0, 0), boxed (encFunc ⟨a1, a2, a3⟩)), ((3, 0, 0), .old (3, 0, 0), boxed (encFunc ⟨a1, a2, b3⟩)), ((6, 0, 0), .old (6, 0, 0), .row true 14 1 (fun _ => encBlock p)), ((7, 0, 0), .old (7, 0, 0), .row true 14 1 (fun _ => encBlock q))] rfl (by rfl) ?_ (.old rfl (BLe.refl _) (.old rfl (BLe.refl _) (.old rfl (BLe.refl _) (.old rfl (BLe.refl _) .nil))))
      ((repeat' first | exact TLes.nil | refine TLes.cons (TLe.eq rfl) ?_); skip)
    rintro k ⟨hk2, hc2⟩
    ((repeat' first | refine AWp_seq ?_ | (refine AWp_reg tok (by rfl) ?_; conv => whnf) | (refine AWp_any tok mix (by rfl) ?_; conv => whnf) | refine AWp_block ?_ | (refine AWp_skip ?_; conv => whnf) | (refine AWp_exit ?_; conv => whnf) | refine AWp_cond rfl (fun hb => ?_) (fun hb => ?_) | (refine @And.intro (underG _ _ _ _) _ ?_ ?_; rotate_left; (conv => whnf); rotate_right)); all_goals (try ((guard_target = underG _ _ _ _); refine underG_none ?_; (all_goals (try simp only [underG, true_and, and_true, Bool.cond_true_left, Bool.cond_false_left, Bool.cond_true_right, Bool.cond_false_right, Bool.or_eq_true, Bool.and_eq_true, Bool.or_eq_false_iff, Bool.and_eq_false_iff, cond_true, cond_false, Bool.not_eq_eq_eq_not, Bool.not_true, Bool.not_false, decide_eq_true_eq, decide_eq_false_iff_not, Int.toNat_natCast, Nat.zero_add, Decidable.not_not, maxL, inn_iff] at *)); all_goals omega)))
    · have hlt2 : k < p.ins.length := by simp only [underG, true_and, and_true, Bool.cond_true_left, Bool.cond_false_left, Bool.cond_true_right, Bool.cond_false_right, Bool.or_eq_true, Bool.and_eq_true, Bool.or_eq_false_iff, Bool.and_eq_false_iff, cond_true, cond_false, Bool.not_eq_eq_eq_not, Bool.not_true, Bool.not_false, decide_eq_true_eq, decide_eq_false_iff_not, Int.toNat_natCast, Nat.zero_add, Decidable.not_not, maxL, inn_iff] at *; omega
      refine .inl ⟨_, _, _, uG (QC.fc (c_rSameIns (p.ins.getD (k : Int).toNat default) (q.ins.getD (k : Int).toNat default)) rfl), ?_⟩
      conv => whnf
      (repeat' first | refine AWp_seq ?_ | (refine AWp_reg tok (by rfl) ?_; conv => whnf) | (refine AWp_skip ?_; conv => whnf) | (refine AWp_ret ?_; conv => whnf) | refine AWp_cond rfl (fun hb => ?_) (fun hb => ?_))
      · refine ⟨_, rfl, Rel.bool ?_⟩
        symm; rw [decide_eq_false_iff_not]
        refine hne (fun e => ?_)
        subst e; simp at hb
      · refine ⟨k + 1, ⟨hlt2, fun j hj => ?_⟩, by omega, ?_⟩
        · by_cases e : j = k
          · subst e; simpa using hb
          · exact hc2 j (by omega)
        refine Weak.list [((2, 0, 0), .old (2, 0, 0), boxed (encFunc ⟨a1, a2, a3⟩)), ((3, 0, 0), .old (3, 0, 0), boxed (encFunc ⟨a1, a2, b3⟩)), ((6, 0, 0), .old (6, 0, 0), .row true 14 1 (fun _ => encBlock p)), ((7, 0, 0), .old (7, 0, 0), .row true 14 1 (fun _ => encBlock q))] rfl (by rfl) ?_ (.old rfl (BLe.refl _) (.old rfl (BLe.refl _) (.old rfl (BLe.refl _) (.old rfl (BLe.refl _) .nil))))
        ((repeat' first | exact TLes.nil | refine TLes.cons (TLe.eq rfl) ?_ | refine TLes.cons (TLe.int ?_) ?_); (all_goals first | ((try (simp only [underG, true_and, and_true, Bool.cond_true_left, Bool.cond_false_left, Bool.cond_true_right, Bool.cond_false_right, Bool.or_eq_true, Bool.and_eq_true, Bool.or_eq_false_iff, Bool.and_eq_false_iff, cond_true, cond_false, Bool.not_eq_eq_eq_not, Bool.not_true, Bool.not_false, decide_eq_true_eq, decide_eq_false_iff_not, Int.toNat_natCast, Nat.zero_add, Decidable.not_not, maxL, inn_iff] at *)); exact wrap64 (by omega) (by omega)) | skip))
    · have hk3 : k = p.ins.length := by simp only [underG, true_and, and_true, Bool.cond_true_left, Bool.cond_false_left, Bool.cond_true_right, Bool.cond_false_right, Bool.or_eq_true, Bool.and_eq_true, Bool.or_eq_false_iff, Bool.and_eq_false_iff, cond_true, cond_false, Bool.not_eq_eq_eq_not, Bool.not_true, Bool.not_false, decide_eq_true_eq, decide_eq_false_iff_not, Int.toNat_natCast, Nat.zero_add, Decidable.not_not, maxL, inn_iff] at *; omega
      have hpq : p = q := by
        have e5 : p.ins = q.ins := list_ext_getD default e4 (fun j hj => hc2 j (by omega))
        obtain ⟨p1, p2, p3, p4⟩ := p
        obtain ⟨q1, q2, q3, q4⟩ := q
        simp only at e1 e2 e3 e5
        subst e1; subst e2; subst e3; subst e5; rfl
      refine ⟨i + 1, ⟨hlt, fun j hj => ?_⟩, by omega, ?_⟩
      · by_cases e : j = i
        · subst e; rw [hp, hq, hpq]
        · exact hc j (by omega)
      refine Weak.list [((2, 0, 0), .old (2, 0, 0), boxed (encFunc ⟨a1, a2, a3⟩)), ((3, 0, 0), .old (3, 0, 0), boxed (encFunc ⟨a1, a2, b3⟩))] rfl (by rfl) ?_ (.old rfl (BLe.refl _) (.old rfl (BLe.refl _) .nil))
      ((repeat' first | exact TLes.nil | refine TLes.cons (TLe.eq rfl) ?_ | refine TLes.cons (TLe.int ?_) ?_); (all_goals first | ((try (simp only [underG, true_and, and_true, Bool.cond_true_left, Bool.cond_false_left, Bool.cond_true_right, Bool.cond_false_right, Bool.or_eq_true, Bool.and_eq_true, Bool.or_eq_false_iff, Bool.and_eq_false_iff, cond_true, cond_false, Bool.not_eq_eq_eq_not, Bool.not_true, Bool.not_false, decide_eq_true_eq, decide_eq_false_iff_not, Int.toNat_natCast, Nat.zero_add, Decidable.not_not, maxL, inn_iff] at *)); exact wrap64 (by omega) (by omega)) | skip))
  · refine ⟨_, rfl, Rel.bool ?_⟩
    symm; rw [decide_eq_true_eq]
    rw [list_ext_getD default hlen (fun j hj => hc j (by simp only [underG, true_and, and_true, Bool.cond_true_left, Bool.cond_false_left, Bool.cond_true_right, Bool.cond_false_right, Bool.or_eq_true, Bool.and_eq_true, Bool.or_eq_false_iff, Bool.and_eq_false_iff, cond_true, cond_false, Bool.not_eq_eq_eq_not, Bool.not_true, Bool.not_false, decide_eq_true_eq, decide_eq_false_iff_not, Int.toNat_natCast, Nat.zero_add, Decidable.not_not, maxL, inn_iff] at *; omega))]
theorem c_rSame (x y : Module) : FC Try.prog 28 [.agg (encMod x), .agg (encMod y)] (.bool (decide (x = y))) := by
  refine FC_intro tok Try.func28 rfl (by decide +kernel) (Nat.le_of_ble_eq_true rfl) ?_
  refine AWp_facts 0 (fun hl => ?_)
  have hl0 : x.funcs.length ≤ maxL := hl.1.1
  have hmx : maxL = 4294967296 := rfl
  clear hl
  obtain ⟨a⟩ := x
  obtain ⟨b⟩ := y
  simp only at hl0
  (repeat' first | refine AWp_seq ?_ | (refine AWp_reg tok (by rfl) ?_; conv => whnf) | refine AWp_block ?_ | (refine AWp_skip ?_; conv => whnf) | (refine AWp_ret ?_; conv => whnf) | refine AWp_cond rfl (fun hb => ?_) (fun hb => ?_))
  · refine ⟨_, rfl, Rel.bool ?_⟩
    symm; rw [decide_eq_false_iff_not]
    intro e; cases e; simp at hb
  have hlen : a.length = b.length := by simp at hb; omega
  clear hb
  refine AWp_loop (fun i : Nat => mkS [(2, .bp (2, 0, 0) 0), (3, .bp (3, 0, 0) 0), (5, iv i)] [((2, 0, 0), boxed (encMod ⟨a⟩)), ((3, 0, 0), boxed (encMod ⟨b⟩))])
    (fun i => i ≤ a.length ∧ ∀ j, j < i → a.getD j default = b.getD j default) (fun i => a.length - i) 0 ⟨Nat.zero_le _, by simp⟩ ?_ ?_
  · refine Weak.list [((2, 0, 0), .old (2, 0, 0), boxed (encMod ⟨a⟩)), ((3, 0, 0), .old (3, 0, 0), boxed (encMod ⟨b⟩))] rfl (by rfl) ?_ (.old rfl (BLe.refl _) (.old rfl (BLe.refl _) .nil))
    ((repeat' first | exact TLes.nil | refine TLes.cons (TLe.eq rfl) ?_); skip)
  rintro i ⟨hi2, hc⟩
  ((repeat' first | refine AWp_seq ?_ | (refine AWp_reg tok (by rfl) ?_; conv => whnf) | (refine AWp_any tok mix (by rfl) ?_; conv => whnf) | refine AWp_block ?_ | (refine AWp_skip ?_; conv => whnf) | (refine AWp_exit ?_; conv => whnf) | (refine AWp_ret ?_; conv => whnf) | refine AWp_cond rfl (fun hb => ?_) (fun hb => ?_) | (refine @And.intro (underG _ _ _ _) _ ?_ ?_; rotate_left; (conv => whnf); rotate_right)); all_goals (try ((guard_target = underG _ _ _ _); refine underG_none ?_; (all_goals (try simp only [underG, true_and, and_true, Bool.cond_true_left, Bool.cond_false_left, Bool.cond_true_right, Bool.cond_false_right, Bool.or_eq_true, Bool.and_eq_true, Bool.or_eq_false_iff, Bool.and_eq_false_iff, cond_true, cond_false, Bool.not_eq_eq_eq_not, Bool.not_true, Bool.not_false, decide_eq_true_eq, decide_eq_false_iff_not, Int.toNat_natCast, Nat.zero_add, Decidable.not_not, maxL, inn_iff] at *)); all_goals omega)))
  · have hlt : i < a.length := by simp only [underG, true_and, and_true, Bool.cond_true_left, Bool.cond_false_left, Bool.cond_true_right, Bool.cond_false_right, Bool.or_eq_true, Bool.and_eq_true, Bool.or_eq_false_iff, Bool.and_eq_false_iff, cond_true, cond_false, Bool.not_eq_eq_eq_not, Bool.not_true, Bool.not_false, decide_eq_true_eq, decide_eq_false_iff_not, Int.toNat_natCast, Nat.zero_add, Decidable.not_not, maxL, inn_iff] at *; omega
    refine .inl ⟨_, _, _, uG (QC.fc (c_rSameFunc (a.getD (i : Int).toNat default) (b.getD (i : Int).toNat default)) rfl), ?_⟩
    conv => whnf
    (repeat' first | refine AWp_seq ?_ | (refine AWp_reg tok (by rfl) ?_; conv => whnf) | (refine AWp_skip ?_; conv => whnf) | (refine AWp_ret ?_; conv => whnf) | refine AWp_cond rfl (fun hb => ?_) (fun hb => ?_))
    · refine ⟨_, rfl, Rel.bool ?_⟩
      symm; rw [decide_eq_false_iff_not]
      intro e; cases e; simp at hb
    · refine ⟨i + 1, ⟨hlt, fun j hj => ?_⟩, by omega, ?_⟩
      · by_cases e : j = i
        · subst e; simpa using hb
        · exact hc j (by omega)
      refine Weak.list [((2, 0, 0), .old (2, 0, 0), boxed (encMod ⟨a⟩)), ((3, 0, 0), .old (3, 0, 0), boxed (encMod ⟨b⟩))] rfl (by rfl) ?_ (.old rfl (BLe.refl _) (.old rfl (BLe.refl _) .nil))
      ((repeat' first | exact TLes.nil | refine TLes.cons (TLe.eq rfl) ?_ | refine TLes.cons (TLe.int ?_) ?_); (all_goals first | ((try (simp only [underG, true_and, and_true, Bool.cond_true_left, Bool.cond_false_left, Bool.cond_true_right, Bool.cond_false_right, Bool.or_eq_true, Bool.and_eq_true, Bool.or_eq_false_iff, Bool.and_eq_false_iff, cond_true, cond_false, Bool.not_eq_eq_eq_not, Bool.not_true, Bool.not_false, decide_eq_true_eq, decide_eq_false_iff_not, Int.toNat_natCast, Nat.zero_add, Decidable.not_not, maxL, inn_iff] at *)); exact wrap64 (by omega) (by omega)) | skip))
  · refine ⟨_, rfl, Rel.bool ?_⟩
    symm; rw [decide_eq_true_eq]
    rw [list_ext_getD default hlen (fun j hj => hc j (by simp only [underG, true_and, and_true, Bool.cond_true_left, Bool.cond_false_left, Bool.cond_true_right, Bool.cond_false_right, Bool.or_eq_true, Bool.and_eq_true, Bool.or_eq_false_iff, Bool.and_eq_false_iff, cond_true, cond_false, Bool.not_eq_eq_eq_not, Bool.not_true, Bool.not_false, decide_eq_true_eq, decide_eq_false_iff_not, Int.toNat_natCast, Nat.zero_add, Decidable.not_not, maxL, inn_iff] at *; omega))]
end Go.Proofs.Ytmanpbgaihdalaa
