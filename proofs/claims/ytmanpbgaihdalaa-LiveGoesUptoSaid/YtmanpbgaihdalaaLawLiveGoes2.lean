/- What is live behind a block is live at one of those next to it; what a block asks for first is live at its beginning. -/
import Derived.Test.YtmanpbgaihdalaaDvc3
import Derived.Test.YtmanpbgaihdalaaLawLiveGoes1
import Derived.RangeFuncGives
import Derived.WalkKit
import Derived.OwnWalkIn
import Derived.TacticsInMore
import Derived.RegionIn
import Derived.LoopNIn
import Derived.LoopIn
import Derived.Test.YtmanpbgaihdalaaRows
import Derived.ProofKit
import Derived.OpenShut
import Derived.JoinedCond
set_option linter.unusedVariables false
set_option linter.unusedSimpArgs false
set_option linter.unnecessarySimpa false
namespace Go.Proofs.Ytmanpbgaihdalaa
open Go Dv
set_option maxRecDepth 10000
set_option linter.unusedSimpArgs false
theorem app_fnW {sz n x : Nat} {f g : Nat → List AV} {c : List AV} (hf : ∀ i, i < n → f i = g i) (hc : c = g n) (hl : c.length = sz) (hx : x < n + 1) : appR n f (fun i => rowOf sz c (0 + i)) x = g x := by
  by_cases e : x < n
  · have h1 : appR n f (fun i => rowOf sz c (0 + i)) x = f x := by
      unfold appR; rw [show Nat.blt x n = true from by rw [Nat.blt_eq]; exact e]; rfl
    rw [h1, hf x e]
  · have e2 : x = n := by omega
    subst e2
    subst hl
    have h1 : appR x f (fun i => rowOf c.length c (0 + i)) x = c := by
      unfold appR; rw [show Nat.blt x x = false from by rw [Bool.eq_false_iff]; intro h; rw [Nat.blt_eq] at h; omega, Nat.sub_self]
      exact rowOf_one _
    rw [h1, hc]
def fitL (ps : List Int) (n a : Int) : List Int := if ps.getD n.toNat 0 < 0 then ps.set n.toNat a else ps
def fitB (ps : List Int) (n a : Int) : Bool := decide (0 ≤ n ∧ n < ps.length) && decide ((fitL ps n a).getD n.toNat 0 = a ∧ a ≤ 8)
def fitP (ps : List Int) (n a : Int) : List Int := if 0 ≤ n ∧ n < ps.length then fitL ps n a else ps
abbrev parR (ps : List Int) : ABlock := .row true 3 ps.length (fun q => [iv (ps.getD q 0), iv 0, .nsl])
abbrev j0 : Dv.Id := (1, 7, 0)
abbrev j1 : Dv.Id := (2, 7, 0)
abbrev mBox (n : Nat) : ABlock := .row false 1 1 (fun _ => [.rs j1 3 0 n])
theorem updR_hit {f : Nat → List AV} {k : Nat} {c : List AV} : updR f k c k = c := by
  unfold updR; rw [show Nat.beq k k = true from by simp]; rfl
theorem updR_miss {f : Nat → List AV} {k i : Nat} {c : List AV} (h : ¬ k = i) : updR f k c i = f i := by
  unfold updR; rw [show Nat.beq k i = false from by rw [Bool.eq_false_iff]; exact fun e => h (Nat.eq_of_beq_eq_true e)]; rfl
theorem fitL_len (ps : List Int) (n a : Int) : (fitL ps n a).length = ps.length := by unfold fitL; split <;> simp
theorem c_whole1 (ps : List Int) (n a : Int) : HC Try.prog [j0, j1] 145 [(j0, mBox ps.length), (j1, parR ps)] [iv n, iv a, .bp j0 0] (.bool (fitB ps n a)) [(j0, mBox ps.length), (j1, parR (fitP ps n a))] := by
  refine HC_intro tok Try.func145 rfl (by decide +kernel) (Nat.le_of_ble_eq_true rfl) ?_
  (repeat' ((fail_if_success (show AWp _ _ _ (Code.region 3 _ _) _ _)); first | refine AWp_seq ?_ | (refine AWp_reg tok (by rfl) ?_; conv => whnf) | (refine AWp_skip ?_; conv => whnf) | (refine AWp_ret ?_; conv => whnf) | refine AWp_cond rfl (fun hb => ?_) (fun hb => ?_)))
  · have hn : ¬ (0 ≤ n ∧ n < ps.length) := by
      intro h; rw [decide_eq_false (show ¬ n < 0 by omega), cond_false, decide_eq_true_eq] at hb; omega
    have h1 : fitP ps n a = ps := if_neg hn
    have h2 : fitB ps n a = false := by unfold fitB; rw [decide_eq_false hn]; rfl
    skip
    rw [h1, h2]
    exact ⟨_, [(j0, .old j0, mBox ps.length), (j1, .old j1, parR ps)], rfl, rfl, rfl, rfl, .old rfl (BLe.refl _) (.old rfl (BLe.refl _) .nil), .eq rfl⟩
  have hn : 0 ≤ n ∧ n < ps.length := by
    cases h : decide (n < 0) with
    | true => rw [h] at hb; cases hb
    | false => rw [h, cond_false, decide_eq_false_iff_not] at hb; rw [decide_eq_false_iff_not] at h; omega
  clear hb
  have h1 : fitP ps n a = fitL ps n a := if_pos hn
  have hq : ((fitL ps n a).length : Int) = ps.length := by rw [fitL_len]
  have hL : (j1, From.old j1, parR (fitL ps n a)) = (j1, From.old j1, .row true 3 ps.length (fun q => [iv ((fitL ps n a).getD q 0), iv 0, .nsl])) := by unfold parR; rw [fitL_len]
  have fin : fitB ps n a = (bif decide ((fitL ps n a).getD n.toNat 0 = a) then decide (a ≤ 8) else false) := by
    unfold fitB; rw [decide_eq_true hn]
    cases h : decide ((fitL ps n a).getD n.toNat 0 = a) <;> simp at h ⊢ <;> simp [h]
  rw [h1]
  have hz : 0 + n.toNat = n.toNat := Nat.zero_add _
  ((repeat' ((fail_if_success (show AWp _ _ _ (Code.region 5 _ _) _ _)); first | refine AWp_seq ?_ | (refine AWp_reg tok (by rfl) ?_; conv => whnf) | (refine AWp_skip ?_; conv => whnf) | refine AWp_cond rfl (fun hb => ?_) (fun hb => ?_) | (refine @And.intro (underG _ _ _ _) _ ?_ ?_; rotate_left; (conv => whnf); rotate_right))); all_goals (try ((guard_target = underG _ _ _ _); refine underG_none ?_; (all_goals (try simp only [underG, kz1, kz2, kz3, kz4, kz5, kz6, kz7, kz8, kz9, kz10, kz11, kz12, kz13, kz14, kz15, kz16, kz17, kz18, kz19, kz20, maxL, inn_iff] at *)); all_goals omega)))
  · have hneg : ps.getD n.toNat 0 < 0 := by rw [hz] at hb; simpa using hb
    clear hb
    have e1 : fitL ps n a = ps.set n.toNat a := if_pos hneg
    refine AWp_weak (Weak.list (tl := [(0, iv n), (1, iv a), (2, .bp j0 0)]) [((1, 7, 0), .old (1, 7, 0), mBox ps.length), ((2, 7, 0), .old (2, 7, 0), .row true 3 ps.length (fun q => [iv ((fitL ps n a).getD q 0), iv 0, .nsl]))] rfl (by rfl) ?_ (.old rfl (BLe.refl _) (.old rfl (BLe.rowW (Nat.le_refl _) (fun z hz' => ?_)) .nil))) ?_
    · ((repeat' first | exact TLes.nil | refine TLes.cons (TLe.eq rfl) ?_); skip)
    · rw [hz, e1]
      refine Wks.of ?_
      rw [getD_set]
      by_cases e : n.toNat = z
      · subst e
        rw [if_pos ⟨rfl, by omega⟩]
        exact updR_hit (f := fun q => [iv (ps.getD q 0), iv 0, .nsl]) (k := n.toNat) (c := [iv a, iv 0, .nsl])
      · rw [if_neg (fun h => e h.1)]
        exact updR_miss (f := fun q => [iv (ps.getD q 0), iv 0, .nsl]) (c := [iv a, iv 0, .nsl]) e
    ((repeat' first | (refine AWp_reg tok (by rfl) ?_; conv => whnf) | (refine AWp_ret ?_; conv => whnf) | (refine @And.intro (underG _ _ _ _) _ ?_ ?_; rotate_left; (conv => whnf); rotate_right)); all_goals (try ((guard_target = underG _ _ _ _); refine underG_none ?_; (all_goals (try simp only [underG, kz1, kz2, kz3, kz4, kz5, kz6, kz7, kz8, kz9, kz10, kz11, kz12, kz13, kz14, kz15, kz16, kz17, kz18, kz19, kz20, maxL, inn_iff] at *)); all_goals omega)))
    rw [fin]
    refine ⟨_, [(j0, .old j0, mBox ps.length), (j1, .old j1, parR (fitL ps n a))], rfl, rfl, rfl, rfl, .old rfl (BLe.refl _) (.old rfl (BLe.rowW (Nat.le_of_eq (fitL_len _ _ _)) (fun z hz => Wks.of rfl)) .nil), TLe.bool ?_⟩
    rw [hz]
  · have hneg : ¬ ps.getD n.toNat 0 < 0 := by rw [hz] at hb; simpa using hb
    clear hb
    have e1 : fitL ps n a = ps := if_neg hneg
    refine AWp_weak (Weak.list (tl := [(0, iv n), (1, iv a), (2, .bp j0 0)]) [((1, 7, 0), .old (1, 7, 0), mBox ps.length), ((2, 7, 0), .old (2, 7, 0), .row true 3 ps.length (fun q => [iv ((fitL ps n a).getD q 0), iv 0, .nsl]))] rfl (by rfl) ?_ (.old rfl (BLe.refl _) (.old rfl (BLe.rowW (Nat.le_refl _) (fun z hz' => Wks.of (by rw [e1]; rfl))) .nil))) ?_
    · ((repeat' first | exact TLes.nil | refine TLes.cons (TLe.eq rfl) ?_); skip)
    ((repeat' first | (refine AWp_reg tok (by rfl) ?_; conv => whnf) | (refine AWp_ret ?_; conv => whnf) | (refine @And.intro (underG _ _ _ _) _ ?_ ?_; rotate_left; (conv => whnf); rotate_right)); all_goals (try ((guard_target = underG _ _ _ _); refine underG_none ?_; (all_goals (try simp only [underG, kz1, kz2, kz3, kz4, kz5, kz6, kz7, kz8, kz9, kz10, kz11, kz12, kz13, kz14, kz15, kz16, kz17, kz18, kz19, kz20, maxL, inn_iff] at *)); all_goals omega)))
    rw [fin]
    refine ⟨_, [(j0, .old j0, mBox ps.length), (j1, .old j1, parR (fitL ps n a))], rfl, rfl, rfl, rfl, .old rfl (BLe.refl _) (.old rfl (BLe.rowW (Nat.le_of_eq (fitL_len _ _ _)) (fun z hz => Wks.of rfl)) .nil), TLe.bool ?_⟩
    rw [hz]
theorem c_whole16 {ps : List Int} (h : ps.length = 16) (n a : Int) : HC Try.prog [j0, j1] 145 [(j0, mBox 16), (j1, .row true 3 16 (fun q => [iv (ps.getD q 0), iv 0, .nsl]))] [iv n, iv a, .bp j0 0] (.bool (fitB ps n a)) [(j0, mBox 16), (j1, .row true 3 16 (fun q => [iv ((fitP ps n a).getD q 0), iv 0, .nsl]))] := by
  have h1 := c_whole1 ps n a
  have h2 : (fitP ps n a).length = 16 := by unfold fitP; split <;> simp [fitL_len, h]
  unfold parR mBox at h1
  rw [h2, h] at h1
  exact h1
def wIns (ps : List Int) : List Ins → Option (List Int)
  | [] => some ps
  | x :: r => if x.op = 11 then (if fitB ps x.f x.args.length = true then wIns (fitP ps x.f x.args.length) r else none) else wIns ps r
def wEnd (ps : List Int) (e : End) : Option (List Int) := if e.kind = 4 then (if fitB ps e.f e.args.length = true then some (fitP ps e.f e.args.length) else none) else some ps
def wBlk (ps : List Int) : List Block → Option (List Int)
  | [] => some ps
  | b :: r => match wIns ps b.ins with
    | none => none
    | some qs => match wEnd qs b.fin with
      | none => none
      | some rs => wBlk rs r
def parM (ps : List Int) : Module := ⟨ps.map fun p => ⟨p, 0, []⟩⟩
def wholeB (f : Func) : Bool := match wBlk (List.replicate 16 (-1)) f.blocks with
  | none => false
  | some ps => funcB (parM ps) f
theorem fitP_len (ps : List Int) (n a : Int) : (fitP ps n a).length = ps.length := by unfold fitP; split <;> simp [fitL_len]
set_option maxHeartbeats 2000000 in
theorem c_whole (f : Func) : FC Try.prog 126 [.agg (encFunc f)] (.bool (wholeB f)) := by
  refine FC_intro tok Try.func126 rfl (by decide +kernel) (Nat.le_of_ble_eq_true rfl) ?_
  refine AWp_facts 0 (fun hl => ?_)
  have hmx : maxL = 4294967296 := rfl
  have hl0 : f.blocks.length ≤ maxL := hl.2.2.1.1
  have hl1 : ∀ k, k < f.blocks.length → (f.blocks.getD k default).ins.length ≤ maxL := fun k hk => (hl.2.2.1.2 k hk).2.2.2.2.2.1.1
  clear hl
  (repeat' first | refine AWp_seq ?_ | (refine AWp_reg tok (by rfl) ?_; conv => whnf) | refine AWp_block ?_)
  refine AWp_loop (fun i : Nat => mkS [(1, .bp (1, 0, 0) 0), (3, .bp (3, 0, 0) 0), (9, iv i)] [((1, 0, 0), boxed (encFunc f)), ((3, 0, 0), .row false 1 1 (fun _ => [.rs (30, 0, 0) 3 0 i])), ((30, 0, 0), .row true 3 i (fun q => [iv (-1), iv 0, .nsl]))]) (fun i => i ≤ 16) (fun i => 16 - i) 0 (Nat.zero_le _) ?_ ?_
  · refine Weak.list [((1, 0, 0), .old (1, 0, 0), boxed (encFunc f)), ((3, 0, 0), .old (3, 0, 0), .row false 1 1 (fun _ => [.rs (30, 0, 0) 3 0 0])), ((30, 0, 0), .nil, .row true 3 0 (fun q => [iv (-1), iv 0, .nsl]))] rfl (by rfl) ?_ (.old rfl (BLe.refl _) (.oldR rfl (BLeR.cells rfl (fun x hx => .cons (.nil rfl) .nil)) (.new .nil)))
    ((repeat' first | exact TLes.nil | refine TLes.cons (TLe.eq rfl) ?_); skip)
  intro i hi
  ((repeat' ((fail_if_success (show AWp _ _ _ (Code.region 7 _ _) _ _)); first | refine AWp_seq ?_ | (refine AWp_reg tok (by rfl) ?_; conv => whnf) | refine AWp_block ?_ | (refine AWp_skip ?_; conv => whnf) | (refine AWp_exit ?_; conv => whnf) | refine AWp_cond rfl (fun hb => ?_) (fun hb => ?_) | (refine @And.intro (underG _ _ _ _) _ ?_ ?_; rotate_left; (conv => whnf); rotate_right))); all_goals (try ((guard_target = underG _ _ _ _); refine underG_none ?_; (first | refine And.intro (srcObl_rs rfl ?_) ?_ | skip); (all_goals (try simp only [underG, kz1, kz2, kz3, kz4, kz5, kz6, kz7, kz8, kz9, kz10, kz11, kz12, kz13, kz14, kz15, kz16, kz17, kz18, kz19, kz20, maxL, inn_iff] at *)); all_goals omega)))
  · have hlt : i < 16 := by simp only [decide_eq_true_eq] at hb; omega
    clear hb
    refine ⟨i + 1, hlt, by omega, ?_⟩
    refine Weak.list [((1, 0, 0), .old (1, 0, 0), boxed (encFunc f)), ((3, 0, 0), .old (3, 0, 0), .row false 1 1 (fun _ => [.rs (30, 0, 0) 3 0 (i + 1)])), ((30, 0, 0), .old (15, 0, 0), .row true 3 (i + 1) (fun q => [iv (-1), iv 0, .nsl]))] rfl (by rfl) ?_ (.old rfl (BLe.refl _) (.old rfl (BLe.rowO rfl) (.old rfl (BLe.rowW ?_ (fun z hz => Wks.of ?_)) .nil)))
    · ((repeat' first | exact TLes.nil | refine TLes.cons (TLe.eq rfl) ?_ | refine TLes.cons (TLe.int ?_) ?_); (all_goals first | ((try (simp only [underG, kz1, kz2, kz3, kz4, kz5, kz6, kz7, kz8, kz9, kz10, kz11, kz12, kz13, kz14, kz15, kz16, kz17, kz18, kz19, kz20, maxL, inn_iff] at *)); exact wrap64 (by omega) (by omega)) | skip))
    · exact Nat.le_refl _
    · exact app_fnW (sz := 3) (f := fun q => [iv (-1), iv 0, .nsl]) (g := fun q => [iv (-1), iv 0, .nsl]) (c := [iv (-1), iv 0, .nsl]) (fun _ _ => rfl) rfl rfl hz
  have hi16 : i = 16 := by simp only [decide_eq_false_iff_not] at hb; omega
  clear hb
  subst hi16
  have hinit : wBlk (List.replicate 16 (-1)) f.blocks = wBlk (List.replicate 16 (-1)) (f.blocks.drop 0) := by rw [List.drop_zero]
  (repeat' ((fail_if_success (show AWp _ _ _ (Code.region 8 _ _) _ _)); first | (refine AWp_reg tok (by rfl) ?_; conv => whnf) | refine AWp_block ?_))
  refine AWp_loop (fun q : Nat × List Int => mkS [(1, .bp (1, 0, 0) 0), (3, .bp (3, 0, 0) 0), (4, .fn 145 [.bp (3, 0, 0) 0]), (20, blockss f.blocks), (21, iv f.blocks.length), (22, iv q.1)] [((1, 0, 0), boxed (encFunc f)), ((3, 0, 0), .row false 1 1 (fun _ => [.rs (30, 0, 0) 3 0 16])), ((30, 0, 0), .row true 3 16 (fun z => [iv (List.getD q.2 z 0), iv 0, .nsl]))]) (fun q => q.1 ≤ f.blocks.length ∧ q.2.length = 16 ∧ wBlk (List.replicate 16 (-1)) f.blocks = wBlk q.2 (f.blocks.drop q.1)) (fun q => f.blocks.length - q.1) (0, List.replicate 16 (-1)) ⟨Nat.zero_le _, by simp, hinit⟩ ?_ ?_
  · refine Weak.list [((1, 0, 0), .old (1, 0, 0), boxed (encFunc f)), ((3, 0, 0), .old (3, 0, 0), .row false 1 1 (fun _ => [.rs (30, 0, 0) 3 0 16])), ((30, 0, 0), .old (30, 0, 0), .row true 3 16 (fun z => [iv (List.getD (List.replicate 16 (-1)) z 0), iv 0, .nsl]))] rfl (by rfl) ?_ (.old rfl (BLe.refl _) (.old rfl (BLe.refl _) (.old rfl (BLe.rowW (Nat.le_refl _) (fun z hz => Wks.of (by rw [show List.getD (List.replicate 16 (-1 : Int)) z 0 = -1 from by rw [List.getD_eq_getElem?_getD, List.getElem?_replicate, if_pos hz]; rfl]; rfl))) .nil)))
    ((repeat' first | exact TLes.nil | refine TLes.cons (TLe.eq rfl) ?_); skip)
  rintro ⟨k, ps⟩ ⟨hk, h16, hw⟩
  simp only at hk h16 hw ⊢
  (repeat' ((fail_if_success (show AWp _ _ _ (Code.region 9 _ _) _ _)); first | refine AWp_seq ?_ | (refine AWp_reg tok (by rfl) ?_; conv => whnf) | refine AWp_block ?_ | (refine AWp_skip ?_; conv => whnf) | (refine AWp_exit ?_; conv => whnf) | refine AWp_cond rfl (fun hb => ?_) (fun hb => ?_)))
  · have hkl : k < f.blocks.length := by simp only [decide_eq_true_eq] at hb; omega
    clear hb
    rw [drop_getD default hkl] at hw
    have hi64 := hl1 k hkl
    have hgen : ∃ b, f.blocks.getD k default = b := ⟨_, rfl⟩
    obtain ⟨b, hbk⟩ := hgen
    rw [hbk] at hw hi64
    ((repeat' ((fail_if_success (show AWp _ _ _ (Code.region 10 _ _) _ _)); first | refine AWp_seq ?_ | (refine AWp_reg tok (by rfl) ?_; conv => whnf) | (refine @And.intro (underG _ _ _ _) _ ?_ ?_; rotate_left; (conv => whnf); rotate_right))); all_goals (try ((guard_target = underG _ _ _ _); refine underG_none ?_; (all_goals (try simp only [underG, kz1, kz2, kz3, kz4, kz5, kz6, kz7, kz8, kz9, kz10, kz11, kz12, kz13, kz14, kz15, kz16, kz17, kz18, kz19, kz20, maxL, inn_iff] at *)); all_goals omega)))
    refine AWp_weak (Weak.list (tl := [(1, .bp (1, 0, 0) 0), (3, .bp (3, 0, 0) 0), (4, .fn 145 [.bp (3, 0, 0) 0]), (6, .bp (6, 0, 0) 0), (20, blockss f.blocks), (21, iv f.blocks.length), (22, iv k)]) [((1, 0, 0), .old (1, 0, 0), boxed (encFunc f)), ((3, 0, 0), .old (3, 0, 0), .row false 1 1 (fun _ => [.rs (30, 0, 0) 3 0 16])), ((30, 0, 0), .old (30, 0, 0), .row true 3 16 (fun z => [iv (List.getD ps z 0), iv 0, .nsl])), ((6, 0, 0), .old (6, 0, 0), .row true 14 1 (fun _ => encBlock b))] rfl (by rfl) ?_ (.old rfl (BLe.refl _) (.old rfl (BLe.refl _) (.old rfl (BLe.refl _) (.old rfl (BLe.rowW (Nat.le_refl _) (ltS (Wks.of (by rw [← hbk, Int.toNat_natCast]; rfl)) lt0)) .nil))))) ?_
    · ((repeat' first | exact TLes.nil | refine TLes.cons (TLe.eq rfl) ?_); skip)
    (repeat' ((fail_if_success (show AWp _ _ _ (Code.region 11 _ _) _ _)); first | (refine AWp_reg tok (by rfl) ?_; conv => whnf) | refine AWp_block ?_))
    refine AWp_loop (fun q : Nat × List Int => mkS [(1, .bp (1, 0, 0) 0), (3, .bp (3, 0, 0) 0), (4, .fn 145 [.bp (3, 0, 0) 0]), (6, .bp (6, 0, 0) 0), (20, blockss f.blocks), (21, iv f.blocks.length), (22, iv k), (27, inss b.ins), (28, iv b.ins.length), (29, iv q.1)] [((1, 0, 0), boxed (encFunc f)), ((3, 0, 0), .row false 1 1 (fun _ => [.rs (30, 0, 0) 3 0 16])), ((30, 0, 0), .row true 3 16 (fun z => [iv (List.getD q.2 z 0), iv 0, .nsl])), ((6, 0, 0), .row true 14 1 (fun _ => encBlock b))]) (fun q => q.1 ≤ b.ins.length ∧ q.2.length = 16 ∧ wIns ps b.ins = wIns q.2 (b.ins.drop q.1)) (fun q => b.ins.length - q.1) (0, ps) ⟨Nat.zero_le _, h16, by rw [List.drop_zero]⟩ ?_ ?_
    · refine Weak.list [((1, 0, 0), .old (1, 0, 0), boxed (encFunc f)), ((3, 0, 0), .old (3, 0, 0), .row false 1 1 (fun _ => [.rs (30, 0, 0) 3 0 16])), ((30, 0, 0), .old (30, 0, 0), .row true 3 16 (fun z => [iv (List.getD ps z 0), iv 0, .nsl])), ((6, 0, 0), .old (6, 0, 0), .row true 14 1 (fun _ => encBlock b))] rfl (by rfl) ?_ (.old rfl (BLe.refl _) (.old rfl (BLe.refl _) (.old rfl (BLe.refl _) (.old rfl (BLe.refl _) .nil))))
      ((repeat' first | exact TLes.nil | refine TLes.cons (TLe.eq rfl) ?_); skip)
    rintro ⟨j, qs⟩ ⟨hj, hq16, hwi⟩
    simp only at hj hq16 hwi ⊢
    (repeat' ((fail_if_success (show AWp _ _ _ (Code.region 12 _ _) _ _)); (fail_if_success (show AWp _ _ _ (Code.region 16 _ _) _ _)); first | refine AWp_seq ?_ | (refine AWp_reg tok (by rfl) ?_; conv => whnf) | refine AWp_block ?_ | (refine AWp_skip ?_; conv => whnf) | (refine AWp_exit ?_; conv => whnf) | refine AWp_cond rfl (fun hb => ?_) (fun hb => ?_)))
    · have hjl : j < b.ins.length := by simp only [decide_eq_true_eq] at hb; omega
      clear hb
      rw [drop_getD default hjl] at hwi
      have hgen : ∃ x, b.ins.getD j default = x := ⟨_, rfl⟩
      obtain ⟨x, hxj⟩ := hgen
      rw [hxj] at hwi
      ((repeat' ((fail_if_success (show AWp _ _ _ (Code.region 13 _ _) _ _)); first | refine AWp_seq ?_ | (refine AWp_reg tok (by rfl) ?_; conv => whnf) | (refine @And.intro (underG _ _ _ _) _ ?_ ?_; rotate_left; (conv => whnf); rotate_right))); all_goals (try ((guard_target = underG _ _ _ _); refine underG_none ?_; (all_goals (try simp only [underG, kz1, kz2, kz3, kz4, kz5, kz6, kz7, kz8, kz9, kz10, kz11, kz12, kz13, kz14, kz15, kz16, kz17, kz18, kz19, kz20, maxL, inn_iff] at *)); all_goals omega)))
      refine AWp_weak (Weak.list (tl := [(1, .bp (1, 0, 0) 0), (3, .bp (3, 0, 0) 0), (4, .fn 145 [.bp (3, 0, 0) 0]), (6, .bp (6, 0, 0) 0), (8, .bp (8, 0, 0) 0), (20, blockss f.blocks), (21, iv f.blocks.length), (22, iv k), (27, inss b.ins), (28, iv b.ins.length), (29, iv j)]) [((1, 0, 0), .old (1, 0, 0), boxed (encFunc f)), ((3, 0, 0), .old (3, 0, 0), .row false 1 1 (fun _ => [.rs (30, 0, 0) 3 0 16])), ((30, 0, 0), .old (30, 0, 0), .row true 3 16 (fun z => [iv (List.getD qs z 0), iv 0, .nsl])), ((6, 0, 0), .old (6, 0, 0), .row true 14 1 (fun _ => encBlock b)), ((8, 0, 0), .old (8, 0, 0), .row true 7 1 (fun _ => encIns x))] rfl (by rfl) ?_ (.old rfl (BLe.refl _) (.old rfl (BLe.refl _) (.old rfl (BLe.refl _) (.old rfl (BLe.refl _) (.old rfl (BLe.rowW (Nat.le_refl _) (ltS (Wks.of (by rw [← hxj, Int.toNat_natCast]; rfl)) lt0)) .nil)))))) ?_
      · ((repeat' first | exact TLes.nil | refine TLes.cons (TLe.eq rfl) ?_); skip)
      by_cases hop : x.op = 11
      · refine AWp_regV tok (fun j => bif Nat.beq j 3 then some true else none) (by rfl) ?_
        conv => whnf
        refine ⟨by rw [decide_eq_true hop], ?_⟩
        conv => whnf
        refine .inr ⟨_, _, _, uG (QH.of (dead := []) [(j0, .old (3, 0, 0), mBox 16), (j1, .old (30, 0, 0), .row true 3 16 (fun z => [iv (List.getD qs z 0), iv 0, .nsl]))] (c_whole16 hq16 x.f x.args.length) rfl (.old rfl (BLe.rowO rfl) (.old rfl (BLe.refl _) .nil)) (.cons (.eq rfl) (.cons (.eq rfl) (.cons (.eq rfl) .nil))) [(j0, (3, 0, 0)), (j1, (30, 0, 0))] rfl (.cons rfl (BLe.rowO rfl) (.cons rfl (BLe.refl _) .nil)) rfl), ?_⟩
        conv => whnf
        simp only [wIns] at hwi
        rw [if_pos hop] at hwi
        (repeat' first | refine AWp_seq ?_ | (refine AWp_reg tok (by rfl) ?_; conv => whnf) | (refine AWp_skip ?_; conv => whnf) | (refine AWp_ret ?_; conv => whnf) | refine AWp_cond rfl (fun hb => ?_) (fun hb => ?_))
        · have hfb : fitB qs x.f x.args.length = false := by simpa using hb
          rw [hfb] at hwi
          refine ⟨_, rfl, Rel.bool ?_⟩
          symm; unfold wholeB; rw [hw]; simp only [wBlk, hwi]; rfl
        · have hfb : fitB qs x.f x.args.length = true := by simpa using hb
          rw [hfb, if_pos rfl] at hwi
          refine ⟨(j + 1, fitP qs x.f x.args.length), ⟨hjl, by rw [fitP_len]; exact hq16, hwi⟩, by simp only; omega, ?_⟩
          refine Weak.list [((1, 0, 0), .old (1, 0, 0), boxed (encFunc f)), ((3, 0, 0), .old (3, 0, 0), .row false 1 1 (fun _ => [.rs (30, 0, 0) 3 0 16])), ((30, 0, 0), .old (30, 0, 0), .row true 3 16 (fun z => [iv (List.getD (fitP qs x.f x.args.length) z 0), iv 0, .nsl])), ((6, 0, 0), .old (6, 0, 0), .row true 14 1 (fun _ => encBlock b))] rfl (by rfl) ?_ (.old rfl (BLe.refl _) (.old rfl (BLe.refl _) (.old rfl (BLe.refl _) (.old rfl (BLe.refl _) .nil))))
          ((repeat' first | exact TLes.nil | refine TLes.cons (TLe.eq rfl) ?_ | refine TLes.cons (TLe.int ?_) ?_); (all_goals first | ((try (simp only [underG, kz1, kz2, kz3, kz4, kz5, kz6, kz7, kz8, kz9, kz10, kz11, kz12, kz13, kz14, kz15, kz16, kz17, kz18, kz19, kz20, maxL, inn_iff] at *)); exact wrap64 (by omega) (by omega)) | skip))
      · refine AWp_regV tok (fun j => bif Nat.beq j 3 then some false else none) (by rfl) ?_
        conv => whnf
        refine ⟨by rw [decide_eq_false hop], ?_⟩
        conv => whnf
        simp only [wIns] at hwi
        rw [if_neg hop] at hwi
        (repeat' first | refine AWp_seq ?_ | (refine AWp_reg tok (by rfl) ?_; conv => whnf) | (refine AWp_skip ?_; conv => whnf) | (refine AWp_ret ?_; conv => whnf) | refine AWp_cond rfl (fun hb => ?_) (fun hb => ?_))
        · cases hb
        refine ⟨(j + 1, qs), ⟨hjl, hq16, hwi⟩, by simp only; omega, ?_⟩
        refine Weak.list [((1, 0, 0), .old (1, 0, 0), boxed (encFunc f)), ((3, 0, 0), .old (3, 0, 0), .row false 1 1 (fun _ => [.rs (30, 0, 0) 3 0 16])), ((30, 0, 0), .old (30, 0, 0), .row true 3 16 (fun z => [iv (List.getD qs z 0), iv 0, .nsl])), ((6, 0, 0), .old (6, 0, 0), .row true 14 1 (fun _ => encBlock b))] rfl (by rfl) ?_ (.old rfl (BLe.refl _) (.old rfl (BLe.refl _) (.old rfl (BLe.refl _) (.old rfl (BLe.refl _) .nil))))
        ((repeat' first | exact TLes.nil | refine TLes.cons (TLe.eq rfl) ?_ | refine TLes.cons (TLe.int ?_) ?_); (all_goals first | ((try (simp only [underG, kz1, kz2, kz3, kz4, kz5, kz6, kz7, kz8, kz9, kz10, kz11, kz12, kz13, kz14, kz15, kz16, kz17, kz18, kz19, kz20, maxL, inn_iff] at *)); exact wrap64 (by omega) (by omega)) | skip))
    · have hjl : j = b.ins.length := by simp only [decide_eq_false_iff_not] at hb; omega
      clear hb
      subst hjl
      rw [List.drop_length] at hwi
      simp only [wIns] at hwi
      simp only [wBlk, hwi] at hw
      by_cases hop : b.fin.kind = 4
      · refine AWp_regV tok (fun j => bif Nat.beq j 4 then some true else none) (by rfl) ?_
        conv => whnf
        refine ⟨by rw [decide_eq_true hop], ?_⟩
        conv => whnf
        refine .inr ⟨_, _, _, uG (QH.of (dead := []) [(j0, .old (3, 0, 0), mBox 16), (j1, .old (30, 0, 0), .row true 3 16 (fun z => [iv (List.getD qs z 0), iv 0, .nsl]))] (c_whole16 hq16 b.fin.f b.fin.args.length) rfl (.old rfl (BLe.rowO rfl) (.old rfl (BLe.refl _) .nil)) (.cons (.eq rfl) (.cons (.eq rfl) (.cons (.eq rfl) .nil))) [(j0, (3, 0, 0)), (j1, (30, 0, 0))] rfl (.cons rfl (BLe.rowO rfl) (.cons rfl (BLe.refl _) .nil)) rfl), ?_⟩
        conv => whnf
        unfold wEnd at hw
        rw [if_pos hop] at hw
        (repeat' first | refine AWp_seq ?_ | (refine AWp_reg tok (by rfl) ?_; conv => whnf) | (refine AWp_skip ?_; conv => whnf) | (refine AWp_ret ?_; conv => whnf) | refine AWp_cond rfl (fun hb => ?_) (fun hb => ?_))
        · have hfb : fitB qs b.fin.f b.fin.args.length = false := by simpa using hb
          rw [hfb] at hw
          refine ⟨_, rfl, Rel.bool ?_⟩
          symm; unfold wholeB; rw [hw]; rfl
        · have hfb : fitB qs b.fin.f b.fin.args.length = true := by simpa using hb
          rw [hfb, if_pos rfl] at hw
          refine ⟨(k + 1, fitP qs b.fin.f b.fin.args.length), ⟨hkl, by rw [fitP_len]; exact hq16, hw⟩, by simp only; omega, ?_⟩
          refine Weak.list [((1, 0, 0), .old (1, 0, 0), boxed (encFunc f)), ((3, 0, 0), .old (3, 0, 0), .row false 1 1 (fun _ => [.rs (30, 0, 0) 3 0 16])), ((30, 0, 0), .old (30, 0, 0), .row true 3 16 (fun z => [iv (List.getD (fitP qs b.fin.f b.fin.args.length) z 0), iv 0, .nsl]))] rfl (by rfl) ?_ (.old rfl (BLe.refl _) (.old rfl (BLe.refl _) (.old rfl (BLe.refl _) .nil)))
          ((repeat' first | exact TLes.nil | refine TLes.cons (TLe.eq rfl) ?_ | refine TLes.cons (TLe.int ?_) ?_); (all_goals first | ((try (simp only [underG, kz1, kz2, kz3, kz4, kz5, kz6, kz7, kz8, kz9, kz10, kz11, kz12, kz13, kz14, kz15, kz16, kz17, kz18, kz19, kz20, maxL, inn_iff] at *)); exact wrap64 (by omega) (by omega)) | skip))
      · refine AWp_regV tok (fun j => bif Nat.beq j 4 then some false else none) (by rfl) ?_
        conv => whnf
        refine ⟨by rw [decide_eq_false hop], ?_⟩
        conv => whnf
        unfold wEnd at hw
        rw [if_neg hop] at hw
        (repeat' first | refine AWp_seq ?_ | (refine AWp_reg tok (by rfl) ?_; conv => whnf) | (refine AWp_skip ?_; conv => whnf) | (refine AWp_ret ?_; conv => whnf) | refine AWp_cond rfl (fun hb => ?_) (fun hb => ?_))
        · cases hb
        refine ⟨(k + 1, qs), ⟨hkl, hq16, hw⟩, by simp only; omega, ?_⟩
        refine Weak.list [((1, 0, 0), .old (1, 0, 0), boxed (encFunc f)), ((3, 0, 0), .old (3, 0, 0), .row false 1 1 (fun _ => [.rs (30, 0, 0) 3 0 16])), ((30, 0, 0), .old (30, 0, 0), .row true 3 16 (fun z => [iv (List.getD qs z 0), iv 0, .nsl]))] rfl (by rfl) ?_ (.old rfl (BLe.refl _) (.old rfl (BLe.refl _) (.old rfl (BLe.refl _) .nil)))
        ((repeat' first | exact TLes.nil | refine TLes.cons (TLe.eq rfl) ?_ | refine TLes.cons (TLe.int ?_) ?_); (all_goals first | ((try (simp only [underG, kz1, kz2, kz3, kz4, kz5, kz6, kz7, kz8, kz9, kz10, kz11, kz12, kz13, kz14, kz15, kz16, kz17, kz18, kz19, kz20, maxL, inn_iff] at *)); exact wrap64 (by omega) (by omega)) | skip))
  · have hkl : k = f.blocks.length := by simp only [decide_eq_false_iff_not] at hb; omega
    clear hb
    subst hkl
    rw [List.drop_length] at hw
    simp only [wBlk] at hw
    skip
    refine .inl ⟨_, _, _, uG (QC.sc (rd := [(30, 0, 0)]) (c_lFunc c_lpad (parM ps) f) (.cons (.agg (.cons (.rsW rfl (.head _) (Nat.le_refl _) ?_ (fun z hz => ?_)) .nil)) (.cons (.imm rfl) .nil)) rfl), ?_⟩
    · simp [parM, h16]
    · have e1 : (parM ps).funcs.getD z default = ⟨ps.getD z 0, 0, []⟩ := by
        unfold parM
        rw [List.getD_eq_getElem?_getD, List.getElem?_map, List.getD_eq_getElem?_getD, List.getElem?_eq_getElem (by omega)]; rfl
      rw [e1, Nat.zero_add]
      exact .cons .refl (.cons .refl (.cons (.nsl rfl) .nil))
    conv => whnf
    (repeat' (refine AWp_ret ?_; conv => whnf))
    refine ⟨_, rfl, Rel.bool ?_⟩
    unfold wholeB; rw [hw]
end Go.Proofs.Ytmanpbgaihdalaa
namespace Go.Proofs.Ytmanpbgaihdalaa
open Go Dv
set_option maxRecDepth 10000
set_option linter.unusedSimpArgs false
abbrev k0 : Dv.Id := (1, 7, 0)
abbrev k1 : Dv.Id := (2, 7, 0)
abbrev k2 : Dv.Id := (3, 7, 0)
abbrev k3 : Dv.Id := (4, 7, 0)
abbrev sCells (f : Func) (a b : AV) : List AV := [iv f.params, iv f.regs, blockss f.blocks, a, b]
abbrev sBox (f : Func) (ia ib : Dv.Id) (na nb : Nat) : ABlock := .row false 5 1 (fun _ => sCells f (.rs ia 1 0 na) (.rs ib 1 0 nb))
abbrev setR (A : List (List Bool)) (n : Nat) : ABlock := .row true 1 n (fun q => [bools (A.getD q [])])
abbrev boolR (n : Nat) (g : Nat → Bool) : ABlock := .row true 1 n (fun q => [.bool (g q)])
def mgF (g : Nat → Bool) (a : List Bool) (but : Int) (p q : Nat) : Bool := if q < p then (g q || (a.getD q false && decide ((q : Int) ≠ but))) else g q
theorem updR_hit' {f : Nat → List AV} {k i : Nat} {c : List AV} (h : k = i) : updR f k c i = c := by subst h; exact updR_hit
theorem c_merge (f : Func) (A B : List (List Bool)) (na nb n : Nat) (g : Nat → Bool) (blk : Nat) (but : Int) (hb : blk < na) (hn : (A.getD blk []).length ≤ n) :
    HC Try.prog [k0, k1, k2, k3] 146 [(k0, sBox f k1 k2 na nb), (k1, setR A na), (k2, setR B nb), (k3, boolR n g)] [.bp k0 0, .rs k3 1 0 n, iv blk, iv but] (.tup [])
      [(k0, sBox f k1 k2 na nb), (k1, setR A na), (k2, setR B nb), (k3, boolR n (mgF g (A.getD blk []) but (A.getD blk []).length))] := by
  refine HC_intro tok Try.func146 rfl (by decide +kernel) (Nat.le_of_ble_eq_true rfl) ?_
  have hmx : maxL = 4294967296 := rfl
  ((repeat' ((fail_if_success (show AWp _ _ _ (Code.region 1 _ _) _ _)); first | refine AWp_seq ?_ | (refine AWp_reg tok (by rfl) ?_; conv => whnf) | refine AWp_block ?_ | (refine @And.intro (underG _ _ _ _) _ ?_ ?_; rotate_left; (conv => whnf); rotate_right))); all_goals (try ((guard_target = underG _ _ _ _); refine underG_none ?_; (all_goals (try simp only [underG, kz1, kz2, kz3, kz4, kz5, kz6, kz7, kz8, kz9, kz10, kz11, kz12, kz13, kz14, kz15, kz16, kz17, kz18, kz19, kz20, maxL, inn_iff] at *)); all_goals omega)))
  refine AWp_facts 16 (fun hl => ?_)
  have hl0 : (A.getD (0 + (blk : Int).toNat) []).length ≤ maxL := hl.1
  clear hl
  have ha : A.getD (0 + (blk : Int).toNat) [] = A.getD blk [] := by simp
  have hgen : ∃ a, A.getD blk [] = a := ⟨_, rfl⟩
  obtain ⟨a, haa⟩ := hgen
  rw [haa] at hn ha ⊢
  rw [ha] at hl0
  refine AWp_loop (fun p : Nat => mkS [(1, .rs k3 1 0 n), (3, iv but), (16, bools a), (17, iv a.length), (18, iv p)] [((1, 7, 0), sBox f k1 k2 na nb), ((2, 7, 0), setR A na), ((3, 7, 0), setR B nb), ((4, 7, 0), boolR n (mgF g a but p))]) (fun p => p ≤ a.length) (fun p => a.length - p) 0 (Nat.zero_le _) ?_ ?_
  · refine Weak.list [((1, 7, 0), .old (1, 7, 0), sBox f k1 k2 na nb), ((2, 7, 0), .old (2, 7, 0), setR A na), ((3, 7, 0), .old (3, 7, 0), setR B nb), ((4, 7, 0), .old (4, 7, 0), boolR n (mgF g a but 0))] rfl (by rfl) ?_ (.old rfl (BLe.rowO rfl) (.old rfl (BLe.refl _) (.old rfl (BLe.refl _) (.old rfl (BLe.refl _) .nil))))
    rw [← ha]
    ((repeat' first | exact TLes.nil | refine TLes.cons (TLe.eq rfl) ?_); skip)
  intro p hp
  (repeat' ((fail_if_success (show AWp _ _ _ (Code.region 2 _ _) _ _)); first | refine AWp_seq ?_ | (refine AWp_reg tok (by rfl) ?_; conv => whnf) | refine AWp_block ?_ | (refine AWp_skip ?_; conv => whnf) | (refine AWp_exit ?_; conv => whnf) | refine AWp_cond rfl (fun hb => ?_) (fun hb => ?_)))
  · have hpl : p < a.length := by simp only [decide_eq_true_eq] at hb; omega
    clear hb
    ((repeat' first | (refine AWp_reg tok (by rfl) ?_; conv => whnf) | (refine @And.intro (underG _ _ _ _) _ ?_ ?_; rotate_left; (conv => whnf); rotate_right)); all_goals (try ((guard_target = underG _ _ _ _); refine underG_none ?_; (all_goals (try simp only [underG, kz1, kz2, kz3, kz4, kz5, kz6, kz7, kz8, kz9, kz10, kz11, kz12, kz13, kz14, kz15, kz16, kz17, kz18, kz19, kz20, maxL, inn_iff] at *)); all_goals omega)))
    refine ⟨p + 1, hpl, by omega, ?_⟩
    refine Weak.list [((1, 7, 0), .old (1, 7, 0), sBox f k1 k2 na nb), ((2, 7, 0), .old (2, 7, 0), setR A na), ((3, 7, 0), .old (3, 7, 0), setR B nb), ((4, 7, 0), .old (4, 7, 0), boolR n (mgF g a but (p + 1)))] rfl (by rfl) ?_ (.old rfl (BLe.rowO rfl) (.old rfl (BLe.refl _) (.old rfl (BLe.refl _) (.old rfl (BLe.rowW (Nat.le_refl _) (fun z hz => Wks.of ?_)) .nil))))
    · ((repeat' first | exact TLes.nil | refine TLes.cons (TLe.eq rfl) ?_ | refine TLes.cons (TLe.int ?_) ?_); (all_goals first | ((try (simp only [underG, kz1, kz2, kz3, kz4, kz5, kz6, kz7, kz8, kz9, kz10, kz11, kz12, kz13, kz14, kz15, kz16, kz17, kz18, kz19, kz20, maxL, inn_iff] at *)); exact wrap64 (by omega) (by omega)) | skip))
    · have hpp : (p : Int).toNat = p := Int.toNat_natCast p
      by_cases e : p = z
      · subst e
        refine (updR_hit' (f := fun q => [.bool (mgF g a but p q)]) (by rw [hpp, Nat.zero_add])).trans ?_
        rw [hpp, Nat.zero_add]
        unfold mgF
        rw [if_neg (Nat.lt_irrefl p), if_pos (Nat.lt_succ_self p)]
        cases g p <;> cases a.getD p false <;> simp
      · refine (updR_miss (f := fun q => [.bool (mgF g a but p q)]) (k := 0 + (p : Int).toNat) (by rw [hpp]; omega)).trans ?_
        unfold mgF
        by_cases h1 : z < p
        · rw [if_pos h1, if_pos (by omega)]
        · rw [if_neg h1, if_neg (by omega)]
  · have hpl : p = a.length := by simp only [decide_eq_false_iff_not] at hb; omega
    subst hpl
    exact ⟨_, [(k0, .old k0, sBox f k1 k2 na nb), (k1, .old k1, setR A na), (k2, .old k2, setR B nb), (k3, .old k3, boolR n (mgF g a but a.length))], rfl, rfl, rfl, rfl, .old rfl (BLe.rowO rfl) (.old rfl (BLe.refl _) (.old rfl (BLe.refl _) (.old rfl (BLe.refl _) .nil))), .eq rfl⟩
end Go.Proofs.Ytmanpbgaihdalaa
namespace Go.Proofs.Ytmanpbgaihdalaa
open Go Dv Go.RowKit
attribute [local go_sem] Oper.semAt_some
set_option maxRecDepth 100000 in
set_option maxHeartbeats 2000000 in
theorem c_back : BackOk Try.prog 162 7 := by
  intro l m f lb w J hJ h0
  obtain ⟨own, hV, _⟩ := hJ 0 w h0
  simp only [V, Vc] at hV
  obtain ⟨Bs, bo, rfl, hBs0, hnX, ⟨v, hcell, _, p, c, rfl, hnc, hm, hrow⟩, _⟩ := hV
  refine callsIn_of_wp Try.func162 rfl trivial ?_ rfl
  simp only [Try.ntmps162, List.size_toArray, List.length_cons, List.length_nil, Nat.reduceAdd, Nat.reduceSub, Array.replicate_succ, Array.replicate_zero, List.push_toArray, List.append_toArray, List.nil_append, List.cons_append]
  gi_wp2
  gi_loopw [3] (fun i wr => ∃ k : Nat, k ≤ m ∧ i = .int .i64 ((m : Int) - 1 - k) ∧ J k wr)
    (fun i _ => ((intOf i) + 1).toNat)
  case atStart =>
    refine ⟨0, Nat.zero_le _, ?_, h0⟩
    have : RowKit.wrap64 ((m : Int) - 1) = (m : Int) - 1 := by simp only [RowKit.wrap64, maxL] at hm ⊢; omega
    rw [this]; simp
  case round =>
    obtain ⟨k, hk, rfl, hJs⟩ := hrel
    obtain ⟨own2, hV2, hY⟩ := hJ k wr hJs
    simp only [V, Vc] at hV2
    obtain ⟨_, _, e0, hBs2, _, ⟨_, hcell2, _, p2, c2, rfl, hnc2, _, hrow2⟩, _⟩ := hV2
    cases e0
    by_cases hlt : k < m
    · obtain ⟨q, hqm⟩ : ∃ q : Nat, m - 1 - k = q := ⟨_, rfl⟩
      have hq : (m : Int) - 1 - k = q := by omega
      have hqlt : q < m := by omega
      rw [hqm] at hY
      rcases hrow2 with h | ⟨b, o, rfl, hb, _, hc⟩
      · omega
      obtain ⟨hlen, hcs⟩ := hc q hqlt
      obtain ⟨vs, hvl, hvc, hvV, hv1⟩ := Vc_read hcs
      have hy := hY vs hlt hvV
      rw [hlen] at hvl
      clear hY hc hcs
      match vs, hvl with
      | [v0, v1, v2, v3, v4, v5, v6], _ =>
        obtain ⟨fn, tmps, assign, body, hy, hR⟩ := hy
        have g0 : wr.cell? ⟨b, o + q * 7, none⟩ = some v0 := hvc 0 v0 rfl
        have g1 := hvc 1 v1 rfl
        have g2 := hvc 2 v2 rfl
        have g3 := hvc 3 v3 rfl
        have g4 := hvc 4 v4 rfl
        have g5 := hvc 5 v5 rfl
        have g6 := hvc 6 v6 rfl
        clear hvc hvV hv1
        rw [hq]
        have hy' : (Instr.yield l #[.int .i64 (q : Int), .agg #[v0, v1, v2, v3, v4, v5, v6]]).run Try.prog wr = .ok (.round l fn tmps assign body) wr := hy
        gi_wp2
        refine ⟨rfl, hR.mono ?_⟩
        rintro e W3 ⟨rfl, hJ3⟩
        gi_wp2
        go_roundw
        case rel =>
          refine ⟨k + 1, by omega, ?_, hJ3⟩
          have : RowKit.wrap64 ((q : Int) - 1) = (m : Int) - 1 - ((k + 1 : Nat) : Int) := by simp only [RowKit.wrap64, maxL] at hm ⊢; omega
          simpa using this
        case measure =>
          have : RowKit.wrap64 ((q : Int) - 1) = (q : Int) - 1 := by simp only [RowKit.wrap64, maxL] at hm ⊢; omega
          simp [intOf, this]
    · obtain rfl : k = m := by omega
      rw [show (k : Int) - 1 - k = -1 from by omega]
      gi_wp2
      go_end0
      exact ⟨⟨_, rfl⟩, hJs⟩
end Go.Proofs.Ytmanpbgaihdalaa
namespace Go.Proofs.Ytmanpbgaihdalaa
open Go Dv
set_option maxRecDepth 10000
set_option linter.unusedSimpArgs false
structure OkL (f : Func) (b : Block) : Prop where
  goals : ∀ g ∈ goalsL b, 0 ≤ g ∧ g < f.blocks.length
  pad : b.fin.kind = 4 → 0 ≤ b.fin.pad ∧ b.fin.pad < f.blocks.length
  ends : ∀ p ∈ endAsksL b.fin, 0 ≤ p ∧ p < f.regs
  asks : ∀ x ∈ b.ins, ∀ p ∈ asksL x, 0 ≤ p ∧ p < f.regs
  sets : ∀ x ∈ b.ins, setsB x = true → 0 ≤ x.dst ∧ x.dst < f.regs
theorem getD_mem {α : Type} (d : α) {l : List α} {i : Nat} (h : i < l.length) : l.getD i d ∈ l := by rw [getD_lt d h]; exact List.getElem_mem h
theorem goal_in {f : Func} {n : Int} (h : goalB f n = true) : 0 ≤ n ∧ n < f.blocks.length := by
  unfold goalB at h
  cases h1 : inn n f.blocks.length with
  | false => rw [h1] at h; cases h
  | true => exact (inn_iff _ _).1 h1
theorem args_all {m : Module} {f : Func} {n : Int} {l : List Int} (h : argsB m f n l = true) : ∀ p ∈ l, 0 ≤ p ∧ p < f.regs := by
  unfold argsB at h
  cases h1 : inn n m.funcs.length with
  | false => rw [h1] at h; cases h
  | true =>
    rw [h1, cond_true] at h
    cases h2 : decide ((l.length : Int) = (m.funcs.getD n.toNat default).params) with
    | false => rw [h2] at h; cases h
    | true =>
      rw [h2, cond_true, List.all_eq_true] at h
      exact fun p hp => (inn_iff _ _).1 (h p hp)
theorem okL {m : Module} {f : Func} (h : funcB m f = true) {i : Nat} (hi : i < f.blocks.length) : OkL f (f.blocks.getD i default) := by
  have hb := func_blocks h hi
  generalize f.blocks.getD i default = b at hb
  unfold blkB at hb
  rw [Bool.and_eq_true, decide_eq_true_eq] at hb
  obtain ⟨⟨_, _, he⟩, hin⟩ := hb
  have hin : ∀ x ∈ b.ins, InsP m f x := fun x hx => by
    have := List.all_eq_true.1 hin x hx; simpa using this
  refine ⟨fun g hg => ?_, fun hk => ?_, fun p hp => ?_, fun x hx p hp => ?_, fun x hx hs => ?_⟩
  · unfold goalsL at hg
    rcases he with h | h | h | h | h
    · rw [if_neg (by omega), if_neg (by omega)] at hg; cases hg
    · rw [if_pos (by omega)] at hg; rw [List.mem_singleton] at hg; subst hg; exact goal_in h.2.2.2.2.2.2.1
    · rw [if_neg (by omega), if_pos (by omega)] at hg
      rcases List.mem_cons.1 hg with e | e
      · subst e; exact goal_in h.2.2.2.2.2.2.1
      · rw [List.mem_singleton] at e; subst e; exact goal_in h.2.2.2.2.2.2.2
    · rw [if_pos (by omega)] at hg; rw [List.mem_singleton] at hg; subst hg; exact goal_in h.2.2.2.2.1
    · rw [if_neg (by omega), if_neg (by omega)] at hg; cases hg
  · rcases he with h | h | h | h | h <;> first | omega | exact (inn_iff _ _).1 h.2.2.2.2.2.2.1
  · unfold endAsksL at hp
    rcases he with h | h | h | h | h
    · rw [if_pos (by omega), List.mem_singleton] at hp; subst hp; exact (inn_iff _ _).1 h.2.1
    · rw [if_neg (by omega), if_neg (by omega)] at hp; cases hp
    · rw [if_pos (by omega), List.mem_singleton] at hp; subst hp; exact (inn_iff _ _).1 h.2.1
    · rw [if_neg (by omega), if_pos (by omega)] at hp; exact args_all h.2.2.2.1 p hp
    · rw [if_neg (by omega), if_neg (by omega)] at hp; cases hp
  · have h := hin x hx
    unfold asksL at hp
    rcases h with h | h | h | h | h | h | h
    · rw [if_neg (by omega), if_neg (by omega), if_neg (by omega)] at hp; cases hp
    · rw [if_pos (by omega), List.mem_singleton] at hp; subst hp; exact (inn_iff _ _).1 h.2.2.1
    · rw [if_neg (by omega), if_pos (by omega)] at hp
      rcases List.mem_cons.1 hp with e | e
      · subst e; exact (inn_iff _ _).1 h.2.2.1
      · rw [List.mem_singleton] at e; subst e; exact (inn_iff _ _).1 h.2.2.2.1
    · rw [if_neg (by omega), if_pos (by omega)] at hp
      rcases List.mem_cons.1 hp with e | e
      · subst e; exact (inn_iff _ _).1 h.2.2.1
      · rw [List.mem_singleton] at e; subst e; exact (inn_iff _ _).1 h.2.2.2.1
    · rw [if_neg (by omega), if_neg (by omega), if_pos (by omega)] at hp; exact args_all h.2.2.2.2.2 p hp
    · rw [if_pos (by omega), List.mem_singleton] at hp; subst hp; exact (inn_iff _ _).1 h.2.2.1
    · rw [if_neg (by omega), if_neg (by omega), if_neg (by omega)] at hp; cases hp
  · have h := hin x hx
    unfold setsB at hs
    rw [decide_eq_true_eq] at hs
    rcases h with h | h | h | h | h | h | h <;> first | omega | exact (inn_iff _ _).1 h.2.1
def upT (g : Nat → Bool) (p : Int) (v : Bool) : Nat → Bool := fun q => if q = p.toNat then v else g q
def upAll (g : Nat → Bool) (l : List Int) : Nat → Bool := l.foldl (fun g p => upT g p true) g
def stepX (x : Ins) (g : Nat → Bool) : Nat → Bool := upAll (if setsB x = true then upT g (setsV x) false else g) (asksL x)
def butOf (b : Block) : Int := if b.fin.kind = 4 then b.fin.dst else -1
def gGoals (A : List (List Bool)) (R : Nat) (b : Block) (l : List Int) : Nat → Bool := l.foldl (fun g k => mgF g (A.getD k.toNat []) (butOf b) R) (fun _ => false)
def gPad (A : List (List Bool)) (R : Nat) (f : Func) (b : Block) : Nat → Bool := if b.fin.kind = 4 then mgF (gGoals A R b (goalsL b)) (A.getD b.fin.pad.toNat []) (f.blocks.getD b.fin.pad.toNat default).pad.dst R else gGoals A R b (goalsL b)
def gEnd (A : List (List Bool)) (R : Nat) (f : Func) (b : Block) : Nat → Bool := upAll (gPad A R f b) (endAsksL b.fin)
def gIns (A : List (List Bool)) (R : Nat) (f : Func) (b : Block) : Nat → Bool := b.ins.foldr stepX (gEnd A R f b)
def listB (R : Nat) (g : Nat → Bool) : List Bool := (List.range R).map g
theorem listB_len (R : Nat) (g : Nat → Bool) : (listB R g).length = R := by simp [listB]
theorem listB_at {R q : Nat} {g : Nat → Bool} (h : q < R) : (listB R g).getD q false = g q := by
  unfold listB; rw [List.getD_eq_getElem?_getD, List.getElem?_map, List.getElem?_range h]; rfl
theorem upAll_succ {g : Nat → Bool} {l : List Int} {j : Nat} (h : j < l.length) : upAll g (l.take (j + 1)) = upT (upAll g (l.take j)) (l.getD j 0) true := by
  unfold upAll; rw [take_succ_getD 0 h, List.foldl_append]; rfl
theorem gGoals_succ {A : List (List Bool)} {R : Nat} {b : Block} {l : List Int} {j : Nat} (h : j < l.length) : gGoals A R b (l.take (j + 1)) = mgF (gGoals A R b (l.take j)) (A.getD (l.getD j 0).toNat []) (butOf b) R := by
  unfold gGoals; rw [take_succ_getD 0 h, List.foldl_append]; rfl
theorem upRow {g : Nat → Bool} {K : Nat} {p : Int} {v : Bool} {z : Nat} (h : K = p.toNat) : updR (fun q => [.bool (g q)]) K [.bool v] z = [.bool (upT g p v z)] := by
  subst h
  unfold upT
  by_cases e : p.toNat = z
  · subst e; rw [if_pos rfl]; exact updR_hit
  · rw [if_neg (fun h => e h.symm)]; exact updR_miss e
theorem c_Backward (l : List Ins) : FC Try.prog 148 [inss l] (.fn 162 [.ip [inss l]]) := by
  refine FC_intro tok Try.func148 rfl (by decide +kernel) (Nat.le_of_ble_eq_true rfl) ?_
  (repeat' first | refine AWp_seq ?_ | (refine AWp_reg tok (by rfl) ?_; conv => whnf) | (refine AWp_ret ?_; conv => whnf))
  exact ⟨_, rfl, Rel.fn (Rels.cons (Rel.bp rfl Nat.zero_lt_one (Rels.imm rfl)) Rels.nil)⟩
def newAt (A : List (List Bool)) (R : Nat) (f : Func) (n : Nat) : List Bool := listB R (gIns A R f (f.blocks.getD n default))
def newBe (A : List (List Bool)) (R : Nat) (f : Func) (n : Nat) : List Bool := listB R (gPad A R f (f.blocks.getD n default))
structure OkA (f : Func) (A : List (List Bool)) : Prop where
  len : A.length = f.blocks.length
  each : ∀ i, i < A.length → ((A.getD i []).length : Int) = f.regs
set_option maxHeartbeats 4000000 in
theorem c_over (f : Func) (n : Nat) (A B : List (List Bool)) (hR0 : 0 ≤ f.regs) (hR2 : f.regs ≤ 256) (hA : OkA f A) (hB : B.length = f.blocks.length) (hn : n < f.blocks.length) (hfb : f.blocks.length ≤ 64) (hok : OkL f (f.blocks.getD n default)) :
    HC Try.prog [k0, k1, k2] 127 [(k0, sBox f k1 k2 A.length B.length), (k1, setR A A.length), (k2, setR B B.length)] [.bp k0 0, iv n] (.bool (decide (newAt A f.regs.toNat f n ≠ A.getD n [])))
      [(k0, sBox f k1 k2 A.length B.length), (k1, setR (A.set n (newAt A f.regs.toNat f n)) A.length), (k2, setR (B.set n (newBe A f.regs.toNat f n)) B.length)] := by
  refine HC_intro tok Try.func127 rfl (by decide +kernel) (Nat.le_of_ble_eq_true rfl) ?_
  have hmx : maxL = 4294967296 := rfl
  have hAl := hA.len
  have hAe : ∀ i, i < A.length → (A.getD i []).length = f.regs.toNat := fun i hi => by have := hA.each i hi; omega
  have hgen : ∃ b, f.blocks.getD n default = b := ⟨_, rfl⟩
  obtain ⟨b, hbn⟩ := hgen
  unfold newAt newBe
  rw [hbn] at hok ⊢
  ((repeat' ((fail_if_success (show AWp _ _ _ (Code.region 3 _ _) _ _)); first | refine AWp_seq ?_ | (refine AWp_reg tok (by rfl) ?_; conv => whnf) | (refine @And.intro (underG _ _ _ _) _ ?_ ?_; rotate_left; (conv => whnf); rotate_right))); all_goals (try ((guard_target = underG _ _ _ _); refine underG_none ?_; (all_goals (try simp only [underG, kz1, kz2, kz3, kz4, kz5, kz6, kz7, kz8, kz9, kz10, kz11, kz12, kz13, kz14, kz15, kz16, kz17, kz18, kz19, kz20, maxL, inn_iff] at *)); all_goals omega)))
  refine AWp_weak (Weak.list (tl := [(0, .bp k0 0), (1, iv n), (5, .bp (5, 0, 0) 0), (6, .bp (6, 7, 0) 0)]) [((1, 7, 0), .old (1, 7, 0), sBox f k1 k2 A.length B.length), ((2, 7, 0), .old (2, 7, 0), setR A A.length), ((3, 7, 0), .old (3, 7, 0), setR B B.length), ((5, 0, 0), .old (5, 0, 0), .row true 14 1 (fun _ => encBlock b)), ((6, 7, 0), .old (6, 0, 0), .row false 1 1 (fun _ => [.rs (32, 0, 0) 1 0 f.regs.toNat])), ((32, 0, 0), .old (32, 0, 0), boolR f.regs.toNat (fun _ => false))] rfl (by rfl) ?_ (.old rfl (BLe.rowO rfl) (.old rfl (BLe.refl _) (.old rfl (BLe.refl _) (.old rfl (BLe.rowW (Nat.le_refl _) (ltS (Wks.of (by rw [← hbn, Int.toNat_natCast]; rfl)) lt0)) (.old rfl (BLe.rowO rfl) (.old rfl (BLe.refl _) .nil))))))) ?_
  · ((repeat' first | exact TLes.nil | refine TLes.cons (TLe.eq rfl) ?_); skip)
  (repeat' (refine AWp_reg tok (by rfl) ?_; conv => whnf))
  refine .inl ⟨_, _, _, uG (QC.fo (rd := []) (c_Goals b) (Ress.imms rfl) (.inl rfl) rfl), ?_⟩
  conv => whnf
  (repeat' refine AWp_block ?_)
  have hlen3 : (goalsL b).length ≤ 2 := by
    unfold goalsL; split
    · simp
    · split <;> simp
  refine AWp_loop (fun k : Nat => mkS [(0, .bp k0 0), (1, iv n), (5, .bp (5, 0, 0) 0), (6, .bp (6, 7, 0) 0), (34, .rs (34, 0, 0) 1 0 (goalsL b).length), (35, iv (goalsL b).length), (36, iv k)] [((1, 7, 0), sBox f k1 k2 A.length B.length), ((2, 7, 0), setR A A.length), ((3, 7, 0), setR B B.length), ((5, 0, 0), .row true 14 1 (fun _ => encBlock b)), ((6, 7, 0), .row false 1 1 (fun _ => [.rs (32, 0, 0) 1 0 f.regs.toNat])), ((32, 0, 0), boolR f.regs.toNat (gGoals A f.regs.toNat b ((goalsL b).take k))), ((34, 0, 0), .row true 1 (goalsL b).length (fun i => [iv ((goalsL b).getD i 0)]))]) (fun k => k ≤ (goalsL b).length) (fun k => (goalsL b).length - k) 0 (Nat.zero_le _) ?_ ?_
  · refine Weak.list [((1, 7, 0), .old (1, 7, 0), sBox f k1 k2 A.length B.length), ((2, 7, 0), .old (2, 7, 0), setR A A.length), ((3, 7, 0), .old (3, 7, 0), setR B B.length), ((5, 0, 0), .old (5, 0, 0), .row true 14 1 (fun _ => encBlock b)), ((6, 7, 0), .old (6, 7, 0), .row false 1 1 (fun _ => [.rs (32, 0, 0) 1 0 f.regs.toNat])), ((32, 0, 0), .old (32, 0, 0), boolR f.regs.toNat (gGoals A f.regs.toNat b ((goalsL b).take 0))), ((34, 0, 0), .old (34, 0, 0), .row true 1 (goalsL b).length (fun i => [iv ((goalsL b).getD i 0)]))] rfl (by rfl) ?_ (.old rfl (BLe.rowO rfl) (.old rfl (BLe.refl _) (.old rfl (BLe.refl _) (.old rfl (BLe.refl _) (.old rfl (BLe.rowO rfl) (.old rfl (BLe.refl _) (.old rfl (BLe.refl _) .nil)))))))
    ((repeat' first | exact TLes.nil | refine TLes.cons (TLe.eq rfl) ?_); skip)
  intro k hk
  (repeat' ((fail_if_success (show AWp _ _ _ (Code.region 5 _ _) _ _)); (fail_if_success (show AWp _ _ _ (Code.region 11 _ _) _ _)); first | refine AWp_seq ?_ | (refine AWp_reg tok (by rfl) ?_; conv => whnf) | refine AWp_block ?_ | (refine AWp_skip ?_; conv => whnf) | (refine AWp_exit ?_; conv => whnf) | refine AWp_cond rfl (fun hb => ?_) (fun hb => ?_)))
  · have hkl : k < (goalsL b).length := by simp only [decide_eq_true_eq] at hb; omega
    clear hb
    have hsucc := gGoals_succ (A := A) (R := f.regs.toNat) (b := b) hkl
    have hgk := hok.goals _ (getD_mem 0 hkl)
    have hgen : ∃ q : Nat, (goalsL b).getD k 0 = q := ⟨((goalsL b).getD k 0).toNat, by omega⟩
    obtain ⟨q, hq⟩ := hgen
    rw [hq] at hsucc hgk
    have hAq := hAe q (by omega)
    rw [Int.toNat_natCast] at hsucc
    have hcall : ∀ x y, x = (goalsL b).getD (k : Int).toNat 0 → y = butOf b → HC Try.prog [k0, k1, k2, k3] 146 [(k0, sBox f k1 k2 A.length B.length), (k1, setR A A.length), (k2, setR B B.length), (k3, boolR f.regs.toNat (gGoals A f.regs.toNat b ((goalsL b).take k)))] [.bp k0 0, .rs k3 1 0 f.regs.toNat, iv x, iv y] (.tup [])
        [(k0, sBox f k1 k2 A.length B.length), (k1, setR A A.length), (k2, setR B B.length), (k3, boolR f.regs.toNat (gGoals A f.regs.toNat b ((goalsL b).take (k + 1))))] := fun x y e1 e2 => by
      have := c_merge f A B A.length B.length f.regs.toNat (gGoals A f.regs.toNat b ((goalsL b).take k)) q y (by omega) (by omega)
      rw [hAq, e2] at this
      rw [hsucc, e1, e2, Int.toNat_natCast, hq]; exact this
    ((repeat' ((fail_if_success (show AWp _ _ _ (Code.region 9 _ _) _ _)); first | refine AWp_seq ?_ | (refine AWp_reg tok (by rfl) ?_; conv => whnf) | (refine AWp_skip ?_; conv => whnf) | refine AWp_cond rfl (fun hb => ?_) (fun hb => ?_) | (refine @And.intro (underG _ _ _ _) _ ?_ ?_; rotate_left; (conv => whnf); rotate_right))); all_goals (try ((guard_target = underG _ _ _ _); refine underG_none ?_; (all_goals (try simp only [underG, kz1, kz2, kz3, kz4, kz5, kz6, kz7, kz8, kz9, kz10, kz11, kz12, kz13, kz14, kz15, kz16, kz17, kz18, kz19, kz20, maxL, inn_iff] at *)); all_goals omega)))
    · have hbo : butOf b = b.fin.dst := by unfold butOf; rw [if_pos (by simpa using hb)]
      clear hb
      (repeat' (refine AWp_reg tok (by rfl) ?_; conv => whnf))
      refine .inr ⟨_, _, _, uG (QH.of (dead := []) [(k0, .old k0, sBox f k1 k2 A.length B.length), (k1, .old k1, setR A A.length), (k2, .old k2, setR B B.length), (k3, .old (32, 0, 0), boolR f.regs.toNat (gGoals A f.regs.toNat b ((goalsL b).take k)))] (hcall ((goalsL b).getD (0 + (k : Int).toNat) 0) b.fin.dst (by rw [Nat.zero_add]) hbo.symm) rfl (.old rfl (BLe.rowO rfl) (.old rfl (BLe.refl _) (.old rfl (BLe.refl _) (.old rfl (BLe.refl _) .nil)))) (.cons (.eq rfl) (.cons (.eq rfl) (.cons (.eq rfl) (.cons (.eq rfl) .nil)))) [(k0, k0), (k1, k1), (k2, k2), (k3, (32, 0, 0))] rfl (.cons rfl (BLe.rowO rfl) (.cons rfl (BLe.refl _) (.cons rfl (BLe.refl _) (.cons rfl (BLe.refl _) .nil)))) rfl), ?_⟩
      conv => whnf
      (repeat' (refine AWp_reg tok (by rfl) ?_; conv => whnf))
      refine ⟨k + 1, hkl, by omega, ?_⟩
      refine Weak.list [((1, 7, 0), .old (1, 7, 0), sBox f k1 k2 A.length B.length), ((2, 7, 0), .old (2, 7, 0), setR A A.length), ((3, 7, 0), .old (3, 7, 0), setR B B.length), ((5, 0, 0), .old (5, 0, 0), .row true 14 1 (fun _ => encBlock b)), ((6, 7, 0), .old (6, 7, 0), .row false 1 1 (fun _ => [.rs (32, 0, 0) 1 0 f.regs.toNat])), ((32, 0, 0), .old (32, 0, 0), boolR f.regs.toNat (gGoals A f.regs.toNat b ((goalsL b).take (k + 1)))), ((34, 0, 0), .old (34, 0, 0), .row true 1 (goalsL b).length (fun i => [iv ((goalsL b).getD i 0)]))] rfl (by rfl) ?_ (.old rfl (BLe.rowO rfl) (.old rfl (BLe.refl _) (.old rfl (BLe.refl _) (.old rfl (BLe.refl _) (.old rfl (BLe.rowO rfl) (.old rfl (BLe.refl _) (.old rfl (BLe.refl _) .nil)))))))
      ((repeat' first | exact TLes.nil | refine TLes.cons (TLe.eq rfl) ?_ | refine TLes.cons (TLe.int ?_) ?_); (all_goals first | ((try (simp only [underG, kz1, kz2, kz3, kz4, kz5, kz6, kz7, kz8, kz9, kz10, kz11, kz12, kz13, kz14, kz15, kz16, kz17, kz18, kz19, kz20, maxL, inn_iff] at *)); exact wrap64 (by omega) (by omega)) | skip))
    · have hbo : butOf b = -1 := by unfold butOf; rw [if_neg (by simpa using hb)]
      clear hb
      (repeat' (refine AWp_reg tok (by rfl) ?_; conv => whnf))
      refine .inr ⟨_, _, _, uG (QH.of (dead := []) [(k0, .old k0, sBox f k1 k2 A.length B.length), (k1, .old k1, setR A A.length), (k2, .old k2, setR B B.length), (k3, .old (32, 0, 0), boolR f.regs.toNat (gGoals A f.regs.toNat b ((goalsL b).take k)))] (hcall ((goalsL b).getD (0 + (k : Int).toNat) 0) (-1) (by rw [Nat.zero_add]) hbo.symm) rfl (.old rfl (BLe.rowO rfl) (.old rfl (BLe.refl _) (.old rfl (BLe.refl _) (.old rfl (BLe.refl _) .nil)))) (.cons (.eq rfl) (.cons (.eq rfl) (.cons (.eq rfl) (.cons (.eq rfl) .nil)))) [(k0, k0), (k1, k1), (k2, k2), (k3, (32, 0, 0))] rfl (.cons rfl (BLe.rowO rfl) (.cons rfl (BLe.refl _) (.cons rfl (BLe.refl _) (.cons rfl (BLe.refl _) .nil)))) rfl), ?_⟩
      conv => whnf
      (repeat' (refine AWp_reg tok (by rfl) ?_; conv => whnf))
      refine ⟨k + 1, hkl, by omega, ?_⟩
      refine Weak.list [((1, 7, 0), .old (1, 7, 0), sBox f k1 k2 A.length B.length), ((2, 7, 0), .old (2, 7, 0), setR A A.length), ((3, 7, 0), .old (3, 7, 0), setR B B.length), ((5, 0, 0), .old (5, 0, 0), .row true 14 1 (fun _ => encBlock b)), ((6, 7, 0), .old (6, 7, 0), .row false 1 1 (fun _ => [.rs (32, 0, 0) 1 0 f.regs.toNat])), ((32, 0, 0), .old (32, 0, 0), boolR f.regs.toNat (gGoals A f.regs.toNat b ((goalsL b).take (k + 1)))), ((34, 0, 0), .old (34, 0, 0), .row true 1 (goalsL b).length (fun i => [iv ((goalsL b).getD i 0)]))] rfl (by rfl) ?_ (.old rfl (BLe.rowO rfl) (.old rfl (BLe.refl _) (.old rfl (BLe.refl _) (.old rfl (BLe.refl _) (.old rfl (BLe.rowO rfl) (.old rfl (BLe.refl _) (.old rfl (BLe.refl _) .nil)))))))
      ((repeat' first | exact TLes.nil | refine TLes.cons (TLe.eq rfl) ?_ | refine TLes.cons (TLe.int ?_) ?_); (all_goals first | ((try (simp only [underG, kz1, kz2, kz3, kz4, kz5, kz6, kz7, kz8, kz9, kz10, kz11, kz12, kz13, kz14, kz15, kz16, kz17, kz18, kz19, kz20, maxL, inn_iff] at *)); exact wrap64 (by omega) (by omega)) | skip))
  have hkl : k = (goalsL b).length := by simp only [decide_eq_false_iff_not] at hb; omega
  clear hb
  subst hkl
  refine AWp_weak (Weak.list (tl := [(0, .bp k0 0), (1, iv n), (5, .bp (5, 0, 0) 0), (6, .bp (6, 7, 0) 0)]) [((1, 7, 0), .old (1, 7, 0), sBox f k1 k2 A.length B.length), ((2, 7, 0), .old (2, 7, 0), setR A A.length), ((3, 7, 0), .old (3, 7, 0), setR B B.length), ((5, 0, 0), .old (5, 0, 0), .row true 14 1 (fun _ => encBlock b)), ((6, 7, 0), .old (6, 7, 0), .row false 1 1 (fun _ => [.rs (32, 0, 0) 1 0 f.regs.toNat])), ((32, 0, 0), .old (32, 0, 0), boolR f.regs.toNat (gGoals A f.regs.toNat b (goalsL b)))] rfl (by rfl) ?_ (.old rfl (BLe.rowO rfl) (.old rfl (BLe.refl _) (.old rfl (BLe.refl _) (.old rfl (BLe.refl _) (.old rfl (BLe.rowO rfl) (.old rfl (BLe.rowW (Nat.le_refl _) (fun z hz => Wks.of (by rw [List.take_length]; rfl))) .nil))))))) ?_
  · ((repeat' first | exact TLes.nil | refine TLes.cons (TLe.eq rfl) ?_); skip)
  refine AWp_reg tok (by rfl) ?_
  conv => whnf
  refine AWp_meet (α := Unit) (fun _ => mkS [(0, .bp k0 0), (1, iv n), (5, .bp (5, 0, 0) 0), (6, .bp (6, 7, 0) 0)] [((1, 7, 0), sBox f k1 k2 A.length B.length), ((2, 7, 0), setR A A.length), ((3, 7, 0), setR B B.length), ((5, 0, 0), .row true 14 1 (fun _ => encBlock b)), ((6, 7, 0), .row false 1 1 (fun _ => [.rs (32, 0, 0) 1 0 f.regs.toNat])), ((32, 0, 0), boolR f.regs.toNat (gPad A f.regs.toNat f b))]) (fun _ => True) ?_ ?_
  · refine AWp_cond rfl (fun hb => ?_) (fun hb => ?_)
    · have h4 : b.fin.kind = 4 := by simpa using hb
      clear hb
      obtain ⟨hp1, hp2⟩ := hok.pad h4
      have hgen : ∃ q : Nat, b.fin.pad = q := ⟨b.fin.pad.toNat, by omega⟩
      obtain ⟨q, hq⟩ := hgen
      have hAq := hAe q (by omega)
      have hcall : ∀ x y, x = b.fin.pad → y = (f.blocks.getD b.fin.pad.toNat default).pad.dst → HC Try.prog [k0, k1, k2, k3] 146 [(k0, sBox f k1 k2 A.length B.length), (k1, setR A A.length), (k2, setR B B.length), (k3, boolR f.regs.toNat (gGoals A f.regs.toNat b (goalsL b)))] [.bp k0 0, .rs k3 1 0 f.regs.toNat, iv x, iv y] (.tup [])
          [(k0, sBox f k1 k2 A.length B.length), (k1, setR A A.length), (k2, setR B B.length), (k3, boolR f.regs.toNat (gPad A f.regs.toNat f b))] := fun x y e1 e2 => by
        have := c_merge f A B A.length B.length f.regs.toNat (gGoals A f.regs.toNat b (goalsL b)) q y (by omega) (by omega)
        have e3 : gPad A f.regs.toNat f b = mgF (gGoals A f.regs.toNat b (goalsL b)) (A.getD q []) (f.blocks.getD b.fin.pad.toNat default).pad.dst f.regs.toNat := by
          unfold gPad; rw [if_pos h4, hq, Int.toNat_natCast]
        rw [e3, e1, hq]
        rw [hAq] at this
        rw [e2, hq] at this
        rw [e2, hq]; exact this
      have hfl : 0 ≤ b.fin.pad ∧ b.fin.pad < f.blocks.length := ⟨hp1, hp2⟩
      ((repeat' first | (refine AWp_any tok mix (by rfl) ?_; conv => whnf) | (refine @And.intro (underG _ _ _ _) _ ?_ ?_; rotate_left; (conv => whnf); rotate_right)); all_goals (try ((guard_target = underG _ _ _ _); refine underG_none ?_; (all_goals (try simp only [underG, kz1, kz2, kz3, kz4, kz5, kz6, kz7, kz8, kz9, kz10, kz11, kz12, kz13, kz14, kz15, kz16, kz17, kz18, kz19, kz20, maxL, inn_iff] at *)); all_goals omega)))
      refine .inr ⟨_, _, _, uG (QH.of (dead := []) [(k0, .old k0, sBox f k1 k2 A.length B.length), (k1, .old k1, setR A A.length), (k2, .old k2, setR B B.length), (k3, .old (32, 0, 0), boolR f.regs.toNat (gGoals A f.regs.toNat b (goalsL b)))] (hcall b.fin.pad (f.blocks.getD b.fin.pad.toNat default).pad.dst rfl rfl) rfl (.old rfl (BLe.rowO rfl) (.old rfl (BLe.refl _) (.old rfl (BLe.refl _) (.old rfl (BLe.refl _) .nil)))) (.cons (.eq rfl) (.cons (.eq rfl) (.cons (.eq rfl) (.cons (.eq rfl) .nil)))) [(k0, k0), (k1, k1), (k2, k2), (k3, (32, 0, 0))] rfl (.cons rfl (BLe.rowO rfl) (.cons rfl (BLe.refl _) (.cons rfl (BLe.refl _) (.cons rfl (BLe.refl _) .nil)))) rfl), ?_⟩
      conv => whnf
      skip
      refine ⟨(), trivial, Weak.list [((1, 7, 0), .old (1, 7, 0), sBox f k1 k2 A.length B.length), ((2, 7, 0), .old (2, 7, 0), setR A A.length), ((3, 7, 0), .old (3, 7, 0), setR B B.length), ((5, 0, 0), .old (5, 0, 0), .row true 14 1 (fun _ => encBlock b)), ((6, 7, 0), .old (6, 7, 0), .row false 1 1 (fun _ => [.rs (32, 0, 0) 1 0 f.regs.toNat])), ((32, 0, 0), .old (32, 0, 0), boolR f.regs.toNat (gPad A f.regs.toNat f b))] rfl (by rfl) ?_ (.old rfl (BLe.rowO rfl) (.old rfl (BLe.refl _) (.old rfl (BLe.refl _) (.old rfl (BLe.refl _) (.old rfl (BLe.rowO rfl) (.old rfl (BLe.refl _) .nil))))))⟩
      ((repeat' first | exact TLes.nil | refine TLes.cons (TLe.eq rfl) ?_); skip)
    · have h4 : ¬ b.fin.kind = 4 := by simpa using hb
      clear hb
      (repeat' (refine AWp_skip ?_; conv => whnf))
      refine ⟨(), trivial, Weak.list [((1, 7, 0), .old (1, 7, 0), sBox f k1 k2 A.length B.length), ((2, 7, 0), .old (2, 7, 0), setR A A.length), ((3, 7, 0), .old (3, 7, 0), setR B B.length), ((5, 0, 0), .old (5, 0, 0), .row true 14 1 (fun _ => encBlock b)), ((6, 7, 0), .old (6, 7, 0), .row false 1 1 (fun _ => [.rs (32, 0, 0) 1 0 f.regs.toNat])), ((32, 0, 0), .old (32, 0, 0), boolR f.regs.toNat (gPad A f.regs.toNat f b))] rfl (by rfl) ?_ (.old rfl (BLe.rowO rfl) (.old rfl (BLe.refl _) (.old rfl (BLe.refl _) (.old rfl (BLe.refl _) (.old rfl (BLe.rowO rfl) (.old rfl (BLe.rowW (Nat.le_refl _) (fun z hz => Wks.of (by unfold gPad; rw [if_neg h4]; rfl))) .nil))))))⟩
      ((repeat' first | exact TLes.nil | refine TLes.cons (TLe.eq rfl) ?_); skip)
  rintro ⟨⟩ - τ hw
  refine AWp_weak hw ?_
  clear hw
  have hcl : FO Try.prog 147 [bools (listB f.regs.toNat (gPad A f.regs.toNat f b))] 1 (listB f.regs.toNat (gPad A f.regs.toNat f b)).length (fun i => [.bool ((listB f.regs.toNat (gPad A f.regs.toNat f b)).getD i false)]) := c_CloneBools _
  have hli : ∀ q, q < f.regs.toNat → [AV.bool (gPad A f.regs.toNat f b q)] = [AV.bool ((listB f.regs.toNat (gPad A f.regs.toNat f b)).getD q false)] := fun q hq => by rw [listB_at hq]
  have hll := listB_len f.regs.toNat (gPad A f.regs.toNat f b)
  have hgen : ∃ be, listB f.regs.toNat (gPad A f.regs.toNat f b) = be := ⟨_, rfl⟩
  obtain ⟨be, hbe⟩ := hgen
  rw [hbe] at hcl hli hll ⊢
  (repeat' first | refine AWp_seq ?_ | (refine AWp_any tok mix (by rfl) ?_; conv => whnf))
  refine .inl ⟨_, _, _, uG (QC.fo (rd := [(32, 0, 0)]) hcl (.cons (.row rfl (.head _) rfl hll.symm hli) .nil) (.inr (fun _ _ => rfl)) rfl), ?_⟩
  conv => whnf
  ((repeat' ((fail_if_success (show AWp _ _ _ (Code.region 14 _ _) _ _)); first | refine AWp_seq ?_ | (refine @And.intro (underG _ _ _ _) _ ?_ ?_; rotate_left; (conv => whnf); rotate_right))); all_goals (try ((guard_target = underG _ _ _ _); refine underG_none ?_; (all_goals (try simp only [underG, kz1, kz2, kz3, kz4, kz5, kz6, kz7, kz8, kz9, kz10, kz11, kz12, kz13, kz14, kz15, kz16, kz17, kz18, kz19, kz20, maxL, inn_iff] at *)); all_goals omega)))
  have hLp : ∀ (h : AHeap), (h k0).isSome = true → (h k1).isSome = true → (h k2).isSome = true → ∀ i ∈ [k0, k1, k2], pinId i = true → (h i).isSome = true ∧ srcL [] i = some i := fun h h0 h1 h2 i hi _ => by
    simp only [List.mem_cons, List.not_mem_nil, or_false] at hi
    rcases hi with rfl | rfl | rfl
    · exact ⟨h0, rfl⟩
    · exact ⟨h1, rfl⟩
    · exact ⟨h2, rfl⟩
  refine AWp_weak (Weak.fam (tl := [(0, .bp k0 0), (1, iv n), (5, .bp (5, 0, 0) 0), (6, .bp (6, 7, 0) 0)]) (hl := [((1, 7, 0), sBox f k1 k2 A.length B.length), ((2, 7, 0), setR A A.length), ((3, 7, 0), setR (B.set n be) B.length), ((5, 0, 0), .row true 14 1 (fun _ => encBlock b)), ((6, 7, 0), .row false 1 1 (fun _ => [.rs (32, 0, 0) 1 0 f.regs.toNat])), ((32, 0, 0), boolR f.regs.toNat (gPad A f.regs.toNat f b))]) (F := noH) [] rfl (fun i hi => by cases hi) ?_ ?_ noF (hLp _ rfl rfl rfl)) ?_
  · (repeat' first | exact TLg.nil | refine TLg.cons (GV.imm rfl) ?_ | refine TLg.cons (GV.bp rfl rfl) ?_)
    all_goals rfl
  · refine .old rfl rfl (GB.one (.cons (.imm rfl) (.cons (.imm rfl) (.cons (.imm rfl) (.cons (.rs rfl rfl rfl rfl) (.cons (.rs rfl rfl rfl rfl) .nil))))) (fun e => by cases e)) (.old rfl rfl (GB.rowI (Nat.le_refl _) (fun q hq => ⟨rfl, rfl⟩)) (.old rfl rfl (GB.row (Nat.le_refl _) (fun q hq => GVs.upd (fun e => ?_) (fun e => ?_)) (fun _ _ _ => rfl)) (.old rfl rfl (GB.one (GVs.imm rfl) (fun _ => rfl)) (.old rfl rfl (GB.one (.cons (.rs rfl rfl rfl rfl) .nil) (fun e => by cases e)) (.old rfl rfl (GB.rowI (Nat.le_refl _) (fun q hq => ⟨rfl, rfl⟩)) .nil)))))
    · rw [Nat.zero_add, Int.toNat_natCast] at e
      subst e
      rw [getD_set, if_pos ⟨rfl, hq⟩]
      exact .cons (.frz (hd_no rfl) rfl (Nat.le_of_eq (Nat.zero_add _)) rfl (fun x hx => GVs.eqI rfl (by rw [Nat.zero_add])) (fun _ _ => rfl)) .nil
    · rw [Nat.zero_add, Int.toNat_natCast] at e
      rw [getD_set, if_neg (fun h => e h.1.symm)]
      exact GVs.imm rfl
  (repeat' (refine AWp_reg tok (by rfl) ?_; conv => whnf))
  refine .inl ⟨_, _, _, uG (QC.fo (rd := []) (c_EndAsks b.fin) (Ress.imms rfl) (.inl rfl) rfl), ?_⟩
  conv => whnf
  (repeat' refine AWp_block ?_)
  refine AWp_facts 86 (fun hl => ?_)
  have hle : ((endAsksL b.fin).length : Int) ≤ 9223372036854775807 := hl.2
  clear hl
  refine AWp_loop (fun j : Nat => mkS [(0, .bp k0 0), (1, iv n), (5, .bp (5, 0, 0) 0), (6, .bp (6, 7, 0) 0), (85, .rs (85, 0, 0) 1 0 (endAsksL b.fin).length), (86, iv (endAsksL b.fin).length), (87, iv j)] [((1, 7, 0), sBox f k1 k2 A.length B.length), ((2, 7, 0), setR A A.length), ((3, 7, 0), setR (B.set n be) B.length), ((5, 0, 0), .row true 14 1 (fun _ => encBlock b)), ((6, 7, 0), .row false 1 1 (fun _ => [.rs (32, 0, 0) 1 0 f.regs.toNat])), ((32, 0, 0), boolR f.regs.toNat (upAll (gPad A f.regs.toNat f b) ((endAsksL b.fin).take j))), ((85, 0, 0), .row true 1 (endAsksL b.fin).length (fun i => [iv ((endAsksL b.fin).getD i 0)]))]) (fun j => j ≤ (endAsksL b.fin).length) (fun j => (endAsksL b.fin).length - j) 0 (Nat.zero_le _) ?_ ?_
  · refine Weak.list [((1, 7, 0), .old (1, 7, 0), sBox f k1 k2 A.length B.length), ((2, 7, 0), .old (2, 7, 0), setR A A.length), ((3, 7, 0), .old (3, 7, 0), setR (B.set n be) B.length), ((5, 0, 0), .old (5, 0, 0), .row true 14 1 (fun _ => encBlock b)), ((6, 7, 0), .old (6, 7, 0), .row false 1 1 (fun _ => [.rs (32, 0, 0) 1 0 f.regs.toNat])), ((32, 0, 0), .old (32, 0, 0), boolR f.regs.toNat (upAll (gPad A f.regs.toNat f b) ((endAsksL b.fin).take 0))), ((85, 0, 0), .old (85, 0, 0), .row true 1 (endAsksL b.fin).length (fun i => [iv ((endAsksL b.fin).getD i 0)]))] rfl (by rfl) ?_ (.old rfl (BLe.rowO rfl) (.old rfl (BLe.refl _) (.old rfl (BLe.refl _) (.old rfl (BLe.refl _) (.old rfl (BLe.rowO rfl) (.old rfl (BLe.refl _) (.old rfl (BLe.refl _) .nil)))))))
    ((repeat' first | exact TLes.nil | refine TLes.cons (TLe.eq rfl) ?_); skip)
  intro j hj
  (repeat' ((fail_if_success (show AWp _ _ _ (Code.region 16 _ _) _ _)); (fail_if_success (show AWp _ _ _ (Code.region 19 _ _) _ _)); first | refine AWp_seq ?_ | (refine AWp_reg tok (by rfl) ?_; conv => whnf) | refine AWp_block ?_ | (refine AWp_skip ?_; conv => whnf) | (refine AWp_exit ?_; conv => whnf) | refine AWp_cond rfl (fun hb => ?_) (fun hb => ?_)))
  · have hjl : j < (endAsksL b.fin).length := by simp only [decide_eq_true_eq] at hb; omega
    clear hb
    have hsucc := upAll_succ (g := gPad A f.regs.toNat f b) hjl
    have hpj := hok.ends _ (getD_mem 0 hjl)
    have hji : (endAsksL b.fin).getD (0 + (j : Int).toNat) 0 = (endAsksL b.fin).getD j 0 := by simp
    have hji2 : (endAsksL b.fin).getD (j : Int).toNat 0 = (endAsksL b.fin).getD j 0 := by simp
    ((repeat' first | (refine AWp_reg tok (by rfl) ?_; conv => whnf) | (refine @And.intro (underG _ _ _ _) _ ?_ ?_; rotate_left; (conv => whnf); rotate_right)); all_goals (try ((guard_target = underG _ _ _ _); refine underG_none ?_; (all_goals (try simp only [underG, kz1, kz2, kz3, kz4, kz5, kz6, kz7, kz8, kz9, kz10, kz11, kz12, kz13, kz14, kz15, kz16, kz17, kz18, kz19, kz20, maxL, inn_iff] at *)); all_goals omega)))
    refine ⟨j + 1, hjl, by omega, ?_⟩
    refine Weak.list [((1, 7, 0), .old (1, 7, 0), sBox f k1 k2 A.length B.length), ((2, 7, 0), .old (2, 7, 0), setR A A.length), ((3, 7, 0), .old (3, 7, 0), setR (B.set n be) B.length), ((5, 0, 0), .old (5, 0, 0), .row true 14 1 (fun _ => encBlock b)), ((6, 7, 0), .old (6, 7, 0), .row false 1 1 (fun _ => [.rs (32, 0, 0) 1 0 f.regs.toNat])), ((32, 0, 0), .old (32, 0, 0), boolR f.regs.toNat (upAll (gPad A f.regs.toNat f b) ((endAsksL b.fin).take (j + 1)))), ((85, 0, 0), .old (85, 0, 0), .row true 1 (endAsksL b.fin).length (fun i => [iv ((endAsksL b.fin).getD i 0)]))] rfl (by rfl) ?_ (.old rfl (BLe.rowO rfl) (.old rfl (BLe.refl _) (.old rfl (BLe.refl _) (.old rfl (BLe.refl _) (.old rfl (BLe.rowO rfl) (.old rfl (BLe.rowW (Nat.le_refl _) (fun z hz => Wks.of ?_)) (.old rfl (BLe.refl _) .nil)))))))
    · ((repeat' first | exact TLes.nil | refine TLes.cons (TLe.eq rfl) ?_ | refine TLes.cons (TLe.int ?_) ?_); (all_goals first | ((try (simp only [underG, kz1, kz2, kz3, kz4, kz5, kz6, kz7, kz8, kz9, kz10, kz11, kz12, kz13, kz14, kz15, kz16, kz17, kz18, kz19, kz20, maxL, inn_iff] at *)); exact wrap64 (by omega) (by omega)) | skip))
    · rw [hsucc]
      exact upRow (by rw [Nat.zero_add]; exact congrArg Int.toNat hji)
  have hjl : j = (endAsksL b.fin).length := by simp only [decide_eq_false_iff_not] at hb; omega
  clear hb
  subst hjl
  (repeat' (refine AWp_reg tok (by rfl) ?_; conv => whnf))
  refine .inl ⟨_, _, _, uG (QC.fc (c_Backward b.ins) rfl), ?_⟩
  conv => whnf
  refine AWp_block ?_
  have hgen : ∃ gB : Nat → Nat → Bool, gB = fun k => (b.ins.drop (b.ins.length - k)).foldr stepX (gEnd A f.regs.toNat f b) := ⟨_, rfl⟩
  obtain ⟨gB, hgB⟩ := hgen
  have hg0 : gB 0 = upAll (gPad A f.regs.toNat f b) ((endAsksL b.fin).take (endAsksL b.fin).length) := by rw [hgB, List.take_length]; simp only [Nat.sub_zero, List.drop_length, List.foldr_nil]; rfl
  have hgm : gB b.ins.length = gIns A f.regs.toNat f b := by rw [hgB]; simp only [Nat.sub_self, List.drop_zero]; rfl
  have hgs : ∀ k, k < b.ins.length → gB (k + 1) = stepX (b.ins.getD (b.ins.length - 1 - k) default) (gB k) := fun k hk => by
    rw [hgB]
    simp only
    have e1 : b.ins.length - (k + 1) = b.ins.length - 1 - k := by omega
    rw [e1, drop_getD default (show b.ins.length - 1 - k < b.ins.length by omega), List.foldr_cons, show b.ins.length - 1 - k + 1 = b.ins.length - k by omega]
  refine AWp_weak (Weak.list (tl := [(0, .bp k0 0), (1, iv n), (6, .bp (6, 7, 0) 0), (97, .fn 162 [.ip [inss b.ins]])]) [((1, 7, 0), .old (1, 7, 0), sBox f k1 k2 A.length B.length), ((2, 7, 0), .old (2, 7, 0), setR A A.length), ((3, 7, 0), .old (3, 7, 0), setR (B.set n be) B.length), ((6, 7, 0), .old (6, 7, 0), .row false 1 1 (fun _ => [.rs (32, 0, 0) 1 0 f.regs.toNat])), ((32, 0, 0), .old (32, 0, 0), boolR f.regs.toNat (gB 0))] rfl (by rfl) ?_ (.old rfl (BLe.rowO rfl) (.old rfl (BLe.refl _) (.old rfl (BLe.refl _) (.old rfl (BLe.rowO rfl) (.old rfl (BLe.rowW (Nat.le_refl _) (fun z hz => Wks.of (by rw [hg0]; rfl))) .nil)))))) ?_
  · ((repeat' first | exact TLes.nil | refine TLes.cons (TLe.eq rfl) ?_); skip)
  refine AWp_back (gB := 162) (sz := 7) (m := b.ins.length) (f := fun i => encIns (b.ins.getD i default)) [k0, k1, k2, (6, 7, 0)] (fun i hi => by simp only [List.mem_cons, List.not_mem_nil, or_false] at hi ⊢; rcases hi with h | h | h <;> simp [h]) (lookT [(0, .bp k0 0), (1, iv n), (6, .bp (6, 7, 0) 0), (97, .fn 162 [.ip [inss b.ins]])]) (fun k => lookH [((1, 7, 0), sBox f k1 k2 A.length B.length), ((2, 7, 0), setR A A.length), ((3, 7, 0), setR (B.set n be) B.length), ((6, 7, 0), .row false 1 1 (fun _ => [.rs (32, 0, 0) 1 0 f.regs.toNat])), ((32, 0, 0), boolR f.regs.toNat (gB k))]) c_back ⟨_, Try.func162, rfl, by decide +kernel⟩ rfl (by decide) (pinT_spec rfl) (fun k hk => ?_) ?_
  · have hs1 := hgs k hk
    have hmem := getD_mem default (show b.ins.length - 1 - k < b.ins.length by omega)
    have hgen : ∃ x, b.ins.getD (b.ins.length - 1 - k) default = x := ⟨_, rfl⟩
    obtain ⟨x, hx⟩ := hgen
    rw [hx] at hs1 hmem
    have hxs := hok.sets x hmem
    have hxa := hok.asks x hmem
    have hgen : ∃ g, gB k = g := ⟨_, rfl⟩
    obtain ⟨g, hg⟩ := hgen
    rw [hg] at hs1
    simp only [hx, hg]
    have hsv : setsB x = true → setsV x = x.dst := fun h => by unfold setsV; rw [if_pos h]
    have hS := c_Sets x
    have hAk := c_Asks x
    have hgen : ∃ g1, (if setsB x = true then upT g (setsV x) false else g) = g1 := ⟨_, rfl⟩
    obtain ⟨g1, hg1⟩ := hgen
    have hst : stepX x g = upAll g1 (asksL x) := by unfold stepX; rw [hg1]
    rw [hst] at hs1
    refine AWp_weak (Weak.list (tl := [(6, .bp (6, 7, 0) 0), (99, .agg (encIns x))]) [((1, 7, 0), .old (1, 7, 0), sBox f k1 k2 A.length B.length), ((2, 7, 0), .old (2, 7, 0), setR A A.length), ((3, 7, 0), .old (3, 7, 0), setR (B.set n be) B.length), ((6, 7, 0), .old (6, 7, 0), .row false 1 1 (fun _ => [.rs (32, 0, 0) 1 0 f.regs.toNat])), ((32, 0, 0), .old (32, 0, 0), boolR f.regs.toNat g)] rfl (by rfl) ?_ (.old rfl (BLe.rowO rfl) (.old rfl (BLe.refl _) (.old rfl (BLe.refl _) (.old rfl (BLe.rowO rfl) (.old rfl (BLe.refl _) .nil)))))) ?_
    · ((repeat' first | exact TLes.nil | refine TLes.cons (TLe.eq rfl) ?_); skip)
    (repeat' ((fail_if_success (show AWp _ _ _ (Code.region 21 _ _) _ _)); first | refine AWp_seq ?_ | (refine AWp_reg tok (by rfl) ?_; conv => whnf) | refine AWp_block ?_))
    refine AWp_weak (Weak.list (tl := [(6, .bp (6, 7, 0) 0), (13, .bp (13, 0, 0) 0)]) [((1, 7, 0), .old (1, 7, 0), sBox f k1 k2 A.length B.length), ((2, 7, 0), .old (2, 7, 0), setR A A.length), ((3, 7, 0), .old (3, 7, 0), setR (B.set n be) B.length), ((6, 7, 0), .old (6, 7, 0), .row false 1 1 (fun _ => [.rs (32, 0, 0) 1 0 f.regs.toNat])), ((32, 0, 0), .old (32, 0, 0), boolR f.regs.toNat g), ((13, 0, 0), .old (13, 0, 0), .row true 7 1 (fun _ => encIns x))] rfl (by rfl) ?_ (.old rfl (BLe.rowO rfl) (.old rfl (BLe.refl _) (.old rfl (BLe.refl _) (.old rfl (BLe.rowO rfl) (.old rfl (BLe.refl _) (.old rfl (BLe.rowW (Nat.le_refl _) (ltS (Wks.of rfl) lt0)) .nil))))))) ?_
    · ((repeat' first | exact TLes.nil | refine TLes.cons (TLe.eq rfl) ?_); skip)
    (repeat' (refine AWp_reg tok (by rfl) ?_; conv => whnf))
    refine .inl ⟨_, _, _, uG (QC.fc hS rfl), ?_⟩
    conv => whnf
    (repeat' ((fail_if_success (show AWp _ _ _ (Code.region 22 _ _) _ _)); refine AWp_seq ?_))
    refine AWp_reg tok (by rfl) ?_
    conv => whnf
    refine AWp_meet (α := Unit) (fun _ => mkS [(6, .bp (6, 7, 0) 0), (13, .bp (13, 0, 0) 0)] [((1, 7, 0), sBox f k1 k2 A.length B.length), ((2, 7, 0), setR A A.length), ((3, 7, 0), setR (B.set n be) B.length), ((6, 7, 0), .row false 1 1 (fun _ => [.rs (32, 0, 0) 1 0 f.regs.toNat])), ((32, 0, 0), boolR f.regs.toNat g1), ((13, 0, 0), .row true 7 1 (fun _ => encIns x))]) (fun _ => True) ?_ ?_
    · refine AWp_cond rfl (fun hb => ?_) (fun hb => ?_)
      · obtain ⟨hx1, hx2⟩ := hxs hb
        have hx3 := hsv hb
        rw [if_pos hb] at hg1
        ((repeat' first | (refine AWp_reg tok (by rfl) ?_; conv => whnf) | (refine @And.intro (underG _ _ _ _) _ ?_ ?_; rotate_left; (conv => whnf); rotate_right)); all_goals (try ((guard_target = underG _ _ _ _); refine underG_none ?_; (all_goals (try simp only [underG, kz1, kz2, kz3, kz4, kz5, kz6, kz7, kz8, kz9, kz10, kz11, kz12, kz13, kz14, kz15, kz16, kz17, kz18, kz19, kz20, maxL, inn_iff] at *)); all_goals omega)))
        refine ⟨(), trivial, Weak.list [((1, 7, 0), .old (1, 7, 0), sBox f k1 k2 A.length B.length), ((2, 7, 0), .old (2, 7, 0), setR A A.length), ((3, 7, 0), .old (3, 7, 0), setR (B.set n be) B.length), ((6, 7, 0), .old (6, 7, 0), .row false 1 1 (fun _ => [.rs (32, 0, 0) 1 0 f.regs.toNat])), ((32, 0, 0), .old (32, 0, 0), boolR f.regs.toNat g1), ((13, 0, 0), .old (13, 0, 0), .row true 7 1 (fun _ => encIns x))] rfl (by rfl) ?_ (.old rfl (BLe.rowO rfl) (.old rfl (BLe.refl _) (.old rfl (BLe.refl _) (.old rfl (BLe.rowO rfl) (.old rfl (BLe.rowW (Nat.le_refl _) (fun z hz => Wks.of (by rw [← hg1]; exact upRow (Nat.zero_add _)))) (.old rfl (BLe.refl _) .nil))))))⟩
        ((repeat' first | exact TLes.nil | refine TLes.cons (TLe.eq rfl) ?_); skip)
      · rw [if_neg (by rw [hb]; simp)] at hg1
        (repeat' (refine AWp_skip ?_; conv => whnf))
        refine ⟨(), trivial, Weak.list [((1, 7, 0), .old (1, 7, 0), sBox f k1 k2 A.length B.length), ((2, 7, 0), .old (2, 7, 0), setR A A.length), ((3, 7, 0), .old (3, 7, 0), setR (B.set n be) B.length), ((6, 7, 0), .old (6, 7, 0), .row false 1 1 (fun _ => [.rs (32, 0, 0) 1 0 f.regs.toNat])), ((32, 0, 0), .old (32, 0, 0), boolR f.regs.toNat g1), ((13, 0, 0), .old (13, 0, 0), .row true 7 1 (fun _ => encIns x))] rfl (by rfl) ?_ (.old rfl (BLe.rowO rfl) (.old rfl (BLe.refl _) (.old rfl (BLe.refl _) (.old rfl (BLe.rowO rfl) (.old rfl (BLe.rowW (Nat.le_refl _) (fun z hz => Wks.of (by rw [← hg1]; rfl))) (.old rfl (BLe.refl _) .nil))))))⟩
        ((repeat' first | exact TLes.nil | refine TLes.cons (TLe.eq rfl) ?_); skip)
    rintro ⟨⟩ - τ hw
    refine AWp_weak hw ?_
    clear hw
    (repeat' first | refine AWp_seq ?_ | (refine AWp_reg tok (by rfl) ?_; conv => whnf))
    refine .inl ⟨_, _, _, uG (QC.fo (rd := []) hAk (Ress.imms rfl) (.inl rfl) rfl), ?_⟩
    conv => whnf
    (repeat' ((fail_if_success (show AWp _ _ _ (Code.region 25 _ _) _ _)); refine AWp_block ?_))
    refine AWp_facts 111 (fun hl => ?_)
    have hle : ((asksL x).length : Int) ≤ 9223372036854775807 := hl.2
    clear hl
    refine AWp_loop (fun j : Nat => mkS [(6, .bp (6, 7, 0) 0), (13, .bp (13, 0, 0) 0), (110, .rs (110, 0, 0) 1 0 (asksL x).length), (111, iv (asksL x).length), (112, iv j)] [((1, 7, 0), sBox f k1 k2 A.length B.length), ((2, 7, 0), setR A A.length), ((3, 7, 0), setR (B.set n be) B.length), ((6, 7, 0), .row false 1 1 (fun _ => [.rs (32, 0, 0) 1 0 f.regs.toNat])), ((32, 0, 0), boolR f.regs.toNat (upAll g1 ((asksL x).take j))), ((13, 0, 0), .row true 7 1 (fun _ => encIns x)), ((110, 0, 0), .row true 1 (asksL x).length (fun i => [iv ((asksL x).getD i 0)]))]) (fun j => j ≤ (asksL x).length) (fun j => (asksL x).length - j) 0 (Nat.zero_le _) ?_ ?_
    · refine Weak.list [((1, 7, 0), .old (1, 7, 0), sBox f k1 k2 A.length B.length), ((2, 7, 0), .old (2, 7, 0), setR A A.length), ((3, 7, 0), .old (3, 7, 0), setR (B.set n be) B.length), ((6, 7, 0), .old (6, 7, 0), .row false 1 1 (fun _ => [.rs (32, 0, 0) 1 0 f.regs.toNat])), ((32, 0, 0), .old (32, 0, 0), boolR f.regs.toNat (upAll g1 ((asksL x).take 0))), ((13, 0, 0), .old (13, 0, 0), .row true 7 1 (fun _ => encIns x)), ((110, 0, 0), .old (110, 0, 0), .row true 1 (asksL x).length (fun i => [iv ((asksL x).getD i 0)]))] rfl (by rfl) ?_ (.old rfl (BLe.rowO rfl) (.old rfl (BLe.refl _) (.old rfl (BLe.refl _) (.old rfl (BLe.rowO rfl) (.old rfl (BLe.refl _) (.old rfl (BLe.refl _) (.old rfl (BLe.refl _) .nil)))))))
      ((repeat' first | exact TLes.nil | refine TLes.cons (TLe.eq rfl) ?_); skip)
    intro j hj
    (repeat' ((fail_if_success (show AWp _ _ _ (Code.region 26 _ _) _ _)); first | refine AWp_seq ?_ | (refine AWp_reg tok (by rfl) ?_; conv => whnf) | refine AWp_block ?_ | (refine AWp_skip ?_; conv => whnf) | (refine AWp_exit ?_; conv => whnf) | refine AWp_cond rfl (fun hb => ?_) (fun hb => ?_)))
    · have hjl : j < (asksL x).length := by simp only [decide_eq_true_eq] at hb; omega
      clear hb
      have hsucc := upAll_succ (g := g1) hjl
      have hpj := hxa _ (getD_mem 0 hjl)
      have hji : (asksL x).getD (0 + (j : Int).toNat) 0 = (asksL x).getD j 0 := by simp
      ((repeat' first | (refine AWp_reg tok (by rfl) ?_; conv => whnf) | (refine @And.intro (underG _ _ _ _) _ ?_ ?_; rotate_left; (conv => whnf); rotate_right)); all_goals (try ((guard_target = underG _ _ _ _); refine underG_none ?_; (all_goals (try simp only [underG, kz1, kz2, kz3, kz4, kz5, kz6, kz7, kz8, kz9, kz10, kz11, kz12, kz13, kz14, kz15, kz16, kz17, kz18, kz19, kz20, maxL, inn_iff] at *)); all_goals omega)))
      refine ⟨j + 1, hjl, by omega, ?_⟩
      refine Weak.list [((1, 7, 0), .old (1, 7, 0), sBox f k1 k2 A.length B.length), ((2, 7, 0), .old (2, 7, 0), setR A A.length), ((3, 7, 0), .old (3, 7, 0), setR (B.set n be) B.length), ((6, 7, 0), .old (6, 7, 0), .row false 1 1 (fun _ => [.rs (32, 0, 0) 1 0 f.regs.toNat])), ((32, 0, 0), .old (32, 0, 0), boolR f.regs.toNat (upAll g1 ((asksL x).take (j + 1)))), ((13, 0, 0), .old (13, 0, 0), .row true 7 1 (fun _ => encIns x)), ((110, 0, 0), .old (110, 0, 0), .row true 1 (asksL x).length (fun i => [iv ((asksL x).getD i 0)]))] rfl (by rfl) ?_ (.old rfl (BLe.rowO rfl) (.old rfl (BLe.refl _) (.old rfl (BLe.refl _) (.old rfl (BLe.rowO rfl) (.old rfl (BLe.rowW (Nat.le_refl _) (fun z hz => Wks.of ?_)) (.old rfl (BLe.refl _) (.old rfl (BLe.refl _) .nil)))))))
      · ((repeat' first | exact TLes.nil | refine TLes.cons (TLe.eq rfl) ?_ | refine TLes.cons (TLe.int ?_) ?_); (all_goals first | ((try (simp only [underG, kz1, kz2, kz3, kz4, kz5, kz6, kz7, kz8, kz9, kz10, kz11, kz12, kz13, kz14, kz15, kz16, kz17, kz18, kz19, kz20, maxL, inn_iff] at *)); exact wrap64 (by omega) (by omega)) | skip))
      · rw [hsucc]
        exact upRow (by rw [Nat.zero_add]; exact congrArg Int.toNat hji)
    · have hjl : j = (asksL x).length := by simp only [decide_eq_false_iff_not] at hb; omega
      clear hb
      subst hjl
      refine ⟨lookT [], Weak.list (tl := []) [((1, 7, 0), .old (1, 7, 0), sBox f k1 k2 A.length B.length), ((2, 7, 0), .old (2, 7, 0), setR A A.length), ((3, 7, 0), .old (3, 7, 0), setR (B.set n be) B.length), ((6, 7, 0), .old (6, 7, 0), .row false 1 1 (fun _ => [.rs (32, 0, 0) 1 0 f.regs.toNat])), ((32, 0, 0), .old (32, 0, 0), boolR f.regs.toNat (gB (k + 1)))] rfl (by rfl) .nil (.old rfl (BLe.rowO rfl) (.old rfl (BLe.refl _) (.old rfl (BLe.refl _) (.old rfl (BLe.rowO rfl) (.old rfl (BLe.rowW (Nat.le_refl _) (fun z hz => Wks.of (by rw [hs1, List.take_length]; rfl))) .nil)))))⟩
  · conv => whnf
    have hli2 : ∀ q, q < f.regs.toNat → [AV.bool (gB b.ins.length q)] = [AV.bool ((listB f.regs.toNat (gIns A f.regs.toNat f b)).getD q false)] := fun q hq => by rw [listB_at hq, hgm]
    have hll2 := listB_len f.regs.toNat (gIns A f.regs.toNat f b)
    have hgen : ∃ now, listB f.regs.toNat (gIns A f.regs.toNat f b) = now := ⟨_, rfl⟩
    obtain ⟨now, hnow⟩ := hgen
    rw [hnow] at hli2 hll2 ⊢
    have hcall : ∀ y, y = A.getD n [] → FC Try.prog 150 [bools now, bools y] (.bool (decide (now = A.getD n []))) := fun y e => by rw [e]; exact c_EqualB _ _
    have hnA : n < A.length := by omega
    ((repeat' first | refine AWp_seq ?_ | (refine AWp_any tok mix (by rfl) ?_; conv => whnf) | (refine @And.intro (underG _ _ _ _) _ ?_ ?_; rotate_left; (conv => whnf); rotate_right)); all_goals (try ((guard_target = underG _ _ _ _); refine underG_none ?_; (all_goals (try simp only [underG, kz1, kz2, kz3, kz4, kz5, kz6, kz7, kz8, kz9, kz10, kz11, kz12, kz13, kz14, kz15, kz16, kz17, kz18, kz19, kz20, maxL, inn_iff] at *)); all_goals omega)))
    refine .inl ⟨_, _, _, uG (QC.sc (rd := [(32, 0, 0)]) (hcall (A.getD (0 + (n : Int).toNat) []) (by simp)) (.cons (.row rfl (.head _) rfl hll2.symm hli2) (.cons (.imm rfl) .nil)) rfl), ?_⟩
    conv => whnf
    ((repeat' ((fail_if_success (show AWp _ _ _ (Code.region 31 _ _) _ _)); first | refine AWp_seq ?_ | (refine AWp_any tok mix (by rfl) ?_; conv => whnf) | (refine @And.intro (underG _ _ _ _) _ ?_ ?_; rotate_left; (conv => whnf); rotate_right))); all_goals (try ((guard_target = underG _ _ _ _); refine underG_none ?_; (all_goals (try simp only [underG, kz1, kz2, kz3, kz4, kz5, kz6, kz7, kz8, kz9, kz10, kz11, kz12, kz13, kz14, kz15, kz16, kz17, kz18, kz19, kz20, maxL, inn_iff] at *)); all_goals omega)))
    refine AWp_weak (Weak.fam (tl := [(18, .bool (decide (now ≠ A.getD n [])))]) (hl := [((1, 7, 0), sBox f k1 k2 A.length B.length), ((2, 7, 0), setR (A.set n now) A.length), ((3, 7, 0), setR (B.set n be) B.length)]) (F := noH) [] rfl (fun i hi => by cases hi) ?_ ?_ noF (hLp _ rfl rfl rfl)) ?_
    · exact .cons (.bool (by rw [decide_not])) .nil
    · refine .old rfl rfl (GB.one (.cons (.imm rfl) (.cons (.imm rfl) (.cons (.imm rfl) (.cons (.rs rfl rfl rfl rfl) (.cons (.rs rfl rfl rfl rfl) .nil))))) (fun e => by cases e)) (.old rfl rfl (GB.row (Nat.le_refl _) (fun q hq => GVs.upd (fun e => ?_) (fun e => ?_)) (fun _ _ _ => rfl)) (.old rfl rfl (GB.rowI (Nat.le_refl _) (fun q hq => ⟨rfl, rfl⟩)) .nil))
      · rw [Nat.zero_add, Int.toNat_natCast] at e
        subst e
        rw [getD_set, if_pos ⟨rfl, hq⟩]
        exact .cons (.frz (hd_no rfl) rfl (Nat.le_of_eq (Nat.zero_add _)) hll2.symm (fun x hx => GVs.eqI rfl (by rw [Nat.zero_add]; exact hli2 x hx)) (fun _ _ => rfl)) .nil
      · rw [Nat.zero_add, Int.toNat_natCast] at e
        rw [getD_set, if_neg (fun h => e h.1.symm)]
        exact GVs.imm rfl
    (repeat' first | (refine AWp_reg tok (by rfl) ?_; conv => whnf) | (refine AWp_ret ?_; conv => whnf))
    exact ⟨_, [(k0, .old k0, sBox f k1 k2 A.length B.length), (k1, .old k1, setR (A.set n now) A.length), (k2, .old k2, setR (B.set n be) B.length)], rfl, rfl, rfl, rfl, .old rfl (BLe.rowO rfl) (.old rfl (BLe.refl _) (.old rfl (BLe.refl _) .nil)), .eq rfl⟩
end Go.Proofs.Ytmanpbgaihdalaa
namespace Go.Proofs.Ytmanpbgaihdalaa
open Go Dv
set_option maxRecDepth 10000
set_option linter.unusedSimpArgs false
abbrev SW := List (List Bool) × List (List Bool) × Bool
def sw1 (f : Func) (s : SW) (n : Nat) : SW := (s.1.set n (newAt s.1 f.regs.toNat f n), s.2.1.set n (newBe s.1 f.regs.toNat f n), decide (newAt s.1 f.regs.toNat f n ≠ s.1.getD n []) || s.2.2)
def swD (f : Func) (s : SW) : Nat → SW
  | 0 => s
  | m + 1 => sw1 f (swD f s m) (f.blocks.length - 1 - m)
def falsesL (f : Func) : List (List Bool) := List.replicate f.blocks.length (List.replicate f.regs.toNat false)
def itS (f : Func) : Nat → SW
  | 0 => (falsesL f, falsesL f, true)
  | j + 1 => swD f ((itS f j).1, (itS f j).2.1, false) f.blocks.length
def gle (g g' : Nat → Bool) : Prop := ∀ q, g q = true → g' q = true
theorem gle_up {g g' : Nat → Bool} (h : gle g g') (p : Int) (v : Bool) : gle (upT g p v) (upT g' p v) := fun q e => by
  unfold upT at e ⊢
  split
  · rename_i hq; rw [if_pos hq] at e; exact e
  · rename_i hq; rw [if_neg hq] at e; exact h q e
theorem gle_all {l : List Int} : ∀ {g g' : Nat → Bool}, gle g g' → gle (upAll g l) (upAll g' l) := by
  induction l with
  | nil => intro g g' h; exact h
  | cons x r ih => intro g g' h; exact ih (gle_up h x true)
theorem gle_step {x : Ins} {g g' : Nat → Bool} (h : gle g g') : gle (stepX x g) (stepX x g') := by
  unfold stepX
  refine gle_all ?_
  split
  · exact gle_up h _ _
  · exact h
theorem gle_mg {g g' : Nat → Bool} {a a' : List Bool} (h : gle g g') (k : leL a a') (but : Int) (p : Nat) : gle (mgF g a but p) (mgF g' a' but p) := fun q e => by
  unfold mgF at e ⊢
  split
  · rename_i hq
    rw [if_pos hq, Bool.or_eq_true, Bool.and_eq_true] at e
    rw [Bool.or_eq_true, Bool.and_eq_true]
    rcases e with e | ⟨e1, e2⟩
    · exact .inl (h q e)
    · exact .inr ⟨k q e1, e2⟩
  · rename_i hq; rw [if_neg hq] at e; exact h q e
def leA (A A' : List (List Bool)) : Prop := ∀ k, leL (A.getD k []) (A'.getD k [])
theorem gle_goals {A A' : List (List Bool)} (h : leA A A') (R : Nat) (b : Block) (l : List Int) : gle (gGoals A R b l) (gGoals A' R b l) := by
  unfold gGoals
  have : ∀ (l : List Int) (g g' : Nat → Bool), gle g g' → gle (l.foldl (fun g k => mgF g (A.getD k.toNat []) (butOf b) R) g) (l.foldl (fun g k => mgF g (A'.getD k.toNat []) (butOf b) R) g') := by
    intro l
    induction l with
    | nil => intro g g' h; exact h
    | cons x r ih => intro g g' hg; exact ih _ _ (gle_mg hg (h _) _ _)
  exact this l _ _ (fun _ h => h)
theorem gle_pad {A A' : List (List Bool)} (h : leA A A') (R : Nat) (f : Func) (b : Block) : gle (gPad A R f b) (gPad A' R f b) := by
  unfold gPad
  split
  · exact gle_mg (gle_goals h R b _) (h _) _ _
  · exact gle_goals h R b _
theorem gle_ins {A A' : List (List Bool)} (h : leA A A') (R : Nat) (f : Func) (b : Block) : gle (gIns A R f b) (gIns A' R f b) := by
  unfold gIns
  have : ∀ (l : List Ins) (g g' : Nat → Bool), gle g g' → gle (l.foldr stepX g) (l.foldr stepX g') := by
    intro l
    induction l with
    | nil => intro g g' h; exact h
    | cons x r ih => intro g g' hg; exact gle_step (ih _ _ hg)
  exact this _ _ _ (gle_all (gle_pad h R f b))
theorem le_new {A A' : List (List Bool)} (h : leA A A') (R : Nat) (f : Func) (n : Nat) : leL (newAt A R f n) (newAt A' R f n) := fun q e => by
  have hq : q < R := by
    refine Classical.byContradiction fun hc => ?_
    rw [getD_ge (by unfold newAt; rw [listB_len]; omega)] at e; cases e
  unfold newAt at e ⊢
  rw [listB_at hq] at e ⊢
  exact gle_ins h R f _ q e
def cntA (A : List (List Bool)) : Nat := (A.map cnt).sum
theorem cntA_le {R : Nat} : ∀ {A : List (List Bool)}, (∀ a ∈ A, a.length = R) → cntA A ≤ A.length * R
  | [], _ => by simp [cntA]
  | a :: r, h => by
      have h1 := cntA_le (A := r) (R := R) (fun x hx => h x (List.mem_cons_of_mem _ hx))
      have h2 := cnt_le (a := a)
      have h3 := h a (List.mem_cons_self ..)
      have h4 : cntA (a :: r) = cnt a + cntA r := by simp [cntA]
      rw [h4, List.length_cons, Nat.succ_mul]; omega
theorem cntA_set : ∀ {A : List (List Bool)} {n : Nat} {a : List Bool}, n < A.length → (A.getD n []).length = a.length → leL (A.getD n []) a → cntA A ≤ cntA (A.set n a) ∧ (cntA (A.set n a) ≤ cntA A → a = A.getD n [])
  | [], n, a, h, _, _ => by simp at h
  | x :: r, 0, a, _, hl, hle => by
      have hx : (x :: r).getD 0 [] = x := rfl
      rw [hx] at hl hle
      have := cnt_mono hl hle
      have e1 : cntA (x :: r) = cnt x + cntA r := by simp [cntA]
      have e2 : cntA ((x :: r).set 0 a) = cnt a + cntA r := by simp [cntA]
      rw [e1, e2]
      exact ⟨by omega, fun h => by rw [hx]; exact (this.2 (by omega)).symm⟩
  | x :: r, n + 1, a, h, hl, hle => by
      have hx : (x :: r).getD (n + 1) [] = r.getD n [] := by simp
      rw [hx] at hl hle
      have := cntA_set (A := r) (n := n) (a := a) (by simpa using h) hl hle
      have e1 : cntA (x :: r) = cnt x + cntA r := by simp [cntA]
      have e2 : cntA ((x :: r).set (n + 1) a) = cnt x + cntA (r.set n a) := by simp [cntA]
      rw [e1, e2]
      exact ⟨by omega, fun h => by rw [hx]; exact this.2 (by omega)⟩
structure GoodS (f : Func) (s : SW) : Prop where
  l1 : s.1.length = f.blocks.length
  l2 : s.2.1.length = f.blocks.length
  e1 : ∀ i, i < f.blocks.length → (s.1.getD i []).length = f.regs.toNat
  e2 : ∀ i, i < f.blocks.length → (s.2.1.getD i []).length = f.regs.toNat
  le : ∀ i, i < f.blocks.length → leL (s.1.getD i []) (newAt s.1 f.regs.toNat f i)
theorem leA_set {A : List (List Bool)} {n : Nat} {a : List Bool} (h : leL (A.getD n []) a) : leA A (A.set n a) := fun k => by
  rw [getD_set]
  split
  · rename_i hk; rw [hk.1] at h; exact h
  · exact leL.refl _
theorem newAt_len (A : List (List Bool)) (R : Nat) (f : Func) (n : Nat) : (newAt A R f n).length = R := listB_len _ _
theorem newBe_len (A : List (List Bool)) (R : Nat) (f : Func) (n : Nat) : (newBe A R f n).length = R := listB_len _ _
theorem sw1_good {f : Func} {s : SW} (h : GoodS f s) {n : Nat} (hn : n < f.blocks.length) : GoodS f (sw1 f s n) ∧ cntA s.1 ≤ cntA (sw1 f s n).1 ∧ ((sw1 f s n).2.2 = true → s.2.2 = true ∨ cntA s.1 < cntA (sw1 f s n).1) := by
  have hn1 : n < s.1.length := by rw [h.l1]; exact hn
  have hn2 : n < s.2.1.length := by rw [h.l2]; exact hn
  have hle := h.le n hn
  have hA := leA_set hle
  have hc := cntA_set hn1 (by rw [h.e1 n hn, newAt_len]) hle
  refine ⟨⟨?_, ?_, fun i hi => ?_, fun i hi => ?_, fun i hi => ?_⟩, hc.1, fun e => ?_⟩
  · simp only [sw1, List.length_set]; exact h.l1
  · simp only [sw1, List.length_set]; exact h.l2
  · simp only [sw1]; rw [getD_set]; split
    · exact newAt_len ..
    · exact h.e1 i hi
  · simp only [sw1]; rw [getD_set]; split
    · exact newBe_len ..
    · exact h.e2 i hi
  · simp only [sw1]
    refine leL.trans ?_ (le_new hA f.regs.toNat f i)
    rw [getD_set]; split
    · rename_i hk; rw [← hk.1]; exact leL.refl _
    · exact h.le i hi
  · simp only [sw1, Bool.or_eq_true, decide_eq_true_eq] at e ⊢
    rcases e with e | e
    · refine .inr ?_
      refine Nat.lt_of_not_le fun hc2 => e (hc.2 hc2)
    · exact .inl e
theorem swD_good {f : Func} {s : SW} (h : GoodS f s) : ∀ {m : Nat}, m ≤ f.blocks.length → GoodS f (swD f s m) ∧ cntA s.1 ≤ cntA (swD f s m).1 ∧ ((swD f s m).2.2 = true → s.2.2 = true ∨ cntA s.1 < cntA (swD f s m).1)
  | 0, _ => ⟨h, Nat.le_refl _, fun e => .inl e⟩
  | m + 1, hm => by
      obtain ⟨h1, h2, h3⟩ := swD_good h (m := m) (by omega)
      obtain ⟨k1, k2, k3⟩ := sw1_good h1 (n := f.blocks.length - 1 - m) (by omega)
      refine ⟨k1, Nat.le_trans h2 k2, fun e => ?_⟩
      rcases k3 e with e | e
      · rcases h3 e with e | e
        · exact .inl e
        · exact .inr (Nat.lt_of_lt_of_le e k2)
      · exact .inr (Nat.lt_of_le_of_lt h2 e)
theorem falses_at (f : Func) {i : Nat} (hi : i < f.blocks.length) : (falsesL f).getD i [] = List.replicate f.regs.toNat false := by
  unfold falsesL; rw [List.getD_eq_getElem?_getD, List.getElem?_replicate, if_pos hi]; rfl
theorem init_good (f : Func) : GoodS f (falsesL f, falsesL f, true) := by
  refine ⟨by simp [falsesL], by simp [falsesL], fun i hi => ?_, fun i hi => ?_, fun i hi q e => ?_⟩
  · simp only; rw [falses_at f hi]; simp
  · simp only; rw [falses_at f hi]; simp
  · simp only at e; rw [falses_at f hi, List.getD_eq_getElem?_getD, List.getElem?_replicate] at e
    split at e <;> cases e
theorem GoodS.more {f : Func} {s : SW} (h : GoodS f s) (b : Bool) : GoodS f (s.1, s.2.1, b) := ⟨h.l1, h.l2, h.e1, h.e2, h.le⟩
theorem itS_good (f : Func) : ∀ j, GoodS f (itS f j) ∧ ((itS f j).2.2 = true → (∀ i, i < j → (itS f i).2.2 = true) → j ≤ cntA (itS f j).1)
  | 0 => ⟨init_good f, fun _ _ => Nat.zero_le _⟩
  | j + 1 => by
      obtain ⟨h1, h2⟩ := itS_good f j
      obtain ⟨k1, k2, k3⟩ := swD_good (h1.more false) (Nat.le_refl _)
      refine ⟨k1, fun e hi => ?_⟩
      have h3 := h2 (hi j (Nat.lt_succ_self j)) (fun i hij => hi i (by omega))
      rcases k3 e with e | e
      · cases e
      · exact Nat.lt_of_le_of_lt h3 e
theorem least_ex {p : Nat → Bool} : ∀ n, p n = false → ∃ J, p J = false ∧ ∀ j, j < J → p j = true := by
  intro n
  induction n using Nat.strongRecOn with
  | ind n ih =>
    intro h
    by_cases hc : ∃ j, j < n ∧ p j = false
    · obtain ⟨j, hj, e⟩ := hc
      exact ih j hj e
    · refine ⟨n, h, fun j hj => ?_⟩
      cases e : p j with
      | true => rfl
      | false => exact absurd ⟨j, hj, e⟩ hc
theorem it_stops (f : Func) : ∃ J, (itS f J).2.2 = false ∧ ∀ j, j < J → (itS f j).2.2 = true := by
  have : ∃ n, (itS f n).2.2 = false := by
    refine Classical.byContradiction fun hc => ?_
    have hall : ∀ n, (itS f n).2.2 = true := fun n => by
      cases e : (itS f n).2.2 with
      | true => rfl
      | false => exact absurd ⟨n, e⟩ hc
    have h1 := itS_good f (f.blocks.length * f.regs.toNat + 1)
    have h2 := h1.2 (hall _) (fun i _ => hall i)
    have h3 := cntA_le (R := f.regs.toNat) (A := (itS f (f.blocks.length * f.regs.toNat + 1)).1) (fun a ha => by
      obtain ⟨i, hi, e⟩ := List.getElem_of_mem ha
      have := h1.1.e1 i (by rw [← h1.1.l1]; exact hi)
      rw [getD_lt [] hi, e] at this; exact this)
    rw [h1.1.l1] at h3
    omega
  obtain ⟨n, hn⟩ := this
  exact least_ex (p := fun n => (itS f n).2.2) n hn
noncomputable def foundJ (f : Func) : Nat := Classical.choose (it_stops f)
theorem foundJ_no (f : Func) : (itS f (foundJ f)).2.2 = false := (Classical.choose_spec (it_stops f)).1
theorem foundJ_lt (f : Func) {j : Nat} (h : j < foundJ f) : (itS f j).2.2 = true := (Classical.choose_spec (it_stops f)).2 j h
noncomputable def foundA (f : Func) : List (List Bool) := if wholeB f = true then (itS f (foundJ f)).1 else []
noncomputable def foundB (f : Func) : List (List Bool) := if wholeB f = true then (itS f (foundJ f)).2.1 else []
theorem set_same {A : List (List Bool)} {n : Nat} : A.set n (A.getD n []) = A := by
  induction A generalizing n with
  | nil => rfl
  | cons x r ih => cases n with
    | zero => rfl
    | succ n => simp only [List.set_cons_succ, List.getD_cons_succ]; rw [ih]
theorem swD_fix {f : Func} {s : SW} (h : GoodS f s) : ∀ {m : Nat}, m ≤ f.blocks.length → (swD f s m).2.2 = false → (swD f s m).1 = s.1 ∧ s.2.2 = false ∧ ∀ n, f.blocks.length - m ≤ n → n < f.blocks.length → newAt s.1 f.regs.toNat f n = s.1.getD n [] ∧ (swD f s m).2.1.getD n [] = newBe s.1 f.regs.toNat f n
  | 0, _, e => ⟨rfl, e, fun n h1 h2 => by omega⟩
  | m + 1, hm, e => by
      have hg := (swD_good h (m := m) (by omega)).1
      simp only [swD, sw1, Bool.or_eq_false_iff, decide_eq_false_iff_not, Decidable.not_not] at e ⊢
      obtain ⟨e1, e2⟩ := e
      obtain ⟨h1, h2, h3⟩ := swD_fix h (m := m) (by omega) e2
      rw [e1, set_same, h1]
      rw [h1] at e1
      refine ⟨rfl, h2, fun n hn1 hn2 => ?_⟩
      rw [getD_set]
      by_cases hc : f.blocks.length - 1 - m = n
      · subst hc
        refine ⟨e1, ?_⟩
        rw [if_pos ⟨rfl, by rw [hg.l2]; omega⟩]
      · rw [if_neg (fun h => hc h.1)]
        exact h3 n (by omega) hn2
structure FixP (f : Func) (A B : List (List Bool)) : Prop where
  l1 : A.length = f.blocks.length
  l2 : B.length = f.blocks.length
  e1 : ∀ i, i < f.blocks.length → (A.getD i []).length = f.regs.toNat
  e2 : ∀ i, i < f.blocks.length → (B.getD i []).length = f.regs.toNat
  at_ : ∀ n, n < f.blocks.length → newAt A f.regs.toNat f n = A.getD n []
  be : ∀ n, n < f.blocks.length → B.getD n [] = newBe A f.regs.toNat f n
theorem found_fix {f : Func} (h : wholeB f = true) : FixP f (foundA f) (foundB f) := by
  unfold foundA foundB
  rw [if_pos h, if_pos h]
  have hno := foundJ_no f
  have hg := (itS_good f (foundJ f)).1
  cases hj : foundJ f with
  | zero => rw [hj] at hno; cases hno
  | succ j =>
    rw [hj] at hno hg
    have hgj := (itS_good f j).1.more false
    obtain ⟨h1, _, h3⟩ := swD_fix hgj (Nat.le_refl _) hno
    refine ⟨hg.l1, hg.l2, hg.e1, hg.e2, fun n hn => ?_, fun n hn => ?_⟩
    · have := (h3 n (by omega) hn).1
      have e : (itS f (j + 1)).1 = (itS f j).1 := h1
      rw [e]; exact this
    · have := (h3 n (by omega) hn).2
      have e : (itS f (j + 1)).1 = (itS f j).1 := h1
      rw [e]; exact this
theorem found_no {f : Func} (h : wholeB f = false) : foundA f = [] ∧ foundB f = [] := by
  unfold foundA foundB; rw [if_neg (by rw [h]; simp), if_neg (by rw [h]; simp)]; exact ⟨rfl, rfl⟩
end Go.Proofs.Ytmanpbgaihdalaa
namespace Go.Proofs.Ytmanpbgaihdalaa
open Go Dv
set_option maxRecDepth 10000
set_option linter.unusedSimpArgs false
theorem whole_ok {f : Func} (h : wholeB f = true) : ∃ ps : List Int, funcB (parM ps) f = true := by
  unfold wholeB at h
  split at h
  · cases h
  · exact ⟨_, h⟩
theorem whole_fun {f : Func} (h : wholeB f = true) : 0 ≤ f.regs ∧ f.regs ≤ 256 ∧ f.blocks.length ≤ 64 := by
  obtain ⟨ps, hp⟩ := whole_ok h
  unfold funcB at hp
  rw [Bool.and_eq_true, decide_eq_true_eq] at hp
  have := hp.1
  unfold FunP at this
  omega
abbrev falR (f : Func) (n : Nat) : ABlock := .row true 1 n (fun _ => [bools (List.replicate f.regs.toNat false)])
theorem GVs_appK {src : Dv.Id → Option Dv.Id} {h h' : AHeap} {k q : Nat} {f g : Nat → List AV} {ys : List AV} {K : List AV → List AV} (hq : q < k + 1) (h1 : q < k → GVs src h h' (K (f q)) ys) (h2 : q = k → GVs src h h' (K (g 0)) ys) : GVs src h h' (K (appR k f g q)) ys := by
  by_cases e : q < k
  · have : appR k f g q = f q := by unfold appR; rw [show Nat.blt q k = true from by rw [Nat.blt_eq]; exact e]; rfl
    rw [this]; exact h1 e
  · have e2 : q = k := by omega
    subst e2
    have : appR q f g q = g 0 := by unfold appR; rw [show Nat.blt q q = false from by rw [Bool.eq_false_iff]; intro h; rw [Nat.blt_eq] at h; omega, Nat.sub_self]; rfl
    rw [this]; exact h2 rfl
set_option maxHeartbeats 4000000 in
theorem c_found (f : Func) : HC Try.prog [] 92 [] [.agg (encFunc f)] (.bp k0 0)
      [(k0, sBox f k1 k2 (foundA f).length (foundB f).length), (k1, setR (foundA f) (foundA f).length), (k2, setR (foundB f) (foundB f).length)] := by
  refine HC_intro tok Try.func92 rfl (by decide +kernel) (Nat.le_of_ble_eq_true rfl) ?_
  have hmx : maxL = 4294967296 := rfl
  (repeat' ((fail_if_success (show AWp _ _ _ (Code.region 2 _ _) _ _)); first | refine AWp_seq ?_ | (refine AWp_reg tok (by rfl) ?_; conv => whnf)))
  refine AWp_reg tok (by rfl) ?_
  conv => whnf
  refine .inl ⟨_, _, _, uG (QC.fc (c_whole f) rfl), ?_⟩
  conv => whnf
  refine AWp_cond rfl (fun hb => ?_) (fun hb => ?_)
  · have hw : wholeB f = false := by simpa using hb
    obtain ⟨e1, e2⟩ := found_no hw
    rw [e1, e2]
    (repeat' first | refine AWp_seq ?_ | (refine AWp_reg tok (by rfl) ?_; conv => whnf) | (refine AWp_ret ?_; conv => whnf))
    exact ⟨_, [(k0, .old (8, 0, 0), sBox f k1 k2 0 0), (k1, .nil, setR [] 0), (k2, .nil, setR [] 0)], rfl, rfl, rfl, rfl, .oldR rfl (BLeR.cells rfl (fun x hx => .cons .eq (.cons .eq (.cons .eq (.cons (.nil rfl) (.cons (.nil rfl) .nil)))))) (.new (.new .nil)), .eq rfl⟩
  have hw : wholeB f = true := by simpa using hb
  clear hb
  obtain ⟨hr0, hr2, hfb⟩ := whole_fun hw
  refine (AWp_skip ?_)
  conv => whnf
  (repeat' ((fail_if_success (show AWp _ _ _ (Code.region 5 _ _) _ _)); first | refine AWp_seq ?_ | (refine AWp_reg tok (by rfl) ?_; conv => whnf) | refine AWp_block ?_))
  have falAt : ∀ x, [AV.bool false] = [AV.bool ((List.replicate f.regs.toNat false).getD x false)] := fun x => by
    rw [List.getD_eq_getElem?_getD, List.getElem?_replicate]; split <;> rfl
  refine AWp_loop (fun k : Nat => mkS [(1, .bp (1, 0, 0) 0), (2, .np), (3, .bp (8, 0, 0) 0), (15, iv f.blocks.length), (16, iv k)] [((1, 0, 0), boxed (encFunc f)), ((8, 0, 0), sBox f (101, 0, 0) (102, 0, 0) k k), ((101, 0, 0), falR f k), ((102, 0, 0), falR f k)]) (fun k => k ≤ f.blocks.length) (fun k => f.blocks.length - k) 0 (Nat.zero_le _) ?_ ?_
  · refine Weak.list [((1, 0, 0), .old (1, 0, 0), boxed (encFunc f)), ((8, 0, 0), .old (8, 0, 0), sBox f (101, 0, 0) (102, 0, 0) 0 0), ((101, 0, 0), .nil, falR f 0), ((102, 0, 0), .nil, falR f 0)] rfl (by rfl) ?_ (.old rfl (BLe.refl _) (.oldR rfl (BLeR.cells rfl (fun x hx => .cons .eq (.cons .eq (.cons .eq (.cons (.nil rfl) (.cons (.nil rfl) .nil)))))) (.new (.new .nil))))
    ((repeat' first | exact TLes.nil | refine TLes.cons (TLe.eq rfl) ?_); skip)
  intro k hk
  (repeat' ((fail_if_success (show AWp _ _ _ (Code.region 6 _ _) _ _)); first | refine AWp_seq ?_ | (refine AWp_reg tok (by rfl) ?_; conv => whnf) | refine AWp_block ?_ | (refine AWp_skip ?_; conv => whnf) | (refine AWp_exit ?_; conv => whnf) | refine AWp_cond rfl (fun hb => ?_) (fun hb => ?_)))
  refine AWp_soft tok mix (by rfl) [0, 1, 2, 3, 4, 5, 6, 7, 11, 12, 13, 14, 15, 16] 20 (by rfl) (by rfl) (by rfl) ?_
  conv => whnf
  repeat' first
    | (refine @And.intro (underG _ _ _ _) _ ?_ ?_; rotate_left; (conv => whnf); rotate_right)
    | (guard_target = And _ _; refine @And.intro (gOp _ _ _ _ _ _ _ _ _) _ (by (conv => whnf); exact ⟨rfl, rfl⟩) ?_; conv => whnf)
    | (guard_target = And _ _; refine And.intro ?_ ?_ <;> (conv => whnf))
  all_goals (try ((guard_target = underG _ _ _ _); refine underG_none ?_; (first | refine And.intro (srcObl_rs rfl ?_) ?_ | skip); (all_goals (try simp only [underG, kz1, kz2, kz3, kz4, kz5, kz6, kz7, kz8, kz9, kz10, kz11, kz12, kz13, kz14, kz15, kz16, kz17, kz18, kz19, kz20, maxL, inn_iff] at *)); all_goals omega))
  rotate_right
  · have hkl : k = f.blocks.length := by simp only [decide_eq_false_iff_not] at hb; omega
    clear hb
    subst hkl
    obtain ⟨ps, hfun⟩ := whole_ok hw
    skip
    refine AWp_loop (fun j : Nat => mkS [(1, .bp (1, 0, 0) 0), (2, .np), (3, .bp (8, 0, 0) 0), (4, .bool (itS f j).2.2)] [((1, 0, 0), boxed (encFunc f)), ((8, 0, 0), sBox f (101, 0, 0) (102, 0, 0) f.blocks.length f.blocks.length), ((101, 0, 0), setR (itS f j).1 f.blocks.length), ((102, 0, 0), setR (itS f j).2.1 f.blocks.length)]) (fun j => j ≤ foundJ f) (fun j => foundJ f - j) 0 (Nat.zero_le _) ?_ ?_
    · refine Weak.list [((1, 0, 0), .old (1, 0, 0), boxed (encFunc f)), ((8, 0, 0), .old (8, 0, 0), sBox f (101, 0, 0) (102, 0, 0) f.blocks.length f.blocks.length), ((101, 0, 0), .old (101, 0, 0), setR (itS f 0).1 f.blocks.length), ((102, 0, 0), .old (102, 0, 0), setR (itS f 0).2.1 f.blocks.length)] rfl (by rfl) ?_ (.old rfl (BLe.refl _) (.old rfl (BLe.refl _) (.old rfl (BLe.rowW (Nat.le_refl _) (fun z hz => Wks.of (by rw [show (itS f 0).1 = falsesL f from rfl, falses_at f hz]; rfl))) (.old rfl (BLe.rowW (Nat.le_refl _) (fun z hz => Wks.of (by rw [show (itS f 0).2.1 = falsesL f from rfl, falses_at f hz]; rfl))) .nil))))
      ((repeat' first | exact TLes.nil | refine TLes.cons (TLe.eq rfl) ?_); skip)
    intro j hj
    (repeat' ((fail_if_success (show AWp _ _ _ (Code.region 10 _ _) _ _)); first | refine AWp_seq ?_ | (refine AWp_reg tok (by rfl) ?_; conv => whnf) | refine AWp_block ?_ | (refine AWp_skip ?_; conv => whnf) | (refine AWp_exit ?_; conv => whnf) | (refine AWp_ret ?_; conv => whnf) | refine AWp_cond rfl (fun hb => ?_) (fun hb => ?_)))
    · have hjl : j < foundJ f := by
        rcases Nat.lt_or_ge j (foundJ f) with h | h
        · exact h
        · have : j = foundJ f := by omega
          rw [this, foundJ_no] at hb; cases hb
      clear hb
      have hg := (itS_good f j).1.more false
      (repeat' ((fail_if_success (show AWp _ _ _ (Code.region 12 _ _) _ _)); first | refine AWp_seq ?_ | (refine AWp_reg tok (by rfl) ?_; conv => whnf) | refine AWp_block ?_))
      refine AWp_loop (fun m : Nat => mkS [(1, .bp (1, 0, 0) 0), (2, .np), (3, .bp (8, 0, 0) 0), (4, .bool (Prod.snd (Prod.snd (swD f ((itS f j).1, (itS f j).2.1, false) m)))), (5, iv ((f.blocks.length : Int) - 1 - ((m : Nat) : Int)))] [((1, 0, 0), boxed (encFunc f)), ((8, 0, 0), sBox f (101, 0, 0) (102, 0, 0) f.blocks.length f.blocks.length), ((101, 0, 0), setR (Prod.fst (swD f ((itS f j).1, (itS f j).2.1, false) m)) f.blocks.length), ((102, 0, 0), setR (Prod.fst (Prod.snd (swD f ((itS f j).1, (itS f j).2.1, false) m))) f.blocks.length)]) (fun m => m ≤ f.blocks.length) (fun m => f.blocks.length - m) 0 (Nat.zero_le _) ?_ ?_
      · refine Weak.list [((1, 0, 0), .old (1, 0, 0), boxed (encFunc f)), ((8, 0, 0), .old (8, 0, 0), sBox f (101, 0, 0) (102, 0, 0) f.blocks.length f.blocks.length), ((101, 0, 0), .old (101, 0, 0), setR (Prod.fst (swD f ((itS f j).1, (itS f j).2.1, false) 0)) f.blocks.length), ((102, 0, 0), .old (102, 0, 0), setR (Prod.fst (Prod.snd (swD f ((itS f j).1, (itS f j).2.1, false) 0))) f.blocks.length)] rfl (by rfl) ?_ (.old rfl (BLe.refl _) (.old rfl (BLe.refl _) (.old rfl (BLe.refl _) (.old rfl (BLe.refl _) .nil))))
        ((repeat' first | exact TLes.nil | refine TLes.cons (TLe.eq rfl) ?_ | refine TLes.cons (TLe.int ?_) ?_); (all_goals first | ((try (simp only [underG, kz1, kz2, kz3, kz4, kz5, kz6, kz7, kz8, kz9, kz10, kz11, kz12, kz13, kz14, kz15, kz16, kz17, kz18, kz19, kz20, maxL, inn_iff] at *)); (simp (disch := omega) only [wrap64]; omega)) | skip))
      intro m hm
      (repeat' ((fail_if_success (show AWp _ _ _ (Code.region 14 _ _) _ _)); first | refine AWp_seq ?_ | (refine AWp_reg tok (by rfl) ?_; conv => whnf) | refine AWp_block ?_ | (refine AWp_skip ?_; conv => whnf) | (refine AWp_exit ?_; conv => whnf) | refine AWp_cond rfl (fun hb => ?_) (fun hb => ?_)))
      · have hml : m < f.blocks.length := by simp only [decide_eq_true_eq] at hb; omega
        clear hb
        have hgen : ∃ n : Nat, n = f.blocks.length - 1 - m := ⟨_, rfl⟩
        obtain ⟨n, hn⟩ := hgen
        have hni : (f.blocks.length : Int) - 1 - (m : Int) = (n : Int) := by omega
        have hg2 := (swD_good hg (m := m) (by omega)).1
        have hsucc : swD f ((itS f j).1, (itS f j).2.1, false) (m + 1) = sw1 f (swD f ((itS f j).1, (itS f j).2.1, false) m) n := by rw [hn]; rfl
        have hgen : ∃ s : SW, swD f ((itS f j).1, (itS f j).2.1, false) m = s := ⟨_, rfl⟩
        obtain ⟨s, hs⟩ := hgen
        simp only [hs] at hg2 hsucc ⊢
        have hcall : ∀ y, y = (n : Int) → HC Try.prog [k0, k1, k2] 127 [(k0, sBox f k1 k2 f.blocks.length f.blocks.length), (k1, setR s.1 f.blocks.length), (k2, setR s.2.1 f.blocks.length)] [.bp k0 0, iv y] (.bool (decide (newAt s.1 f.regs.toNat f n ≠ s.1.getD n [])))
            [(k0, sBox f k1 k2 f.blocks.length f.blocks.length), (k1, setR (s.1.set n (newAt s.1 f.regs.toNat f n)) f.blocks.length), (k2, setR (s.2.1.set n (newBe s.1 f.regs.toNat f n)) f.blocks.length)] := fun y e => by
          have := c_over f n s.1 s.2.1 hr0 hr2 ⟨hg2.l1, fun i hi => by rw [hg2.e1 i (by rw [← hg2.l1]; exact hi)]; omega⟩ hg2.l2 (by omega) hfb (okL hfun (by omega))
          rw [hg2.l1, hg2.l2] at this
          rw [e]; exact this
        by_cases hc : newAt s.1 f.regs.toNat f n = s.1.getD n []
        · refine AWp_regV tok (fun j => bif Nat.beq j 3 then some false else none) (by rfl) ?_
          conv => whnf
          refine .inr ⟨_, _, _, uG (QH.of (dead := []) [(k0, .old (8, 0, 0), sBox f k1 k2 f.blocks.length f.blocks.length), (k1, .old (101, 0, 0), setR s.1 f.blocks.length), (k2, .old (102, 0, 0), setR s.2.1 f.blocks.length)] (hcall _ hni) rfl (.old rfl (BLe.rowO rfl) (.old rfl (BLe.refl _) (.old rfl (BLe.refl _) .nil))) (.cons (.eq rfl) (.cons (.eq rfl) .nil)) [(k0, (8, 0, 0)), (k1, (101, 0, 0)), (k2, (102, 0, 0))] rfl (.cons rfl (BLe.rowO rfl) (.cons rfl (BLe.refl _) (.cons rfl (BLe.refl _) .nil))) rfl), ?_⟩
          conv => whnf
          refine ⟨by rw [decide_eq_false (fun h => h hc)], ?_⟩
          conv => whnf
          (repeat' (refine AWp_reg tok (by rfl) ?_; conv => whnf))
          refine ⟨m + 1, hml, by omega, ?_⟩
          show Weak _ _ _ (mkS [(1, .bp (1, 0, 0) 0), (2, .np), (3, .bp (8, 0, 0) 0), (4, .bool (Prod.snd (Prod.snd (swD f ((itS f j).1, (itS f j).2.1, false) (m + 1))))), (5, iv ((f.blocks.length : Int) - 1 - (((m + 1) : Nat) : Int)))] [((1, 0, 0), boxed (encFunc f)), ((8, 0, 0), sBox f (101, 0, 0) (102, 0, 0) f.blocks.length f.blocks.length), ((101, 0, 0), setR (Prod.fst (swD f ((itS f j).1, (itS f j).2.1, false) (m + 1))) f.blocks.length), ((102, 0, 0), setR (Prod.fst (Prod.snd (swD f ((itS f j).1, (itS f j).2.1, false) (m + 1)))) f.blocks.length)])
          rw [hsucc]
          refine Weak.list [((1, 0, 0), .old (1, 0, 0), boxed (encFunc f)), ((8, 0, 0), .old (8, 0, 0), sBox f (101, 0, 0) (102, 0, 0) f.blocks.length f.blocks.length), ((101, 0, 0), .old (101, 0, 0), setR (Prod.fst (sw1 f s n)) f.blocks.length), ((102, 0, 0), .old (102, 0, 0), setR (Prod.fst (Prod.snd (sw1 f s n))) f.blocks.length)] rfl (by rfl) ?_ (.old rfl (BLe.refl _) (.old rfl (BLe.refl _) (.old rfl (BLe.rowW (Nat.le_refl _) (fun z hz => Wks.of (by unfold sw1; rfl))) (.old rfl (BLe.rowW (Nat.le_refl _) (fun z hz => Wks.of (by unfold sw1; rfl))) .nil))))
          ((repeat' first | exact TLes.nil | refine TLes.cons (TLe.eq rfl) ?_ | refine TLes.cons (TLe.int ?_) ?_ | refine TLes.cons (TLe.bool ?_) ?_); (all_goals first | ((try (simp only [underG, kz1, kz2, kz3, kz4, kz5, kz6, kz7, kz8, kz9, kz10, kz11, kz12, kz13, kz14, kz15, kz16, kz17, kz18, kz19, kz20, maxL, inn_iff] at *)); (simp (disch := omega) only [wrap64]; omega)) | skip))
          simp only [sw1, cond_false]
          rw [decide_eq_false (fun h => h hc)]; rfl
        · refine AWp_regV tok (fun j => bif Nat.beq j 3 then some true else none) (by rfl) ?_
          conv => whnf
          refine .inr ⟨_, _, _, uG (QH.of (dead := []) [(k0, .old (8, 0, 0), sBox f k1 k2 f.blocks.length f.blocks.length), (k1, .old (101, 0, 0), setR s.1 f.blocks.length), (k2, .old (102, 0, 0), setR s.2.1 f.blocks.length)] (hcall _ hni) rfl (.old rfl (BLe.rowO rfl) (.old rfl (BLe.refl _) (.old rfl (BLe.refl _) .nil))) (.cons (.eq rfl) (.cons (.eq rfl) .nil)) [(k0, (8, 0, 0)), (k1, (101, 0, 0)), (k2, (102, 0, 0))] rfl (.cons rfl (BLe.rowO rfl) (.cons rfl (BLe.refl _) (.cons rfl (BLe.refl _) .nil))) rfl), ?_⟩
          conv => whnf
          refine ⟨by rw [decide_eq_true hc], ?_⟩
          conv => whnf
          (repeat' (refine AWp_reg tok (by rfl) ?_; conv => whnf))
          refine ⟨m + 1, hml, by omega, ?_⟩
          show Weak _ _ _ (mkS [(1, .bp (1, 0, 0) 0), (2, .np), (3, .bp (8, 0, 0) 0), (4, .bool (Prod.snd (Prod.snd (swD f ((itS f j).1, (itS f j).2.1, false) (m + 1))))), (5, iv ((f.blocks.length : Int) - 1 - (((m + 1) : Nat) : Int)))] [((1, 0, 0), boxed (encFunc f)), ((8, 0, 0), sBox f (101, 0, 0) (102, 0, 0) f.blocks.length f.blocks.length), ((101, 0, 0), setR (Prod.fst (swD f ((itS f j).1, (itS f j).2.1, false) (m + 1))) f.blocks.length), ((102, 0, 0), setR (Prod.fst (Prod.snd (swD f ((itS f j).1, (itS f j).2.1, false) (m + 1)))) f.blocks.length)])
          rw [hsucc]
          refine Weak.list [((1, 0, 0), .old (1, 0, 0), boxed (encFunc f)), ((8, 0, 0), .old (8, 0, 0), sBox f (101, 0, 0) (102, 0, 0) f.blocks.length f.blocks.length), ((101, 0, 0), .old (101, 0, 0), setR (Prod.fst (sw1 f s n)) f.blocks.length), ((102, 0, 0), .old (102, 0, 0), setR (Prod.fst (Prod.snd (sw1 f s n))) f.blocks.length)] rfl (by rfl) ?_ (.old rfl (BLe.refl _) (.old rfl (BLe.refl _) (.old rfl (BLe.rowW (Nat.le_refl _) (fun z hz => Wks.of (by unfold sw1; rfl))) (.old rfl (BLe.rowW (Nat.le_refl _) (fun z hz => Wks.of (by unfold sw1; rfl))) .nil))))
          ((repeat' first | exact TLes.nil | refine TLes.cons (TLe.eq rfl) ?_ | refine TLes.cons (TLe.int ?_) ?_ | refine TLes.cons (TLe.bool ?_) ?_); (all_goals first | ((try (simp only [underG, kz1, kz2, kz3, kz4, kz5, kz6, kz7, kz8, kz9, kz10, kz11, kz12, kz13, kz14, kz15, kz16, kz17, kz18, kz19, kz20, maxL, inn_iff] at *)); (simp (disch := omega) only [wrap64]; omega)) | skip))
          simp only [sw1, decide_eq_true hc, Bool.true_or, cond_true]
      have hml : m = f.blocks.length := by simp only [decide_eq_false_iff_not] at hb; omega
      clear hb
      subst hml
      refine ⟨j + 1, hjl, by omega, ?_⟩
      refine Weak.list [((1, 0, 0), .old (1, 0, 0), boxed (encFunc f)), ((8, 0, 0), .old (8, 0, 0), sBox f (101, 0, 0) (102, 0, 0) f.blocks.length f.blocks.length), ((101, 0, 0), .old (101, 0, 0), setR (itS f (j + 1)).1 f.blocks.length), ((102, 0, 0), .old (102, 0, 0), setR (itS f (j + 1)).2.1 f.blocks.length)] rfl (by rfl) ?_ (.old rfl (BLe.refl _) (.old rfl (BLe.refl _) (.old rfl (BLe.refl _) (.old rfl (BLe.refl _) .nil))))
      ((repeat' first | exact TLes.nil | refine TLes.cons (TLe.eq rfl) ?_); skip)
    have hjl : j = foundJ f := by
      rcases Nat.lt_or_ge j (foundJ f) with h | h
      · rw [foundJ_lt f h] at hb; cases hb
      · omega
    clear hb
    have hA : foundA f = (itS f j).1 := by unfold foundA; rw [if_pos hw, hjl]
    have hB : foundB f = (itS f j).2.1 := by unfold foundB; rw [if_pos hw, hjl]
    have hg := (itS_good f j).1
    rw [hA, hB, hg.l1, hg.l2]
    skip
    exact ⟨_, [(k0, .old (8, 0, 0), sBox f k1 k2 f.blocks.length f.blocks.length), (k1, .old (101, 0, 0), setR (itS f j).1 f.blocks.length), (k2, .old (102, 0, 0), setR (itS f j).2.1 f.blocks.length)], rfl, rfl, rfl, rfl, .old rfl (BLe.rowO rfl) (.old rfl (BLe.refl _) (.old rfl (BLe.refl _) .nil)), .eq rfl⟩
  all_goals
    have hkl : k < f.blocks.length := by simp only [decide_eq_true_eq] at hb; omega
    refine AWp_weak (Weak.fam (tl := [(1, .bp (1, 0, 0) 0), (2, .np), (3, .bp (8, 0, 0) 0), (15, iv f.blocks.length), (16, iv k)]) (hl := [((1, 0, 0), boxed (encFunc f)), ((8, 0, 0), sBox f (101, 0, 0) (102, 0, 0) (k + 1) (k + 1)), ((101, 0, 0), falR f (k + 1)), ((102, 0, 0), falR f (k + 1))]) (F := noH) [((101, 0, 0), some (28, 0, 0)), ((102, 0, 0), some (37, 0, 0))] rfl (fun c hc => by simp only [tgts, List.mem_cons, List.not_mem_nil, or_false] at hc; rcases hc with rfl | rfl <;> exact .inl rfl) ?_ ?_ noF (fun i hi => by cases hi)) ?_
    · (repeat' first | exact TLg.nil | refine TLg.cons (GV.imm rfl) ?_ | refine TLg.cons (GV.bp rfl rfl) ?_)
    · refine .old rfl rfl (GB.one (GVs.imm rfl) (fun _ => rfl)) (.old rfl rfl (GB.one (.cons (.imm rfl) (.cons (.imm rfl) (.cons (.imm rfl) (.cons (.rs rfl rfl rfl rfl) (.cons (.rs rfl rfl rfl rfl) .nil))))) (fun e => by cases e)) (.old rfl rfl (GB.row (Nat.le_refl _) (fun q hq => ?_) (fun _ _ _ => rfl)) (.old rfl rfl (GB.row (Nat.le_refl _) (fun q hq => ?_) (fun _ _ _ => rfl)) .nil)))
      · exact GVs_appK (K := fun l => mapAVs (kill (102, 0, 0)) (mapAVs (kill (101, 0, 0)) l)) hq (fun _ => GVs.imm rfl) (fun _ => .cons (.frz (hd_no rfl) rfl (Nat.le_of_eq (Nat.zero_add _)) (List.length_replicate).symm (fun x hx => GVs.eqI rfl (falAt x)) (fun _ _ => rfl)) .nil)
      · exact GVs_appK (K := fun l => mapAVs (kill (102, 0, 0)) l) hq (fun _ => GVs.imm rfl) (fun _ => .cons (.frz (hd_no rfl) rfl (Nat.le_of_eq (Nat.zero_add _)) (List.length_replicate).symm (fun x hx => GVs.eqI rfl (falAt x)) (fun _ _ => rfl)) .nil)
    · (repeat' (refine AWp_reg tok (by rfl) ?_; conv => whnf))
      refine ⟨k + 1, hkl, by omega, ?_⟩
      refine Weak.list [((1, 0, 0), .old (1, 0, 0), boxed (encFunc f)), ((8, 0, 0), .old (8, 0, 0), sBox f (101, 0, 0) (102, 0, 0) (k+1) (k+1)), ((101, 0, 0), .old (101, 0, 0), falR f (k+1)), ((102, 0, 0), .old (102, 0, 0), falR f (k+1))] rfl (by rfl) ?_ (.old rfl (BLe.refl _) (.old rfl (BLe.refl _) (.old rfl (BLe.refl _) (.old rfl (BLe.refl _) .nil))))
      ((repeat' first | exact TLes.nil | refine TLes.cons (TLe.eq rfl) ?_ | refine TLes.cons (TLe.int ?_) ?_); (all_goals first | ((try (simp only [underG, kz1, kz2, kz3, kz4, kz5, kz6, kz7, kz8, kz9, kz10, kz11, kz12, kz13, kz14, kz15, kz16, kz17, kz18, kz19, kz20, maxL, inn_iff] at *)); exact wrap64 (by omega) (by omega)) | skip))
end Go.Proofs.Ytmanpbgaihdalaa
namespace Go.Proofs.Ytmanpbgaihdalaa
open Go Dv
set_option maxRecDepth 10000
set_option linter.unusedSimpArgs false
abbrev boolss (A : List (List Bool)) : AV := .sl 1 A.length (fun q => [bools (A.getD q [])])
theorem c_At (f : Func) : FC Try.prog 54 [.agg (encFunc f)] (boolss (foundA f)) := by
  refine FC_intro tok Try.func54 rfl (by decide +kernel) (Nat.le_of_ble_eq_true rfl) ?_
  (repeat' first | refine AWp_seq ?_ | (refine AWp_reg tok (by rfl) ?_; conv => whnf))
  refine .inr ⟨_, _, _, uG (QH.of (dead := []) [] (c_found f) rfl .nil (.cons (.eq rfl) .nil) [(k0, k0), (k1, k1), (k2, k2)] rfl (.cons rfl (BLe.rowO rfl) (.cons rfl (BLe.refl _) (.cons rfl (BLe.refl _) .nil))) rfl), ?_⟩
  conv => whnf
  (repeat' (refine AWp_ret ?_; conv => whnf))
  exact ⟨_, rfl, Rel.row rfl rfl rfl (fun _ _ => rfl)⟩
theorem c_Behind (f : Func) : FC Try.prog 55 [.agg (encFunc f)] (boolss (foundB f)) := by
  refine FC_intro tok Try.func55 rfl (by decide +kernel) (Nat.le_of_ble_eq_true rfl) ?_
  (repeat' first | refine AWp_seq ?_ | (refine AWp_reg tok (by rfl) ?_; conv => whnf))
  refine .inr ⟨_, _, _, uG (QH.of (dead := []) [] (c_found f) rfl .nil (.cons (.eq rfl) .nil) [(k0, k0), (k1, k1), (k2, k2)] rfl (.cons rfl (BLe.rowO rfl) (.cons rfl (BLe.refl _) (.cons rfl (BLe.refl _) .nil))) rfl), ?_⟩
  conv => whnf
  (repeat' (refine AWp_ret ?_; conv => whnf))
  exact ⟨_, rfl, Rel.row rfl rfl rfl (fun _ _ => rfl)⟩
end Go.Proofs.Ytmanpbgaihdalaa
namespace Go.Proofs.Ytmanpbgaihdalaa
open Go Dv Go.ChangeShapes Go.WideShapes Go.ChangeAt Go.RowKit
open Go.Proofs.Ytmanpbgaihdalaa
set_option maxRecDepth 10000
set_option linter.unusedVariables false
section
variable {H : Type} {enc : TypeId × Value → H} {w : World}
abbrev Sm (H : Type) : DataW H → Prop := fun d => Rows.uptoBulk d ≤ 1048576
theorem bulk_all {ds : List (DataW H)} {n : Nat} (h : Rows.uptoBulkAll ds ≤ n) : ∀ d ∈ ds, Rows.uptoBulk d ≤ n := by
  induction ds with
  | nil => intro d hd; cases hd
  | cons x r ih =>
    simp only [Rows.uptoBulkAll] at h
    intro d hd
    simp only [List.mem_cons] at hd
    rcases hd with rfl | hd
    · omega
    · exact ih (by omega) d hd
theorem bulk_pos (d : DataW H) : 1 ≤ Rows.uptoBulk d := by
  cases d with
  | lit l => cases l <;> simp only [Rows.uptoBulk] <;> omega
  | _ => simp only [Rows.uptoBulk]; omega
theorem bulk_len {ds : List (DataW H)} {n : Nat} (h : Rows.uptoBulkAll ds ≤ n) : ds.length ≤ n := by
  induction ds generalizing n with
  | nil => simp
  | cons x r ih =>
    simp only [Rows.uptoBulkAll] at h
    have := bulk_pos x
    have := ih (n := n - Rows.uptoBulk x) (by omega)
    simp only [List.length_cons]; omega
theorem sm_agg (ds : List (DataW H)) (h : Sm H (.agg ds)) : ∀ d ∈ ds, Sm H d := by
  simp only [Sm, Rows.uptoBulk] at h; exact bulk_all (by omega)
theorem sm_slice (es sp : List (DataW H)) (h : Sm H (.slice es sp)) : es.length ≤ maxL ∧ ∀ x ∈ es, Sm H x := by
  simp only [Sm, Rows.uptoBulk] at h
  have h1 : Rows.uptoBulkAll es ≤ 1048576 := by omega
  exact ⟨Nat.le_trans (bulk_len h1) (by decide), bulk_all h1⟩
theorem rd_int : Rd enc Try.prog w (Sm H) 3 Int (fun n => [iv n]) := Rd.int Try.underlying3
theorem rd_u16 : Rd enc Try.prog w (Sm H) 55 Int (fun n => [.int .u16 n]) := Rd.int Try.underlying55
theorem rd_bool : Rd enc Try.prog w (Sm H) 4 Bool (fun b => [.bool b]) := Rd.bool Try.underlying4
theorem rd_ints : Rd enc Try.prog w (Sm H) 31 (List Int) (fun l => [ints l]) := Rd.slice Try.underlying31 (by decide +kernel) (Nat.le_refl _) (fun _ => ⟨rfl, rfl⟩) rd_int sm_slice
theorem rd_u16s : Rd enc Try.prog w (Sm H) 37 (List Int) (fun l => [u16s l]) := Rd.slice Try.underlying37 (by decide +kernel) (Nat.le_refl _) (fun _ => ⟨rfl, rfl⟩) rd_u16 sm_slice
theorem rd_Ins : Rd enc Try.prog w (Sm H) 57 Ins encIns :=
  Rd.map (fun x => ⟨x.1, x.2.1, x.2.2.1, x.2.2.2.1, x.2.2.2.2.1, x.2.2.2.2.2.1, x.2.2.2.2.2.2.1⟩)
    (Rd.struct (fl := [(3, 1), (3, 1), (3, 1), (3, 1), (55, 1), (3, 1), (31, 1)]) Try.underlying57 (.cons rd_int (.cons rd_int (.cons rd_int (.cons rd_int (.cons rd_u16 (.cons rd_int (.cons rd_ints .nil)))))))
      rfl (by decide +kernel) (by decide +kernel) sm_agg) (fun _ => rfl)
theorem rd_inss : Rd enc Try.prog w (Sm H) 40 (List Ins) (fun l => [inss l]) := Rd.slice Try.underlying40 (by decide +kernel) (by decide) (fun _ => ⟨rfl, rfl⟩) rd_Ins sm_slice
theorem rd_End : Rd enc Try.prog w (Sm H) 36 End encEnd :=
  Rd.map (fun x => ⟨x.1, x.2.1, x.2.2.1, x.2.2.2.1, x.2.2.2.2.1, x.2.2.2.2.2.1, x.2.2.2.2.2.2.1, x.2.2.2.2.2.2.2.1⟩)
    (Rd.struct (fl := [(3, 1), (3, 1), (3, 1), (3, 1), (31, 1), (3, 1), (3, 1), (3, 1)]) Try.underlying36 (.cons rd_int (.cons rd_int (.cons rd_int (.cons rd_int (.cons rd_ints (.cons rd_int (.cons rd_int (.cons rd_int .nil))))))))
      rfl (by decide +kernel) (by decide +kernel) sm_agg) (fun _ => rfl)
theorem rd_Pad : Rd enc Try.prog w (Sm H) 39 Pad encPad :=
  Rd.map (fun x => ⟨x.1, x.2.1, x.2.2.1, x.2.2.2.1⟩)
    (Rd.struct (fl := [(3, 1), (37, 1), (4, 1), (4, 1)]) Try.underlying39 (.cons rd_int (.cons rd_u16s (.cons rd_bool (.cons rd_bool .nil))))
      rfl (by decide +kernel) (by decide +kernel) sm_agg) (fun _ => rfl)
theorem rd_Block : Rd enc Try.prog w (Sm H) 42 Block encBlock :=
  Rd.map (fun x => ⟨x.1, x.2.1, x.2.2.1, x.2.2.2.1⟩)
    (Rd.struct (fl := [(4, 1), (39, 4), (40, 1), (36, 8)]) Try.underlying42 (.cons rd_bool (.cons rd_Pad (.cons rd_inss (.cons rd_End .nil))))
      rfl (by decide +kernel) (by decide +kernel) sm_agg) (fun _ => rfl)
theorem rd_blocks : Rd enc Try.prog w (Sm H) 32 (List Block) (fun l => [blockss l]) := Rd.slice Try.underlying32 (by decide +kernel) (by decide) (fun _ => ⟨rfl, rfl⟩) rd_Block sm_slice
theorem rd_Func : Rd enc Try.prog w (Sm H) 34 Func encFunc :=
  Rd.map (fun x => ⟨x.1, x.2.1, x.2.2.1⟩)
    (Rd.struct (fl := [(3, 1), (3, 1), (32, 1)]) Try.underlying34 (.cons rd_int (.cons rd_int (.cons rd_blocks .nil)))
      rfl (by decide +kernel) (by decide +kernel) sm_agg) (fun _ => rfl)
end
theorem small_of {H : Type} {ds gs : List (DataW H)} (hk : Rows.uptoSmall H (ds ++ gs) = true) : ∀ d ∈ ds, Sm H d := by
  have h := of_decide_eq_true hk
  exact fun d hd => bulk_all h d (List.mem_append_left _ hd)
end Go.Proofs.Ytmanpbgaihdalaa
namespace Go.Proofs.Ytmanpbgaihdalaa
open Go Dv
set_option maxRecDepth 10000
set_option linter.unusedSimpArgs false
end Go.Proofs.Ytmanpbgaihdalaa
namespace Go.Proofs.Ytmanpbgaihdalaa
open Go Dv
set_option maxRecDepth 10000
set_option linter.unusedSimpArgs false
structure Iv2 (len : Nat) (D : Nat → List Bool → Bool) (is : List Bool) (n : Nat) (js : List Bool) : Prop where
  sz : js.length = len
  be : Beneath len D js
  le : leL is js
  don : ∀ j, j < n → D j is = true → js.getD j false = true
theorem Iv2.set {len : Nat} {D : Nat → List Bool → Bool} {is js : List Bool} {n m : Nat} (h : Iv2 len D is n js) (hD : MonoD D) (hm : m < len) (hd : D m js = true) : Iv2 len D is n (js.set m true) := by
  have hs := h.sz
  refine ⟨by simp [hs], fun c hc i e => ?_, h.le.trans (leL_set _ _), fun j hj hd => leL_set _ _ j (h.don j hj hd)⟩
  rw [set_get (by omega), Bool.or_eq_true] at e
  rcases e with e | e
  · have : m = i := by simpa using e
    subst this
    exact hc.cl m hm (hD m js c (h.be c hc) hd)
  · exact h.be c hc i e
structure Iv0 (len : Nat) (D : Nat → List Bool → Bool) (r : Nat) (is : List Bool) : Prop where
  sz : is.length = len
  be : Beneath len D is
  pr : Closed len D is ∨ r ≤ cnt is
theorem Iv0.next {len : Nat} {D : Nat → List Bool → Bool} {is js : List Bool} {r : Nat} (h0 : Iv0 len D r is) (h : Iv2 len D is len js) : Iv0 len D (r + 1) js := by
  refine ⟨h.sz, h.be, ?_⟩
  obtain ⟨h1, h2⟩ := cnt_mono (by rw [h0.sz, h.sz]) h.le
  by_cases hc : cnt js ≤ cnt is
  · have e := h2 hc
    left
    refine ⟨h.sz, fun n hn hd => ?_⟩
    exact h.don n hn (by rw [e]; exact hd)
  · rcases h0.pr with hcl | hcl
    · exfalso
      have e1 := h.be is hcl
      have := (cnt_mono (by rw [h0.sz, h.sz]) e1).1
      omega
    · right; omega
theorem Iv0.done {len : Nat} {D : Nat → List Bool → Bool} (hD : MonoD D) {is : List Bool} (h0 : Iv0 len D (len + 1) is) : is = lfp len D := by
  refine lfp_uniq hD ?_ h0.be
  rcases h0.pr with h | h
  · exact h
  · have := cnt_le (a := is); rw [h0.sz] at this; omega
end Go.Proofs.Ytmanpbgaihdalaa
namespace Go.Proofs.Ytmanpbgaihdalaa
open Go Dv
set_option maxRecDepth 10000
set_option linter.unusedSimpArgs false
end Go.Proofs.Ytmanpbgaihdalaa
namespace Go.Proofs.Ytmanpbgaihdalaa
open Go Dv
set_option maxRecDepth 10000
set_option linter.unusedSimpArgs false
def nilPad : Pad := ⟨0, [], false, false⟩
end Go.Proofs.Ytmanpbgaihdalaa
namespace Go.Proofs.Ytmanpbgaihdalaa
open Go Dv
set_option maxRecDepth 10000
set_option linter.unusedSimpArgs false
def awL : Func := ⟨0, 3, [⟨false, nilPad, [⟨3, 2, 0, 1, 0, 0, []⟩], ⟨1, 2, 0, 0, [], 0, 0, 0⟩⟩]⟩
theorem awL_at : foundA awL = [[true, true, false]] := by
  have h := found_fix (f := awL) (by decide +kernel)
  generalize foundA awL = A at h
  have h1 : A.length = 1 := h.l1
  have h2 : newAt A 3 awL 0 = A.getD 0 [] := h.at_ 0 (by decide)
  have h3 : newAt A 3 awL 0 = [true, true, false] := rfl
  rw [h3] at h2
  match A, h1 with
  | [x], _ => have : x = [true, true, false] := h2.symm
              rw [this]
theorem c_awake10 : FC Try.prog 53 [] (.bool true) := by
  refine FC_intro tok Try.func53 rfl (by decide +kernel) (Nat.le_of_ble_eq_true rfl) ?_
  have h1 : FC Try.prog 54 [.agg (encFunc awL)] (boolss [[true, true, false]]) := awL_at ▸ c_At awL
  (repeat' first | refine AWp_seq ?_ | (refine AWp_reg tok (by rfl) ?_; conv => whnf))
  refine .inr ⟨_, _, _, uG (QH.give (args' := [.agg (encFunc awL)]) (rd := [freshD (some 6), freshD (some 3)]) h1 (.cons (.agg (.cons (.imm rfl) (.cons (.imm rfl) (.cons (.rsN rfl (by simp) (Nat.le_refl _) rfl (fun x hx => ?_)) .nil)))) .nil) rfl), ?_⟩
  · match x, hx with
    | 0, _ =>
      refine .cons (.imm rfl) (.cons (.imm rfl) (.cons .nsl (.cons (.imm rfl) (.cons (.imm rfl) (.cons (.rsW rfl (by simp) (Nat.le_refl _) rfl (fun x hx => ?_)) (.cons (.imm rfl) (.cons (.imm rfl) (.cons (.imm rfl) (.cons (.imm rfl) (.cons .nsl (.cons (.imm rfl) (.cons (.imm rfl) (.cons (.imm rfl) .nil)))))))))))))
      match x, hx with
      | 0, _ => (repeat' ((conv => arg 1; whnf); (conv => arg 2; whnf); first | refine Wks.cons .refl ?_ | refine Wks.cons (.nsl rfl) ?_ | exact Wks.nil))
  conv => whnf
  ((repeat' first | refine AWp_seq ?_ | (refine AWp_reg tok (by rfl) ?_; conv => whnf) | (refine AWp_ret ?_; conv => whnf) | (refine @And.intro (underG _ _ _ _) _ ?_ ?_; rotate_left; (conv => whnf); rotate_right)); all_goals (try ((guard_target = underG _ _ _ _); ((refine underG_some ?_; intro hgd; (conv at hgd => whnf))); (all_goals (try simp only [underG, kz1, kz2, kz3, kz4, kz5, kz6, kz7, kz8, kz9, kz10, kz11, kz12, kz13, kz14, kz15, kz16, kz17, kz18, kz19, kz20, maxL, inn_iff] at *)); all_goals omega)))
  exact ⟨_, rfl, Rel.bool rfl⟩
end Go.Proofs.Ytmanpbgaihdalaa
namespace Go.Proofs.Ytmanpbgaihdalaa
open Go Dv
set_option maxRecDepth 10000
set_option linter.unusedSimpArgs false
theorem upAll_mem {g : Nat → Bool} : ∀ {l : List Int} {p : Int}, p ∈ l → (∀ g', g' p.toNat = true → upAll g' l p.toNat = true) ∧ upAll g l p.toNat = true := by
  intro l p hp
  have keep : ∀ (l : List Int) (g' : Nat → Bool), g' p.toNat = true → upAll g' l p.toNat = true := by
    intro l
    induction l with
    | nil => intro g' h; exact h
    | cons x r ih =>
      intro g' h
      refine ih _ ?_
      show (if p.toNat = x.toNat then true else g' p.toNat) = true
      split
      · rfl
      · exact h
  refine ⟨keep l, ?_⟩
  induction l generalizing g with
  | nil => cases hp
  | cons x r ih =>
    rcases List.mem_cons.1 hp with e | e
    · subst e
      refine keep r _ ?_
      show (if p.toNat = p.toNat then true else g p.toNat) = true
      rw [if_pos rfl]
    · exact ih e
def nx1 (A : List (List Bool)) (b : Block) (p : Nat) : Bool := if b.fin.kind = 2 ∨ b.fin.kind = 3 ∨ (b.fin.kind = 4 ∧ b.fin.dst ≠ p) then (A.getD b.fin.to.toNat []).getD p false else false
def nx2 (A : List (List Bool)) (b : Block) (p : Nat) : Bool := if b.fin.kind = 3 then nx1 A b p || (A.getD b.fin.els.toNat []).getD p false else nx1 A b p
def nx3 (A : List (List Bool)) (f : Func) (b : Block) (p : Nat) : Bool := if b.fin.kind = 4 ∧ (f.blocks.getD b.fin.pad.toNat default).pad.dst ≠ p then nx2 A b p || (A.getD b.fin.pad.toNat []).getD p false else nx2 A b p
theorem gPad_nx (A : List (List Bool)) (f : Func) (b : Block) {R p : Nat} (hp : p < R) : gPad A R f b p = nx3 A f b p := by
  have hm : ∀ g a but, mgF g a but R p = (g p || (a.getD p false && decide ((p : Int) ≠ but))) := fun g a but => by unfold mgF; rw [if_pos hp]
  have hne : decide ((p : Int) ≠ -1) = true := decide_eq_true (by omega)
  unfold nx3 gPad nx2 nx1
  by_cases h4 : b.fin.kind = 4
  · have hg : goalsL b = [b.fin.to] := by unfold goalsL; rw [if_pos (.inr h4)]
    have hb : butOf b = b.fin.dst := by unfold butOf; rw [if_pos h4]
    have h3 : ¬ b.fin.kind = 3 := by omega
    have h2 : ¬ b.fin.kind = 2 := by omega
    rw [if_pos h4, hm, if_neg h3]
    unfold gGoals
    rw [hg]
    simp only [List.foldl_cons, List.foldl_nil]
    rw [hm, hb]
    simp only [h4, h2, true_and, false_or, Bool.false_or, show ¬ (4 : Int) = 3 by omega, show ¬ (4 : Int) = 2 by omega]
    generalize (A.getD b.fin.to.toNat []).getD p false = x
    generalize (A.getD b.fin.pad.toNat []).getD p false = y
    generalize (f.blocks.getD b.fin.pad.toNat default).pad.dst = d
    generalize b.fin.dst = e
    by_cases e1 : (p : Int) = e
    · subst e1
      by_cases e2 : (p : Int) = d
      · subst e2; simp
      · simp [e2, Ne.symm e2]
    · by_cases e2 : (p : Int) = d
      · subst e2; simp [e1, Ne.symm e1]
      · simp [e1, e2, Ne.symm e1, Ne.symm e2]
  · have hb : butOf b = -1 := by unfold butOf; rw [if_neg h4]
    rw [if_neg h4, if_neg (fun h => h4 h.1)]
    by_cases h3 : b.fin.kind = 3
    · have hg : goalsL b = [b.fin.to, b.fin.els] := by unfold goalsL; rw [if_neg (by omega), if_pos h3]
      unfold gGoals
      rw [hg]
      simp only [List.foldl_cons, List.foldl_nil]
      rw [hm, hm, hb, if_pos h3, if_pos (.inr (.inl h3)), hne]
      simp
    · rw [if_neg h3]
      by_cases h2 : b.fin.kind = 2
      · have hg : goalsL b = [b.fin.to] := by unfold goalsL; rw [if_pos (.inl h2)]
        unfold gGoals
        rw [hg]
        simp only [List.foldl_cons, List.foldl_nil]
        rw [hm, hb, if_pos (.inl h2), hne]
        simp
      · have hg : goalsL b = [] := by unfold goalsL; rw [if_neg (by omega), if_neg h3]
        unfold gGoals
        rw [hg, if_neg (by omega)]
        rfl
theorem nx1_bif (A : List (List Bool)) (b : Block) (p : Nat) : nx1 A b p = bif (bif bif decide (b.fin.kind = 2) then true else decide (b.fin.kind = 3) then true else bif decide (b.fin.kind = 4) then !decide (b.fin.dst = (p : Int)) else false) then (A.getD b.fin.to.toNat []).getD p false else false := by
  unfold nx1
  generalize (A.getD b.fin.to.toNat []).getD p false = x1
  generalize b.fin.dst = e
  generalize b.fin.kind = k
  by_cases h2 : k = 2
  · subst h2; simp
  by_cases h3 : k = 3
  · subst h3; simp
  by_cases h4 : k = 4
  · subst h4; simp <;> (by_cases e1 : e = p <;> simp [e1])
  · simp [h2, h3, h4]
theorem nx2_bif (A : List (List Bool)) (b : Block) (p : Nat) : nx2 A b p = bif decide (b.fin.kind = 3) then bif nx1 A b p then true else (A.getD b.fin.els.toNat []).getD p false else nx1 A b p := by
  unfold nx2
  by_cases h3 : b.fin.kind = 3
  · rw [if_pos h3, decide_eq_true h3]; cases nx1 A b p <;> rfl
  · rw [if_neg h3, decide_eq_false h3]; rfl
theorem nx3_bif (A : List (List Bool)) (f : Func) (b : Block) (p : Nat) : nx3 A f b p = bif (bif decide (b.fin.kind = 4) then !decide ((f.blocks.getD b.fin.pad.toNat default).pad.dst = (p : Int)) else false) then bif nx2 A b p then true else (A.getD b.fin.pad.toNat []).getD p false else nx2 A b p := by
  unfold nx3
  generalize (f.blocks.getD b.fin.pad.toNat default).pad.dst = d
  by_cases h4 : b.fin.kind = 4
  · by_cases e : d = p
    · rw [if_neg (fun h => h.2 e), decide_eq_true h4, decide_eq_true e]; rfl
    · rw [if_pos ⟨h4, e⟩, decide_eq_true h4, decide_eq_false e]; cases nx2 A b p <;> rfl
  · rw [if_neg (fun h => h4 h.1), decide_eq_false h4]; rfl
theorem asks_live {f : Func} {A B : List (List Bool)} (h : FixP f A B) {n : Nat} (hn : n < f.blocks.length) (hl : 0 < (f.blocks.getD n default).ins.length) {p : Int} (hp : p ∈ asksL ((f.blocks.getD n default).ins.getD 0 default)) (h0 : 0 ≤ p) (hR : p < f.regs) : (A.getD n []).getD p.toNat false = true := by
  rw [← h.at_ n hn]
  unfold newAt
  rw [listB_at (by omega)]
  unfold gIns
  have : ∃ x r, (f.blocks.getD n default).ins = x :: r := by
    cases e : (f.blocks.getD n default).ins with
    | nil => rw [e] at hl; simp at hl
    | cons x r => exact ⟨x, r, rfl⟩
  obtain ⟨x, r, e⟩ := this
  rw [e] at hp ⊢
  rw [List.foldr_cons]
  have hp' : p ∈ asksL x := hp
  unfold stepX
  exact (upAll_mem hp').2
set_option maxHeartbeats 4000000 in
theorem c_LiveGoes (f : Func) : FC Try.prog 11 [.agg (encFunc f)] (.bool true) := by
  refine FC_intro tok Try.func11 rfl (by decide +kernel) (Nat.le_of_ble_eq_true rfl) ?_
  have hfx : wholeB f = true → FixP f (foundA f) (foundB f) := found_fix
  have hno : wholeB f = false → foundA f = [] ∧ foundB f = [] := found_no
  have hAc := c_At f
  have hBc := c_Behind f
  have hgen : ∃ A, foundA f = A := ⟨_, rfl⟩
  obtain ⟨A, hA⟩ := hgen
  have hgen : ∃ B, foundB f = B := ⟨_, rfl⟩
  obtain ⟨B, hB⟩ := hgen
  rw [hA, hB] at hfx hno
  rw [hA] at hAc
  rw [hB] at hBc
  clear hA hB
  (repeat' first | refine AWp_seq ?_ | (refine AWp_reg tok (by rfl) ?_; conv => whnf))
  refine .inl ⟨_, _, _, uG (QC.fc c_awake10 rfl), ?_⟩
  conv => whnf
  (repeat' first | refine AWp_seq ?_ | (refine AWp_reg tok (by rfl) ?_; conv => whnf) | (refine AWp_any tok mix (by rfl) ?_; conv => whnf) | (refine AWp_skip ?_; conv => whnf) | (refine AWp_ret ?_; conv => whnf) | refine AWp_cond rfl (fun hb => ?_) (fun hb => ?_))
  · cases hb
  clear hb
  refine .inl ⟨_, _, _, uG (QC.fc hAc rfl), ?_⟩
  conv => whnf
  refine .inl ⟨_, _, _, uG (QC.fc hBc rfl), ?_⟩
  conv => whnf
  have hAB : A.length = B.length := by
    cases hw : wholeB f with
    | true => have := hfx hw; rw [this.l1, this.l2]
    | false => obtain ⟨e1, e2⟩ := hno hw; rw [e1, e2]
  (repeat' ((fail_if_success (show AWp _ _ _ (Code.region 5 _ _) _ _)); (fail_if_success (show AWp _ _ _ (Code.region 6 _ _) _ _)); first | refine AWp_seq ?_ | (refine AWp_reg tok (by rfl) ?_; conv => whnf) | (refine AWp_skip ?_; conv => whnf) | refine AWp_cond rfl (fun hb => ?_) (fun hb => ?_)))
  · clear hb
    (repeat' first | (refine AWp_reg tok (by rfl) ?_; conv => whnf) | (refine AWp_ret ?_; conv => whnf))
    exact ⟨_, rfl, Rel.bool (decide_eq_true (by omega))⟩
  have hc : f.blocks.length ≤ 30 ∧ f.regs ≤ 30 ∧ A.length = f.blocks.length ∧ B.length = f.blocks.length := by
    simp at hb
    omega
  clear hb
  obtain ⟨hb30, hr30, hAl, hBl⟩ := hc
  (repeat' first | (refine AWp_reg tok (by rfl) ?_; conv => whnf) | refine AWp_block ?_)
  refine AWp_loop (fun n : Nat => mkS [(1, .bp (1, 0, 0) 0), (2, .bool false), (3, boolss A), (4, boolss B), (5, iv n)] [((1, 0, 0), boxed (encFunc f))]) (fun n => n ≤ f.blocks.length) (fun n => f.blocks.length - n) 0 (Nat.zero_le _) ?_ ?_
  · refine Weak.list [((1, 0, 0), .old (1, 0, 0), boxed (encFunc f))] rfl (by rfl) ?_ (.old rfl (BLe.refl _) .nil)
    ((repeat' first | exact TLes.nil | refine TLes.cons (TLe.eq rfl) ?_); skip)
  intro n hn
  (repeat' ((fail_if_success (show AWp _ _ _ (Code.region 9 _ _) _ _)); first | refine AWp_seq ?_ | (refine AWp_reg tok (by rfl) ?_; conv => whnf) | refine AWp_block ?_ | (refine AWp_skip ?_; conv => whnf) | (refine AWp_exit ?_; conv => whnf) | (refine AWp_ret ?_; conv => whnf) | refine AWp_cond rfl (fun hb => ?_) (fun hb => ?_)))
  · have hnl : n < f.blocks.length := by simp only [decide_eq_true_eq] at hb; omega
    clear hb
    have hw : wholeB f = true := by
      cases hw : wholeB f with
      | true => rfl
      | false => obtain ⟨e1, e2⟩ := hno hw; rw [e1] at hAl; simp at hAl; omega
    have hF := hfx hw
    obtain ⟨hr0, hr2, hfb⟩ := whole_fun hw
    obtain ⟨ps, hfun⟩ := whole_ok hw
    have hok := okL hfun hnl
    have hbe := hF.be n hnl
    have hBe := hF.e2 n hnl
    have hAe := hF.e1
    have hask := asks_live hF hnl
    unfold newBe at hbe
    have hgen : ∃ b, f.blocks.getD n default = b := ⟨_, rfl⟩
    obtain ⟨b, hbn⟩ := hgen
    rw [hbn] at hok hbe hask
    have hto : (b.fin.kind = 2 ∨ b.fin.kind = 3 ∨ b.fin.kind = 4) → 0 ≤ b.fin.to ∧ b.fin.to < f.blocks.length := fun h => hok.goals _ (by
      unfold goalsL
      by_cases h2 : b.fin.kind = 2 ∨ b.fin.kind = 4
      · rw [if_pos h2]; simp
      · rw [if_neg h2, if_pos (by omega)]; simp)
    have hels : b.fin.kind = 3 → 0 ≤ b.fin.els ∧ b.fin.els < f.blocks.length := fun h => hok.goals _ (by
      unfold goalsL
      rw [if_neg (by omega), if_pos h]; simp)
    have hpad : b.fin.kind = 4 → 0 ≤ b.fin.pad ∧ b.fin.pad < f.blocks.length := hok.pad
    have hto2 : (b.fin.kind = 2 ∨ b.fin.kind = 3 ∨ b.fin.kind = 4) → (A.getD b.fin.to.toNat []).length = f.regs.toNat := fun h => hAe _ (by have := hto h; omega)
    have hels2 : b.fin.kind = 3 → (A.getD b.fin.els.toNat []).length = f.regs.toNat := fun h => hAe _ (by have := hels h; omega)
    have hpad2 : b.fin.kind = 4 → (A.getD b.fin.pad.toNat []).length = f.regs.toNat := fun h => hAe _ (by have := hpad h; omega)
    have hAn : (A.getD n []).length = f.regs.toNat := hAe n hnl
    ((repeat' ((fail_if_success (show AWp _ _ _ (Code.region 10 _ _) _ _)); first | refine AWp_seq ?_ | (refine AWp_reg tok (by rfl) ?_; conv => whnf) | (refine @And.intro (underG _ _ _ _) _ ?_ ?_; rotate_left; (conv => whnf); rotate_right))); all_goals (try ((guard_target = underG _ _ _ _); refine underG_none ?_; all_goals omega)))
    refine AWp_weak (Weak.list (tl := [(1, .bp (1, 0, 0) 0), (2, .bool false), (3, boolss A), (4, boolss B), (5, iv n), (6, .bp (6, 0, 0) 0)]) [((1, 0, 0), .old (1, 0, 0), boxed (encFunc f)), ((6, 0, 0), .old (6, 0, 0), .row true 14 1 (fun _ => encBlock b))] rfl (by rfl) ?_ (.old rfl (BLe.refl _) (.old rfl (BLe.rowW (Nat.le_refl _) (ltS (Wks.of (by rw [← hbn, Int.toNat_natCast]; rfl)) lt0)) .nil))) ?_
    · ((repeat' first | exact TLes.nil | refine TLes.cons (TLe.eq rfl) ?_); skip)
    (repeat' first | (refine AWp_reg tok (by rfl) ?_; conv => whnf) | refine AWp_block ?_)
    refine AWp_loop (fun p : Nat => mkS [(1, .bp (1, 0, 0) 0), (2, .bool false), (3, boolss A), (4, boolss B), (5, iv n), (6, .bp (6, 0, 0) 0), (7, iv p)] [((1, 0, 0), boxed (encFunc f)), ((6, 0, 0), .row true 14 1 (fun _ => encBlock b))]) (fun p => p ≤ f.regs.toNat) (fun p => f.regs.toNat - p) 0 (Nat.zero_le _) ?_ ?_
    · refine Weak.list [((1, 0, 0), .old (1, 0, 0), boxed (encFunc f)), ((6, 0, 0), .old (6, 0, 0), .row true 14 1 (fun _ => encBlock b))] rfl (by rfl) ?_ (.old rfl (BLe.refl _) (.old rfl (BLe.refl _) .nil))
      ((repeat' first | exact TLes.nil | refine TLes.cons (TLe.eq rfl) ?_); skip)
    intro p hp
    (repeat' ((fail_if_success (show AWp _ _ _ (Code.region 13 _ _) _ _)); (fail_if_success (show AWp _ _ _ (Code.region 22 _ _) _ _)); first | refine AWp_seq ?_ | (refine AWp_reg tok (by rfl) ?_; conv => whnf) | refine AWp_block ?_ | (refine AWp_skip ?_; conv => whnf) | (refine AWp_exit ?_; conv => whnf) | refine AWp_cond rfl (fun hb => ?_) (fun hb => ?_)))
    · have hpl : p < f.regs.toNat := by simp only [decide_eq_true_eq] at hb; omega
      clear hb
      have hnx : (B.getD n []).getD p false = nx3 A f b p := by rw [hbe, listB_at hpl, gPad_nx A f b hpl]
      (repeat' first | refine AWp_seq ?_ | (refine AWp_reg tok (by rfl) ?_; conv => whnf))
      refine AWp_meet (α := Unit) (fun _ => mkS [(1, .bp (1, 0, 0) 0), (2, .bool false), (3, boolss A), (4, boolss B), (5, iv n), (6, .bp (6, 0, 0) 0), (7, iv p), (8, .bool (nx1 A b p))] [((1, 0, 0), boxed (encFunc f)), ((6, 0, 0), .row true 14 1 (fun _ => encBlock b))]) (fun _ => True) ?_ ?_
      · refine AWp_cond rfl (fun hb => ?_) (fun hb => ?_)
        · ((repeat' first | (refine AWp_reg tok (by rfl) ?_; conv => whnf) | (refine @And.intro (underG _ _ _ _) _ ?_ ?_; rotate_left; (conv => whnf); rotate_right)); all_goals (try ((guard_target = underG _ _ _ _); refine underG_none ?_; (all_goals (try simp only [underG, kz1, kz2, kz3, kz4, kz5, kz6, kz7, kz8, kz9, kz10, kz11, kz12, kz13, kz14, kz15, kz16, kz17, kz18, kz19, kz20, maxL, inn_iff] at *)); all_goals omega)))
          refine ⟨(), trivial, Weak.list [((1, 0, 0), .old (1, 0, 0), boxed (encFunc f)), ((6, 0, 0), .old (6, 0, 0), .row true 14 1 (fun _ => encBlock b))] rfl (by rfl) ?_ (.old rfl (BLe.refl _) (.old rfl (BLe.refl _) .nil))⟩
          ((repeat' first | exact TLes.nil | refine TLes.cons (TLe.eq rfl) ?_ | refine TLes.cons (TLe.bool ?_) ?_); skip)
          rw [nx1_bif, hb]; simp
        · (repeat' (refine AWp_skip ?_; conv => whnf))
          refine ⟨(), trivial, Weak.list [((1, 0, 0), .old (1, 0, 0), boxed (encFunc f)), ((6, 0, 0), .old (6, 0, 0), .row true 14 1 (fun _ => encBlock b))] rfl (by rfl) ?_ (.old rfl (BLe.refl _) (.old rfl (BLe.refl _) .nil))⟩
          ((repeat' first | exact TLes.nil | refine TLes.cons (TLe.eq rfl) ?_ | refine TLes.cons (TLe.bool ?_) ?_); skip)
          rw [nx1_bif, hb]; simp
      rintro ⟨⟩ - τ hw
      refine AWp_weak hw ?_
      clear hw
      (repeat' first | refine AWp_seq ?_ | (refine AWp_reg tok (by rfl) ?_; conv => whnf))
      refine AWp_meet (α := Unit) (fun _ => mkS [(1, .bp (1, 0, 0) 0), (2, .bool false), (3, boolss A), (4, boolss B), (5, iv n), (6, .bp (6, 0, 0) 0), (7, iv p), (8, .bool (nx2 A b p))] [((1, 0, 0), boxed (encFunc f)), ((6, 0, 0), .row true 14 1 (fun _ => encBlock b))]) (fun _ => True) ?_ ?_
      · refine AWp_cond rfl (fun hb => ?_) (fun hb => ?_)
        · ((repeat' first | (refine AWp_reg tok (by rfl) ?_; conv => whnf) | (refine @And.intro (underG _ _ _ _) _ ?_ ?_; rotate_left; (conv => whnf); rotate_right)); all_goals (try ((guard_target = underG _ _ _ _); ((refine underG_some ?_; intro hgd; (conv at hgd => whnf))); (all_goals (try simp only [underG, kz1, kz2, kz3, kz4, kz5, kz6, kz7, kz8, kz9, kz10, kz11, kz12, kz13, kz14, kz15, kz16, kz17, kz18, kz19, kz20, maxL, inn_iff] at *)); all_goals omega)))
          refine ⟨(), trivial, Weak.list [((1, 0, 0), .old (1, 0, 0), boxed (encFunc f)), ((6, 0, 0), .old (6, 0, 0), .row true 14 1 (fun _ => encBlock b))] rfl (by rfl) ?_ (.old rfl (BLe.refl _) (.old rfl (BLe.refl _) .nil))⟩
          ((repeat' first | exact TLes.nil | refine TLes.cons (TLe.eq rfl) ?_ | refine TLes.cons (TLe.bool ?_) ?_); skip)
          rw [nx2_bif, hb]; simp
        · (repeat' (refine AWp_skip ?_; conv => whnf))
          refine ⟨(), trivial, Weak.list [((1, 0, 0), .old (1, 0, 0), boxed (encFunc f)), ((6, 0, 0), .old (6, 0, 0), .row true 14 1 (fun _ => encBlock b))] rfl (by rfl) ?_ (.old rfl (BLe.refl _) (.old rfl (BLe.refl _) .nil))⟩
          ((repeat' first | exact TLes.nil | refine TLes.cons (TLe.eq rfl) ?_ | refine TLes.cons (TLe.bool ?_) ?_); skip)
          rw [nx2_bif, hb]; simp
      rintro ⟨⟩ - τ hw
      refine AWp_weak hw ?_
      clear hw
      ((repeat' first | refine AWp_seq ?_ | (refine AWp_reg tok (by rfl) ?_; conv => whnf) | (refine @And.intro (underG _ _ _ _) _ ?_ ?_; rotate_left; (conv => whnf); rotate_right)); all_goals (try ((guard_target = underG _ _ _ _); ((refine underG_some ?_; intro hgd; (conv at hgd => whnf))); (all_goals (try simp only [underG, kz1, kz2, kz3, kz4, kz5, kz6, kz7, kz8, kz9, kz10, kz11, kz12, kz13, kz14, kz15, kz16, kz17, kz18, kz19, kz20, maxL, inn_iff] at *)); all_goals omega)))
      refine AWp_meet (α := Unit) (fun _ => mkS [(1, .bp (1, 0, 0) 0), (2, .bool false), (3, boolss A), (4, boolss B), (5, iv n), (6, .bp (6, 0, 0) 0), (7, iv p), (8, .bool (nx3 A f b p))] [((1, 0, 0), boxed (encFunc f)), ((6, 0, 0), .row true 14 1 (fun _ => encBlock b))]) (fun _ => True) ?_ ?_
      · refine AWp_cond rfl (fun hb => ?_) (fun hb => ?_)
        · ((repeat' first | (refine AWp_reg tok (by rfl) ?_; conv => whnf) | (refine @And.intro (underG _ _ _ _) _ ?_ ?_; rotate_left; (conv => whnf); rotate_right)); all_goals (try ((guard_target = underG _ _ _ _); ((refine underG_some ?_; intro hgd; (conv at hgd => whnf))); (all_goals (try simp only [underG, kz1, kz2, kz3, kz4, kz5, kz6, kz7, kz8, kz9, kz10, kz11, kz12, kz13, kz14, kz15, kz16, kz17, kz18, kz19, kz20, maxL, inn_iff] at *)); all_goals omega)))
          refine ⟨(), trivial, Weak.list [((1, 0, 0), .old (1, 0, 0), boxed (encFunc f)), ((6, 0, 0), .old (6, 0, 0), .row true 14 1 (fun _ => encBlock b))] rfl (by rfl) ?_ (.old rfl (BLe.refl _) (.old rfl (BLe.refl _) .nil))⟩
          ((repeat' first | exact TLes.nil | refine TLes.cons (TLe.eq rfl) ?_ | refine TLes.cons (TLe.bool ?_) ?_); skip)
          rw [nx3_bif, hb]; simp
        · (repeat' (refine AWp_skip ?_; conv => whnf))
          refine ⟨(), trivial, Weak.list [((1, 0, 0), .old (1, 0, 0), boxed (encFunc f)), ((6, 0, 0), .old (6, 0, 0), .row true 14 1 (fun _ => encBlock b))] rfl (by rfl) ?_ (.old rfl (BLe.refl _) (.old rfl (BLe.refl _) .nil))⟩
          ((repeat' first | exact TLes.nil | refine TLes.cons (TLe.eq rfl) ?_ | refine TLes.cons (TLe.bool ?_) ?_); skip)
          rw [nx3_bif, hb]; simp
      rintro ⟨⟩ - τ hw
      refine AWp_weak hw ?_
      clear hw
      ((repeat' first | refine AWp_seq ?_ | (refine AWp_reg tok (by rfl) ?_; conv => whnf) | (refine @And.intro (underG _ _ _ _) _ ?_ ?_; rotate_left; (conv => whnf); rotate_right)); all_goals (try ((guard_target = underG _ _ _ _); refine underG_none ?_; (all_goals (try simp only [underG, kz1, kz2, kz3, kz4, kz5, kz6, kz7, kz8, kz9, kz10, kz11, kz12, kz13, kz14, kz15, kz16, kz17, kz18, kz19, kz20, maxL, inn_iff] at *)); all_goals omega)))
      refine AWp_cond rfl (fun hb => ?_) (fun hb => ?_)
      · exfalso
        simp only [Int.toNat_natCast, cond_true, cond_false] at hb; rw [Bool.not_eq_true', decide_eq_false_iff_not] at hb; exact hb hnx
      clear hb
      (repeat' first | (refine AWp_reg tok (by rfl) ?_; conv => whnf) | (refine AWp_skip ?_; conv => whnf))
      refine ⟨p + 1, hpl, by omega, ?_⟩
      refine Weak.list [((1, 0, 0), .old (1, 0, 0), boxed (encFunc f)), ((6, 0, 0), .old (6, 0, 0), .row true 14 1 (fun _ => encBlock b))] rfl (by rfl) ?_ (.old rfl (BLe.refl _) (.old rfl (BLe.refl _) .nil))
      ((repeat' first | exact TLes.nil | refine TLes.cons (TLe.eq rfl) ?_ | refine TLes.cons (TLe.int ?_) ?_); (all_goals first | (exact wrap64 (by omega) (by omega)) | skip))
    · have hpl : p = f.regs.toNat := by simp only [decide_eq_false_iff_not] at hb; omega
      clear hb
      (repeat' ((fail_if_success (show AWp _ _ _ (Code.region 23 _ _) _ _)); (fail_if_success (show AWp _ _ _ (Code.region 8 _ _) _ _)); first | refine AWp_seq ?_ | (refine AWp_reg tok (by rfl) ?_; conv => whnf) | (refine AWp_skip ?_; conv => whnf) | refine AWp_cond rfl (fun hb => ?_) (fun hb => ?_)))
      · have hil : 0 < b.ins.length := by simp only [decide_eq_true_eq] at hb; omega
        clear hb
        have hask2 := fun q => hask hil (p := q)
        have hasks := hok.asks _ (getD_mem default hil)
        have hgen : ∃ x, b.ins.getD 0 default = x := ⟨_, rfl⟩
        obtain ⟨x, hx⟩ := hgen
        rw [hx] at hask2 hasks
        have hcall : ∀ y, y = b.ins.getD 0 default → FOi 56 [.agg (encIns y)] (asksL x) := fun y e => by rw [e, hx]; exact c_Asks x
        ((repeat' first | (refine AWp_reg tok (by rfl) ?_; conv => whnf) | (refine @And.intro (underG _ _ _ _) _ ?_ ?_; rotate_left; (conv => whnf); rotate_right)); all_goals (try ((guard_target = underG _ _ _ _); refine underG_none ?_; all_goals omega)))
        refine .inl ⟨_, _, _, uG (QC.fo (rd := []) (hcall (b.ins.getD (0 + Int.toNat 0) default) rfl) (Ress.imms rfl) (.inl rfl) rfl), ?_⟩
        conv => whnf
        (repeat' first | refine AWp_seq ?_ | (refine AWp_reg tok (by rfl) ?_; conv => whnf) | refine AWp_block ?_)
        refine AWp_loop (fun i : Nat => mkS [(1, .bp (1, 0, 0) 0), (2, .bool false), (3, boolss A), (4, boolss B), (5, iv n), (6, .bp (6, 0, 0) 0), (9, .rs (159, 0, 0) 1 0 (asksL x).length), (10, iv i)] [((1, 0, 0), boxed (encFunc f)), ((6, 0, 0), .row true 14 1 (fun _ => encBlock b)), ((159, 0, 0), .row true 1 (asksL x).length (fun i => [iv ((asksL x).getD i 0)]))]) (fun i => i ≤ (asksL x).length) (fun i => (asksL x).length - i) 0 (Nat.zero_le _) ?_ ?_
        · refine Weak.list [((1, 0, 0), .old (1, 0, 0), boxed (encFunc f)), ((6, 0, 0), .old (6, 0, 0), .row true 14 1 (fun _ => encBlock b)), ((159, 0, 0), .old (159, 0, 0), .row true 1 (asksL x).length (fun i => [iv ((asksL x).getD i 0)]))] rfl (by rfl) ?_ (.old rfl (BLe.refl _) (.old rfl (BLe.refl _) (.old rfl (BLe.refl _) .nil)))
          ((repeat' first | exact TLes.nil | refine TLes.cons (TLe.eq rfl) ?_); skip)
        intro i hi
        (repeat' ((fail_if_success (show AWp _ _ _ (Code.region 27 _ _) _ _)); (fail_if_success (show AWp _ _ _ (Code.region 8 _ _) _ _)); first | refine AWp_seq ?_ | (refine AWp_reg tok (by rfl) ?_; conv => whnf) | refine AWp_block ?_ | (refine AWp_skip ?_; conv => whnf) | (refine AWp_exit ?_; conv => whnf) | refine AWp_cond rfl (fun hb => ?_) (fun hb => ?_)))
        · have hib : i < (asksL x).length := by simp only [decide_eq_true_eq] at hb; omega
          clear hb
          refine AWp_facts 162 (fun hl => ?_)
          have hle : ((asksL x).length : Int) ≤ 9223372036854775807 := hl.2
          clear hl
          have hmem := getD_mem 0 hib
          have hpj := hasks _ hmem
          have hlv := hask2 _ hmem hpj.1 hpj.2
          have hji : (asksL x).getD (0 + (i : Int).toNat) 0 = (asksL x).getD i 0 := by simp
          have hAn2 : (A.getD (n : Int).toNat []).length = f.regs.toNat := by rw [Int.toNat_natCast]; exact hAn
          ((repeat' first | refine AWp_seq ?_ | (refine AWp_reg tok (by rfl) ?_; conv => whnf) | (refine AWp_any tok mix (by rfl) ?_; conv => whnf) | (refine AWp_skip ?_; conv => whnf) | (refine AWp_ret ?_; conv => whnf) | refine AWp_cond rfl (fun hb => ?_) (fun hb => ?_) | (refine @And.intro (underG _ _ _ _) _ ?_ ?_; rotate_left; (conv => whnf); rotate_right)); all_goals (try ((guard_target = underG _ _ _ _); refine underG_none ?_; (all_goals (try simp only [underG, kz1, kz2, kz3, kz4, kz5, kz6, kz7, kz8, kz9, kz10, kz11, kz12, kz13, kz14, kz15, kz16, kz17, kz18, kz19, kz20, maxL, inn_iff] at *)); all_goals omega)))
          · exfalso
            rw [hji, Int.toNat_natCast, hlv] at hb; simp at hb
          clear hb
          refine ⟨i + 1, hib, by omega, ?_⟩
          refine Weak.list [((1, 0, 0), .old (1, 0, 0), boxed (encFunc f)), ((6, 0, 0), .old (6, 0, 0), .row true 14 1 (fun _ => encBlock b)), ((159, 0, 0), .old (159, 0, 0), .row true 1 (asksL x).length (fun i => [iv ((asksL x).getD i 0)]))] rfl (by rfl) ?_ (.old rfl (BLe.refl _) (.old rfl (BLe.refl _) (.old rfl (BLe.refl _) .nil)))
          ((repeat' first | exact TLes.nil | refine TLes.cons (TLe.eq rfl) ?_ | refine TLes.cons (TLe.int ?_) ?_); (all_goals first | ((try (simp only [underG, kz1, kz2, kz3, kz4, kz5, kz6, kz7, kz8, kz9, kz10, kz11, kz12, kz13, kz14, kz15, kz16, kz17, kz18, kz19, kz20, maxL, inn_iff] at *)); exact wrap64 (by omega) (by omega)) | skip))
        · clear hb
          (repeat' (refine AWp_reg tok (by rfl) ?_; conv => whnf))
          refine ⟨n + 1, hnl, by omega, ?_⟩
          refine Weak.list [((1, 0, 0), .old (1, 0, 0), boxed (encFunc f))] rfl (by rfl) ?_ (.old rfl (BLe.refl _) .nil)
          ((repeat' first | exact TLes.nil | refine TLes.cons (TLe.eq rfl) ?_ | refine TLes.cons (TLe.int ?_) ?_); (all_goals first | (exact wrap64 (by omega) (by omega)) | skip))
      · clear hb
        (repeat' (refine AWp_reg tok (by rfl) ?_; conv => whnf))
        refine ⟨n + 1, hnl, by omega, ?_⟩
        refine Weak.list [((1, 0, 0), .old (1, 0, 0), boxed (encFunc f))] rfl (by rfl) ?_ (.old rfl (BLe.refl _) .nil)
        ((repeat' first | exact TLes.nil | refine TLes.cons (TLe.eq rfl) ?_ | refine TLes.cons (TLe.int ?_) ?_); (all_goals first | (exact wrap64 (by omega) (by omega)) | skip))
  · have hnl : n = f.blocks.length := by simp only [decide_eq_false_iff_not] at hb; omega
    clear hb
    skip
    exact ⟨_, rfl, Rel.bool rfl⟩
end Go.Proofs.Ytmanpbgaihdalaa
namespace Go.Proofs.Ytmanpbgaihdalaa
open Go Dv Go.ChangeShapes Go.WideShapes Go.ChangeAt Go.RowKit
open Go.Proofs.Ytmanpbgaihdalaa
set_option maxRecDepth 100000
set_option linter.unusedVariables false
namespace liveGoes
theorem own : ownKnob Try.prog.godebug = none := by kernel_rfl
theorem contract (H : Type) (enc : TypeId × Value → H) (W : World) (base : Nat) (args : Array Value) (ds gs : List (DataW H)) (before : List MemPlace) (hk : Rows.uptoSmall H (ds ++ gs) = true)
    (hval : ∀ (j : Nat) t v, Try.f11.params[j]? = some t → args[j]? = some v → Value.okWide Try.prog W .any base t v)
    (hW : DataW.Whole enc Try.prog Try.f11.params.toList Rows.liveGoesSpec.vars false W args.toList ds gs before) :
    Calls Try.prog 11 args W fun e W' => ∃ v, e = .returned v ∧ Rows.liveGoesSpec.post enc Try.prog Try.f11 false true false false W args v W' := by
  have hsm := small_of hk
  have hW' := hW
  obtain ⟨p, q, hA0, hV, rfl, hfz, hnd⟩ := hW
  have hA : DataW.TrodAll enc Try.prog W 0 (fun _ => true) true Try.f11.params.toList args.toList ds p := hA0
  rw [Try.params11] at hA hval
  obtain ⟨v0, vs0, d0, ds0, p0, q0, hargs, rfl, rfl, h0, r0⟩ := trodAll_cons hA
  obtain ⟨rfl, rfl, rfl⟩ := trodAll_nil r0
  obtain rfl : args = #[v0] := by cases args; simp_all
  obtain ⟨x0, hx0⟩ := arg_struct Try.underlying34 (hval 0 _ v0 rfl rfl) h0 rd_Func (hsm d0 (by simp))
  obtain ⟨rfl, rfl⟩ := trodVars_none hV
  refine law_contract (tb := 4) (by decide +kernel) (by rw [Try.params11]; decide +kernel) rfl (by kernel_rfl) Try.underlying4 hW' ⟨rfl, rfl, rfl⟩ (FC.calls (c_LiveGoes x0) ?_)
  simp only [Vs]
  exact ⟨_, _, rfl, hx0, rfl⟩
theorem lifted (os : Os) (started : os.Started) (H : Type) (enc : TypeId × Value → H) (F : Stop.Interp) :
    ReturnsInHanded {} Try.checked os 11 .any ((Rows.OpenSpec.upto Rows.liveGoesSpec).pre6 enc Try.prog Try.f11 Rows.liveGoesUptoRow.domain false) (((Rows.OpenSpec.upto Rows.liveGoesSpec).at F).post enc Try.prog Try.f11 false true false false) := by
  refine returnsInHanded_of_cond (C := Try.checked) (s := Rows.OpenSpec.upto Rows.liveGoesSpec) (k := Rows.uptoSmall) rfl own started (by kernel_rfl) Try.func11
    (OpenSpec.witness (enc := enc) (C := Try.checked) (s := Rows.OpenSpec.upto Rows.liveGoesSpec) (k := Rows.uptoSmall) rfl false ⟨#[], #[.agg #[.int .i64 0, .int .i64 0, .slice none 0 0]], []⟩ 64 (by kernel_rfl) (by kernel_rfl) (by kernel_rfl)
      (x := ([.agg [.lit (.int .i64 0), .lit (.int .i64 0), .nil]], [], [])) (by kernel_rfl) rfl (by kernel_rfl)) ?_
  intro W base args ds gs before hval hW _ hk _
  exact contract H enc W base args ds gs before hk hval hW
theorem over : Rows.liveGoesUptoRow.holds Try.pinned (Rows.OpenSpec.upto Rows.liveGoesSpec) :=
  OpenClaim.holds_of_cond 11 Try.f11 rfl rfl rfl rfl rfl rfl rfl ⟨rfl, rfl, rfl, rfl, rfl⟩ rfl rfl rfl rfl rfl (by kernel_rfl) Try.func11 (by kernel_rfl)
    (of_decide_eq_true (by kernel_rfl)) (by unfold Func.isWrapper; first | (rw [if_pos (by decide +kernel)]; kernel_rfl) | (rw [if_neg (by decide +kernel)]; exact ⟨rfl, rfl⟩))
    (fun os started H enc _ F => lifted os started H enc F)
end liveGoes
theorem liveGoes_holds : Rows.LiveGoesUptoSaid := liveGoes.over
end Go.Proofs.Ytmanpbgaihdalaa
