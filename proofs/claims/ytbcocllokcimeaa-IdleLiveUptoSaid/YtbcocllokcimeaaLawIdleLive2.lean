/- What is live at a block of what was cleaned was live there ahead. -/
import Derived.Test.YtbcocllokcimeaaDvc3
import Derived.Test.YtbcocllokcimeaaLawIdleLive1
import Derived.RangeFuncGives
import Derived.WalkKit
import Derived.OwnWalkIn
import Derived.TacticsInMore
import Derived.RegionIn
import Derived.LoopNIn
import Derived.LoopIn
set_option linter.unusedVariables false
set_option linter.unusedSimpArgs false
set_option linter.unnecessarySimpa false
namespace Go.Proofs.Ytbcocllokcimeaa
open Go Dv
set_option maxRecDepth 10000
set_option linter.unusedSimpArgs false
theorem app_fnW {sz n x : Nat} {f g : Nat → List AV} {c : List AV} (hf : ∀ i, i < n → f i = g i) (hc : c = g n) (hl : c.length = sz) (hx : x < n + 1) : appR n f (fun i => rowOf sz c (0 + i)) x = g x := by
  by_cases e : x < n
  · have h1 : appR n f (fun i => rowOf sz c (0 + i)) x = f x := by
      unfold appR; rw [show Nat.blt x n = true from by rw [Nat.blt_eq]; exact e]; rfl
    rw [h1, hf x e]
  · have e2 : x = n := by omega
    subst e2
    subst hl
    have h1 : appR x f (fun i => rowOf c.length c (0 + i)) x = c := by
      unfold appR; rw [show Nat.blt x x = false from by rw [Bool.eq_false_iff]; intro h; rw [Nat.blt_eq] at h; omega, Nat.sub_self]
      exact rowOf_one _
    rw [h1, hc]
def fitL (ps : List Int) (n a : Int) : List Int := if ps.getD n.toNat 0 < 0 then ps.set n.toNat a else ps
def fitB (ps : List Int) (n a : Int) : Bool := decide (0 ≤ n ∧ n < ps.length) && decide ((fitL ps n a).getD n.toNat 0 = a ∧ a ≤ 8)
def fitP (ps : List Int) (n a : Int) : List Int := if 0 ≤ n ∧ n < ps.length then fitL ps n a else ps
abbrev parR (ps : List Int) : Zak := .row true 3 ps.length (fun q => [iv (ps.getD q 0), iv 0, .nsl])
abbrev j0 : Dv.Id := (1, 7, 0)
abbrev j1 : Dv.Id := (2, 7, 0)
abbrev mBox (n : Nat) : Zak := .row false 1 1 (fun _ => [.rs j1 3 0 n])
theorem updR_hit {f : Nat → List AV} {k : Nat} {c : List AV} : updR f k c k = c := by
  unfold updR; rw [show Nat.beq k k = true from by simp]; rfl
theorem Zeb {f : Nat → List AV} {k i : Nat} {c : List AV} (h : ¬ k = i) : updR f k c i = f i := by
  unfold updR; rw [show Nat.beq k i = false from by rw [Bool.eq_false_iff]; exact fun e => h (Nat.eq_of_beq_eq_true e)]; rfl
theorem fitL_len (ps : List Int) (n a : Int) : (fitL ps n a).length = ps.length := by unfold fitL; split <;> simp
theorem c_whole1 (ps : List Int) (n a : Int) : HC Try.prog [j0, j1] 32 [(j0, mBox ps.length), (j1, parR ps)] [iv n, iv a, .bp j0 0] (.bool (fitB ps n a)) [(j0, mBox ps.length), (j1, parR (fitP ps n a))] := by
  refine Zbf tok Try.func32 rfl (by decide +kernel) (Nat.le_of_ble_eq_true rfl) ?_
  (repeat' ((fail_if_success (show AWp _ _ _ (Code.region 3 _ _) _ _)); first | refine Zad ?_ | (refine Zab tok (by rfl) ?_; conv => whnf) | (refine Zai ?_; conv => whnf) | (refine Zaj ?_; conv => whnf) | refine Zah rfl (fun hb => ?_) (fun hb => ?_)))
  · have hn : ¬ (0 ≤ n ∧ n < ps.length) := by
      intro h; rw [decide_eq_false (show ¬ n < 0 by omega), cond_false, decide_eq_true_eq] at hb; omega
    have h1 : fitP ps n a = ps := if_neg hn
    have h2 : fitB ps n a = false := by unfold fitB; rw [decide_eq_false hn]; rfl
    skip
    rw [h1, h2]
    exact ⟨_, [(j0, .old j0, mBox ps.length), (j1, .old j1, parR ps)], rfl, rfl, rfl, rfl, .old rfl (BLe.refl _) (.old rfl (BLe.refl _) .nil), .eq rfl⟩
  have hn : 0 ≤ n ∧ n < ps.length := by
    cases h : decide (n < 0) with
    | true => rw [h] at hb; cases hb
    | false => rw [h, cond_false, decide_eq_false_iff_not] at hb; rw [decide_eq_false_iff_not] at h; omega
  clear hb
  have h1 : fitP ps n a = fitL ps n a := if_pos hn
  have hq : ((fitL ps n a).length : Int) = ps.length := by rw [fitL_len]
  have hL : (j1, From.old j1, parR (fitL ps n a)) = (j1, From.old j1, .row true 3 ps.length (fun q => [iv ((fitL ps n a).getD q 0), iv 0, .nsl])) := by unfold parR; rw [fitL_len]
  have fin : fitB ps n a = (bif decide ((fitL ps n a).getD n.toNat 0 = a) then decide (a ≤ 8) else false) := by
    unfold fitB; rw [decide_eq_true hn]
    cases h : decide ((fitL ps n a).getD n.toNat 0 = a) <;> simp at h ⊢ <;> simp [h]
  rw [h1]
  have hz : 0 + n.toNat = n.toNat := Nat.zero_add _
  ((repeat' ((fail_if_success (show AWp _ _ _ (Code.region 5 _ _) _ _)); first | refine Zad ?_ | (refine Zab tok (by rfl) ?_; conv => whnf) | (refine Zai ?_; conv => whnf) | refine Zah rfl (fun hb => ?_) (fun hb => ?_) | (refine @And.intro (Zaa _ _ _ _) _ ?_ ?_; rotate_left; (conv => whnf); rotate_right))); all_goals (try ((guard_target = Zaa _ _ _ _); refine Zae ?_; (all_goals (try simp only [Zaa, kzz, kz11, kz12, maxL, Zac] at *)); all_goals omega)))
  · have hneg : ps.getD n.toNat 0 < 0 := by rw [hz] at hb; simpa using hb
    clear hb
    have e1 : fitL ps n a = ps.set n.toNat a := if_pos hneg
    refine Zat (Weak.list (tl := [(0, iv n), (1, iv a), (2, .bp j0 0)]) [((1, 7, 0), .old (1, 7, 0), mBox ps.length), ((2, 7, 0), .old (2, 7, 0), .row true 3 ps.length (fun q => [iv ((fitL ps n a).getD q 0), iv 0, .nsl]))] rfl (by rfl) ?_ (.old rfl (BLe.refl _) (.old rfl (BLe.rowW (Nat.le_refl _) (fun z hz' => ?_)) .nil))) ?_
    · ((repeat' first | exact TLes.nil | refine TLes.cons (TLe.eq rfl) ?_); skip)
    · rw [hz, e1]
      refine Wks.of ?_
      rw [Zbn]
      by_cases e : n.toNat = z
      · subst e
        rw [if_pos ⟨rfl, by omega⟩]
        exact updR_hit (f := fun q => [iv (ps.getD q 0), iv 0, .nsl]) (k := n.toNat) (c := [iv a, iv 0, .nsl])
      · rw [if_neg (fun h => e h.1)]
        exact Zeb (f := fun q => [iv (ps.getD q 0), iv 0, .nsl]) (c := [iv a, iv 0, .nsl]) e
    ((repeat' first | (refine Zab tok (by rfl) ?_; conv => whnf) | (refine Zaj ?_; conv => whnf) | (refine @And.intro (Zaa _ _ _ _) _ ?_ ?_; rotate_left; (conv => whnf); rotate_right)); all_goals (try ((guard_target = Zaa _ _ _ _); refine Zae ?_; (all_goals (try simp only [Zaa, kzz, kz11, kz12, maxL, Zac] at *)); all_goals omega)))
    rw [fin]
    refine ⟨_, [(j0, .old j0, mBox ps.length), (j1, .old j1, parR (fitL ps n a))], rfl, rfl, rfl, rfl, .old rfl (BLe.refl _) (.old rfl (BLe.rowW (Nat.le_of_eq (fitL_len _ _ _)) (fun z hz => Wks.of rfl)) .nil), TLe.bool ?_⟩
    rw [hz]
  · have hneg : ¬ ps.getD n.toNat 0 < 0 := by rw [hz] at hb; simpa using hb
    clear hb
    have e1 : fitL ps n a = ps := if_neg hneg
    refine Zat (Weak.list (tl := [(0, iv n), (1, iv a), (2, .bp j0 0)]) [((1, 7, 0), .old (1, 7, 0), mBox ps.length), ((2, 7, 0), .old (2, 7, 0), .row true 3 ps.length (fun q => [iv ((fitL ps n a).getD q 0), iv 0, .nsl]))] rfl (by rfl) ?_ (.old rfl (BLe.refl _) (.old rfl (BLe.rowW (Nat.le_refl _) (fun z hz' => Wks.of (by rw [e1]; rfl))) .nil))) ?_
    · ((repeat' first | exact TLes.nil | refine TLes.cons (TLe.eq rfl) ?_); skip)
    ((repeat' first | (refine Zab tok (by rfl) ?_; conv => whnf) | (refine Zaj ?_; conv => whnf) | (refine @And.intro (Zaa _ _ _ _) _ ?_ ?_; rotate_left; (conv => whnf); rotate_right)); all_goals (try ((guard_target = Zaa _ _ _ _); refine Zae ?_; (all_goals (try simp only [Zaa, kzz, kz11, kz12, maxL, Zac] at *)); all_goals omega)))
    rw [fin]
    refine ⟨_, [(j0, .old j0, mBox ps.length), (j1, .old j1, parR (fitL ps n a))], rfl, rfl, rfl, rfl, .old rfl (BLe.refl _) (.old rfl (BLe.rowW (Nat.le_of_eq (fitL_len _ _ _)) (fun z hz => Wks.of rfl)) .nil), TLe.bool ?_⟩
    rw [hz]
theorem c_whole16 {ps : List Int} (h : ps.length = 16) (n a : Int) : HC Try.prog [j0, j1] 32 [(j0, mBox 16), (j1, .row true 3 16 (fun q => [iv (ps.getD q 0), iv 0, .nsl]))] [iv n, iv a, .bp j0 0] (.bool (fitB ps n a)) [(j0, mBox 16), (j1, .row true 3 16 (fun q => [iv ((fitP ps n a).getD q 0), iv 0, .nsl]))] := by
  have h1 := c_whole1 ps n a
  have h2 : (fitP ps n a).length = 16 := by unfold fitP; split <;> simp [fitL_len, h]
  unfold parR mBox at h1
  rw [h2, h] at h1
  exact h1
def wIns (ps : List Int) : List Ins → Option (List Int)
  | [] => some ps
  | x :: r => if x.op = 11 then (if fitB ps x.f x.args.length = true then wIns (fitP ps x.f x.args.length) r else none) else wIns ps r
def wEnd (ps : List Int) (e : End) : Option (List Int) := if e.kind = 4 then (if fitB ps e.f e.args.length = true then some (fitP ps e.f e.args.length) else none) else some ps
def wBlk (ps : List Int) : List Zb0 → Option (List Int)
  | [] => some ps
  | b :: r => match wIns ps b.ins with
    | none => none
    | some qs => match wEnd qs b.fin with
      | none => none
      | some rs => wBlk rs r
def parM (ps : List Int) : Zbh := ⟨ps.map fun p => ⟨p, 0, []⟩⟩
def Zb8 (f : Func) : Bool := match wBlk (List.replicate 16 (-1)) f.blocks with
  | none => false
  | some ps => funcB (parM ps) f
theorem fitP_len (ps : List Int) (n a : Int) : (fitP ps n a).length = ps.length := by unfold fitP; split <;> simp [fitL_len]
set_option maxHeartbeats 2000000 in
theorem c_whole (f : Func) : FC Try.prog 17 [.agg (Zau f)] (.bool (Zb8 f)) := by
  refine Za1 tok Try.func17 rfl (by decide +kernel) (Nat.le_of_ble_eq_true rfl) ?_
  refine Zar 0 (fun hl => ?_)
  have hmx : maxL = 4294967296 := rfl
  have hl0 : f.blocks.length ≤ maxL := hl.2.2.1.1
  have hl1 : ∀ k, k < f.blocks.length → (f.blocks.getD k default).ins.length ≤ maxL := fun k hk => (hl.2.2.1.2 k hk).2.2.2.2.2.1.1
  clear hl
  (repeat' first | refine Zad ?_ | (refine Zab tok (by rfl) ?_; conv => whnf) | refine Zaf ?_)
  refine Zap (fun i : Nat => mkS [(1, .bp (1, 0, 0) 0), (3, .bp (3, 0, 0) 0), (9, iv i)] [((1, 0, 0), Za6 (Zau f)), ((3, 0, 0), .row false 1 1 (fun _ => [.rs (30, 0, 0) 3 0 i])), ((30, 0, 0), .row true 3 i (fun q => [iv (-1), iv 0, .nsl]))]) (fun i => i ≤ 16) (fun i => 16 - i) 0 (Nat.zero_le _) ?_ ?_
  · refine Weak.list [((1, 0, 0), .old (1, 0, 0), Za6 (Zau f)), ((3, 0, 0), .old (3, 0, 0), .row false 1 1 (fun _ => [.rs (30, 0, 0) 3 0 0])), ((30, 0, 0), .nil, .row true 3 0 (fun q => [iv (-1), iv 0, .nsl]))] rfl (by rfl) ?_ (.old rfl (BLe.refl _) (.oldR rfl (BLeR.cells rfl (fun x hx => .cons (.nil rfl) .nil)) (.new .nil)))
    ((repeat' first | exact TLes.nil | refine TLes.cons (TLe.eq rfl) ?_); skip)
  intro i hi
  ((repeat' ((fail_if_success (show AWp _ _ _ (Code.region 7 _ _) _ _)); first | refine Zad ?_ | (refine Zab tok (by rfl) ?_; conv => whnf) | refine Zaf ?_ | (refine Zai ?_; conv => whnf) | (refine Zan ?_; conv => whnf) | refine Zah rfl (fun hb => ?_) (fun hb => ?_) | (refine @And.intro (Zaa _ _ _ _) _ ?_ ?_; rotate_left; (conv => whnf); rotate_right))); all_goals (try ((guard_target = Zaa _ _ _ _); refine Zae ?_; (first | refine And.intro (srcObl_rs rfl ?_) ?_ | skip); (all_goals (try simp only [Zaa, kzz, kz11, kz12, maxL, Zac] at *)); all_goals omega)))
  · have hlt : i < 16 := by simp only [decide_eq_true_eq] at hb; omega
    clear hb
    refine ⟨i + 1, hlt, by omega, ?_⟩
    refine Weak.list [((1, 0, 0), .old (1, 0, 0), Za6 (Zau f)), ((3, 0, 0), .old (3, 0, 0), .row false 1 1 (fun _ => [.rs (30, 0, 0) 3 0 (i + 1)])), ((30, 0, 0), .old (15, 0, 0), .row true 3 (i + 1) (fun q => [iv (-1), iv 0, .nsl]))] rfl (by rfl) ?_ (.old rfl (BLe.refl _) (.old rfl (BLe.rowO rfl) (.old rfl (BLe.rowW ?_ (fun z hz => Wks.of ?_)) .nil)))
    · ((repeat' first | exact TLes.nil | refine TLes.cons (TLe.eq rfl) ?_ | refine TLes.cons (TLe.int ?_) ?_); (all_goals first | ((try (simp only [Zaa, kzz, kz11, kz12, maxL, Zac] at *)); exact wrap64 (by omega) (by omega)) | skip))
    · exact Nat.le_refl _
    · exact app_fnW (sz := 3) (f := fun q => [iv (-1), iv 0, .nsl]) (g := fun q => [iv (-1), iv 0, .nsl]) (c := [iv (-1), iv 0, .nsl]) (fun _ _ => rfl) rfl rfl hz
  have hi16 : i = 16 := by simp only [decide_eq_false_iff_not] at hb; omega
  clear hb
  subst hi16
  have hinit : wBlk (List.replicate 16 (-1)) f.blocks = wBlk (List.replicate 16 (-1)) (f.blocks.drop 0) := by rw [List.drop_zero]
  (repeat' ((fail_if_success (show AWp _ _ _ (Code.region 8 _ _) _ _)); first | (refine Zab tok (by rfl) ?_; conv => whnf) | refine Zaf ?_))
  refine Zap (fun q : Nat × List Int => mkS [(1, .bp (1, 0, 0) 0), (3, .bp (3, 0, 0) 0), (4, .fn 32 [.bp (3, 0, 0) 0]), (20, Zce f.blocks), (21, iv f.blocks.length), (22, iv q.1)] [((1, 0, 0), Za6 (Zau f)), ((3, 0, 0), .row false 1 1 (fun _ => [.rs (30, 0, 0) 3 0 16])), ((30, 0, 0), .row true 3 16 (fun z => [iv (List.getD q.2 z 0), iv 0, .nsl]))]) (fun q => q.1 ≤ f.blocks.length ∧ q.2.length = 16 ∧ wBlk (List.replicate 16 (-1)) f.blocks = wBlk q.2 (f.blocks.drop q.1)) (fun q => f.blocks.length - q.1) (0, List.replicate 16 (-1)) ⟨Nat.zero_le _, by simp, hinit⟩ ?_ ?_
  · refine Weak.list [((1, 0, 0), .old (1, 0, 0), Za6 (Zau f)), ((3, 0, 0), .old (3, 0, 0), .row false 1 1 (fun _ => [.rs (30, 0, 0) 3 0 16])), ((30, 0, 0), .old (30, 0, 0), .row true 3 16 (fun z => [iv (List.getD (List.replicate 16 (-1)) z 0), iv 0, .nsl]))] rfl (by rfl) ?_ (.old rfl (BLe.refl _) (.old rfl (BLe.refl _) (.old rfl (BLe.rowW (Nat.le_refl _) (fun z hz => Wks.of (by rw [show List.getD (List.replicate 16 (-1 : Int)) z 0 = -1 from by rw [List.getD_eq_getElem?_getD, List.getElem?_replicate, if_pos hz]; rfl]; rfl))) .nil)))
    ((repeat' first | exact TLes.nil | refine TLes.cons (TLe.eq rfl) ?_); skip)
  rintro ⟨k, ps⟩ ⟨hk, h16, hw⟩
  simp only at hk h16 hw ⊢
  (repeat' ((fail_if_success (show AWp _ _ _ (Code.region 9 _ _) _ _)); first | refine Zad ?_ | (refine Zab tok (by rfl) ?_; conv => whnf) | refine Zaf ?_ | (refine Zai ?_; conv => whnf) | (refine Zan ?_; conv => whnf) | refine Zah rfl (fun hb => ?_) (fun hb => ?_)))
  · have hkl : k < f.blocks.length := by simp only [decide_eq_true_eq] at hb; omega
    clear hb
    rw [Zd3 default hkl] at hw
    have hi64 := hl1 k hkl
    have hgen : ∃ b, f.blocks.getD k default = b := ⟨_, rfl⟩
    obtain ⟨b, hbk⟩ := hgen
    rw [hbk] at hw hi64
    ((repeat' ((fail_if_success (show AWp _ _ _ (Code.region 10 _ _) _ _)); first | refine Zad ?_ | (refine Zab tok (by rfl) ?_; conv => whnf) | (refine @And.intro (Zaa _ _ _ _) _ ?_ ?_; rotate_left; (conv => whnf); rotate_right))); all_goals (try ((guard_target = Zaa _ _ _ _); refine Zae ?_; (all_goals (try simp only [Zaa, kzz, kz11, kz12, maxL, Zac] at *)); all_goals omega)))
    refine Zat (Weak.list (tl := [(1, .bp (1, 0, 0) 0), (3, .bp (3, 0, 0) 0), (4, .fn 32 [.bp (3, 0, 0) 0]), (6, .bp (6, 0, 0) 0), (20, Zce f.blocks), (21, iv f.blocks.length), (22, iv k)]) [((1, 0, 0), .old (1, 0, 0), Za6 (Zau f)), ((3, 0, 0), .old (3, 0, 0), .row false 1 1 (fun _ => [.rs (30, 0, 0) 3 0 16])), ((30, 0, 0), .old (30, 0, 0), .row true 3 16 (fun z => [iv (List.getD ps z 0), iv 0, .nsl])), ((6, 0, 0), .old (6, 0, 0), .row true 14 1 (fun _ => Zax b))] rfl (by rfl) ?_ (.old rfl (BLe.refl _) (.old rfl (BLe.refl _) (.old rfl (BLe.refl _) (.old rfl (BLe.rowW (Nat.le_refl _) (ltS (Wks.of (by rw [← hbk, Int.toNat_natCast]; rfl)) lt0)) .nil))))) ?_
    · ((repeat' first | exact TLes.nil | refine TLes.cons (TLe.eq rfl) ?_); skip)
    (repeat' ((fail_if_success (show AWp _ _ _ (Code.region 11 _ _) _ _)); first | (refine Zab tok (by rfl) ?_; conv => whnf) | refine Zaf ?_))
    refine Zap (fun q : Nat × List Int => mkS [(1, .bp (1, 0, 0) 0), (3, .bp (3, 0, 0) 0), (4, .fn 32 [.bp (3, 0, 0) 0]), (6, .bp (6, 0, 0) 0), (20, Zce f.blocks), (21, iv f.blocks.length), (22, iv k), (27, inss b.ins), (28, iv b.ins.length), (29, iv q.1)] [((1, 0, 0), Za6 (Zau f)), ((3, 0, 0), .row false 1 1 (fun _ => [.rs (30, 0, 0) 3 0 16])), ((30, 0, 0), .row true 3 16 (fun z => [iv (List.getD q.2 z 0), iv 0, .nsl])), ((6, 0, 0), .row true 14 1 (fun _ => Zax b))]) (fun q => q.1 ≤ b.ins.length ∧ q.2.length = 16 ∧ wIns ps b.ins = wIns q.2 (b.ins.drop q.1)) (fun q => b.ins.length - q.1) (0, ps) ⟨Nat.zero_le _, h16, by rw [List.drop_zero]⟩ ?_ ?_
    · refine Weak.list [((1, 0, 0), .old (1, 0, 0), Za6 (Zau f)), ((3, 0, 0), .old (3, 0, 0), .row false 1 1 (fun _ => [.rs (30, 0, 0) 3 0 16])), ((30, 0, 0), .old (30, 0, 0), .row true 3 16 (fun z => [iv (List.getD ps z 0), iv 0, .nsl])), ((6, 0, 0), .old (6, 0, 0), .row true 14 1 (fun _ => Zax b))] rfl (by rfl) ?_ (.old rfl (BLe.refl _) (.old rfl (BLe.refl _) (.old rfl (BLe.refl _) (.old rfl (BLe.refl _) .nil))))
      ((repeat' first | exact TLes.nil | refine TLes.cons (TLe.eq rfl) ?_); skip)
    rintro ⟨j, qs⟩ ⟨hj, hq16, hwi⟩
    simp only at hj hq16 hwi ⊢
    (repeat' ((fail_if_success (show AWp _ _ _ (Code.region 12 _ _) _ _)); (fail_if_success (show AWp _ _ _ (Code.region 16 _ _) _ _)); first | refine Zad ?_ | (refine Zab tok (by rfl) ?_; conv => whnf) | refine Zaf ?_ | (refine Zai ?_; conv => whnf) | (refine Zan ?_; conv => whnf) | refine Zah rfl (fun hb => ?_) (fun hb => ?_)))
    · have hjl : j < b.ins.length := by simp only [decide_eq_true_eq] at hb; omega
      clear hb
      rw [Zd3 default hjl] at hwi
      have hgen : ∃ x, b.ins.getD j default = x := ⟨_, rfl⟩
      obtain ⟨x, hxj⟩ := hgen
      rw [hxj] at hwi
      ((repeat' ((fail_if_success (show AWp _ _ _ (Code.region 13 _ _) _ _)); first | refine Zad ?_ | (refine Zab tok (by rfl) ?_; conv => whnf) | (refine @And.intro (Zaa _ _ _ _) _ ?_ ?_; rotate_left; (conv => whnf); rotate_right))); all_goals (try ((guard_target = Zaa _ _ _ _); refine Zae ?_; (all_goals (try simp only [Zaa, kzz, kz11, kz12, maxL, Zac] at *)); all_goals omega)))
      refine Zat (Weak.list (tl := [(1, .bp (1, 0, 0) 0), (3, .bp (3, 0, 0) 0), (4, .fn 32 [.bp (3, 0, 0) 0]), (6, .bp (6, 0, 0) 0), (8, .bp (8, 0, 0) 0), (20, Zce f.blocks), (21, iv f.blocks.length), (22, iv k), (27, inss b.ins), (28, iv b.ins.length), (29, iv j)]) [((1, 0, 0), .old (1, 0, 0), Za6 (Zau f)), ((3, 0, 0), .old (3, 0, 0), .row false 1 1 (fun _ => [.rs (30, 0, 0) 3 0 16])), ((30, 0, 0), .old (30, 0, 0), .row true 3 16 (fun z => [iv (List.getD qs z 0), iv 0, .nsl])), ((6, 0, 0), .old (6, 0, 0), .row true 14 1 (fun _ => Zax b)), ((8, 0, 0), .old (8, 0, 0), .row true 7 1 (fun _ => Zaz x))] rfl (by rfl) ?_ (.old rfl (BLe.refl _) (.old rfl (BLe.refl _) (.old rfl (BLe.refl _) (.old rfl (BLe.refl _) (.old rfl (BLe.rowW (Nat.le_refl _) (ltS (Wks.of (by rw [← hxj, Int.toNat_natCast]; rfl)) lt0)) .nil)))))) ?_
      · ((repeat' first | exact TLes.nil | refine TLes.cons (TLe.eq rfl) ?_); skip)
      by_cases hop : x.op = 11
      · refine Zd8 tok (fun j => bif Nat.beq j 3 then some true else none) (by rfl) ?_
        conv => whnf
        refine ⟨by rw [decide_eq_true hop], ?_⟩
        conv => whnf
        refine .inr ⟨_, _, _, uG (QH.of (dead := []) [(j0, .old (3, 0, 0), mBox 16), (j1, .old (30, 0, 0), .row true 3 16 (fun z => [iv (List.getD qs z 0), iv 0, .nsl]))] (c_whole16 hq16 x.f x.args.length) rfl (.old rfl (BLe.rowO rfl) (.old rfl (BLe.refl _) .nil)) (.cons (.eq rfl) (.cons (.eq rfl) (.cons (.eq rfl) .nil))) [(j0, (3, 0, 0)), (j1, (30, 0, 0))] rfl (.cons rfl (BLe.rowO rfl) (.cons rfl (BLe.refl _) .nil)) rfl), ?_⟩
        conv => whnf
        simp only [wIns] at hwi
        rw [if_pos hop] at hwi
        (repeat' first | refine Zad ?_ | (refine Zab tok (by rfl) ?_; conv => whnf) | (refine Zai ?_; conv => whnf) | (refine Zaj ?_; conv => whnf) | refine Zah rfl (fun hb => ?_) (fun hb => ?_))
        · have hfb : fitB qs x.f x.args.length = false := by simpa using hb
          rw [hfb] at hwi
          refine ⟨_, rfl, Rel.bool ?_⟩
          symm; unfold Zb8; rw [hw]; simp only [wBlk, hwi]; rfl
        · have hfb : fitB qs x.f x.args.length = true := by simpa using hb
          rw [hfb, if_pos rfl] at hwi
          refine ⟨(j + 1, fitP qs x.f x.args.length), ⟨hjl, by rw [fitP_len]; exact hq16, hwi⟩, by simp only; omega, ?_⟩
          refine Weak.list [((1, 0, 0), .old (1, 0, 0), Za6 (Zau f)), ((3, 0, 0), .old (3, 0, 0), .row false 1 1 (fun _ => [.rs (30, 0, 0) 3 0 16])), ((30, 0, 0), .old (30, 0, 0), .row true 3 16 (fun z => [iv (List.getD (fitP qs x.f x.args.length) z 0), iv 0, .nsl])), ((6, 0, 0), .old (6, 0, 0), .row true 14 1 (fun _ => Zax b))] rfl (by rfl) ?_ (.old rfl (BLe.refl _) (.old rfl (BLe.refl _) (.old rfl (BLe.refl _) (.old rfl (BLe.refl _) .nil))))
          ((repeat' first | exact TLes.nil | refine TLes.cons (TLe.eq rfl) ?_ | refine TLes.cons (TLe.int ?_) ?_); (all_goals first | ((try (simp only [Zaa, kzz, kz11, kz12, maxL, Zac] at *)); exact wrap64 (by omega) (by omega)) | skip))
      · refine Zd8 tok (fun j => bif Nat.beq j 3 then some false else none) (by rfl) ?_
        conv => whnf
        refine ⟨by rw [decide_eq_false hop], ?_⟩
        conv => whnf
        simp only [wIns] at hwi
        rw [if_neg hop] at hwi
        (repeat' first | refine Zad ?_ | (refine Zab tok (by rfl) ?_; conv => whnf) | (refine Zai ?_; conv => whnf) | (refine Zaj ?_; conv => whnf) | refine Zah rfl (fun hb => ?_) (fun hb => ?_))
        · cases hb
        refine ⟨(j + 1, qs), ⟨hjl, hq16, hwi⟩, by simp only; omega, ?_⟩
        refine Weak.list [((1, 0, 0), .old (1, 0, 0), Za6 (Zau f)), ((3, 0, 0), .old (3, 0, 0), .row false 1 1 (fun _ => [.rs (30, 0, 0) 3 0 16])), ((30, 0, 0), .old (30, 0, 0), .row true 3 16 (fun z => [iv (List.getD qs z 0), iv 0, .nsl])), ((6, 0, 0), .old (6, 0, 0), .row true 14 1 (fun _ => Zax b))] rfl (by rfl) ?_ (.old rfl (BLe.refl _) (.old rfl (BLe.refl _) (.old rfl (BLe.refl _) (.old rfl (BLe.refl _) .nil))))
        ((repeat' first | exact TLes.nil | refine TLes.cons (TLe.eq rfl) ?_ | refine TLes.cons (TLe.int ?_) ?_); (all_goals first | ((try (simp only [Zaa, kzz, kz11, kz12, maxL, Zac] at *)); exact wrap64 (by omega) (by omega)) | skip))
    · have hjl : j = b.ins.length := by simp only [decide_eq_false_iff_not] at hb; omega
      clear hb
      subst hjl
      rw [List.drop_length] at hwi
      simp only [wIns] at hwi
      simp only [wBlk, hwi] at hw
      by_cases hop : b.fin.kind = 4
      · refine Zd8 tok (fun j => bif Nat.beq j 4 then some true else none) (by rfl) ?_
        conv => whnf
        refine ⟨by rw [decide_eq_true hop], ?_⟩
        conv => whnf
        refine .inr ⟨_, _, _, uG (QH.of (dead := []) [(j0, .old (3, 0, 0), mBox 16), (j1, .old (30, 0, 0), .row true 3 16 (fun z => [iv (List.getD qs z 0), iv 0, .nsl]))] (c_whole16 hq16 b.fin.f b.fin.args.length) rfl (.old rfl (BLe.rowO rfl) (.old rfl (BLe.refl _) .nil)) (.cons (.eq rfl) (.cons (.eq rfl) (.cons (.eq rfl) .nil))) [(j0, (3, 0, 0)), (j1, (30, 0, 0))] rfl (.cons rfl (BLe.rowO rfl) (.cons rfl (BLe.refl _) .nil)) rfl), ?_⟩
        conv => whnf
        unfold wEnd at hw
        rw [if_pos hop] at hw
        (repeat' first | refine Zad ?_ | (refine Zab tok (by rfl) ?_; conv => whnf) | (refine Zai ?_; conv => whnf) | (refine Zaj ?_; conv => whnf) | refine Zah rfl (fun hb => ?_) (fun hb => ?_))
        · have hfb : fitB qs b.fin.f b.fin.args.length = false := by simpa using hb
          rw [hfb] at hw
          refine ⟨_, rfl, Rel.bool ?_⟩
          symm; unfold Zb8; rw [hw]; rfl
        · have hfb : fitB qs b.fin.f b.fin.args.length = true := by simpa using hb
          rw [hfb, if_pos rfl] at hw
          refine ⟨(k + 1, fitP qs b.fin.f b.fin.args.length), ⟨hkl, by rw [fitP_len]; exact hq16, hw⟩, by simp only; omega, ?_⟩
          refine Weak.list [((1, 0, 0), .old (1, 0, 0), Za6 (Zau f)), ((3, 0, 0), .old (3, 0, 0), .row false 1 1 (fun _ => [.rs (30, 0, 0) 3 0 16])), ((30, 0, 0), .old (30, 0, 0), .row true 3 16 (fun z => [iv (List.getD (fitP qs b.fin.f b.fin.args.length) z 0), iv 0, .nsl]))] rfl (by rfl) ?_ (.old rfl (BLe.refl _) (.old rfl (BLe.refl _) (.old rfl (BLe.refl _) .nil)))
          ((repeat' first | exact TLes.nil | refine TLes.cons (TLe.eq rfl) ?_ | refine TLes.cons (TLe.int ?_) ?_); (all_goals first | ((try (simp only [Zaa, kzz, kz11, kz12, maxL, Zac] at *)); exact wrap64 (by omega) (by omega)) | skip))
      · refine Zd8 tok (fun j => bif Nat.beq j 4 then some false else none) (by rfl) ?_
        conv => whnf
        refine ⟨by rw [decide_eq_false hop], ?_⟩
        conv => whnf
        unfold wEnd at hw
        rw [if_neg hop] at hw
        (repeat' first | refine Zad ?_ | (refine Zab tok (by rfl) ?_; conv => whnf) | (refine Zai ?_; conv => whnf) | (refine Zaj ?_; conv => whnf) | refine Zah rfl (fun hb => ?_) (fun hb => ?_))
        · cases hb
        refine ⟨(k + 1, qs), ⟨hkl, hq16, hw⟩, by simp only; omega, ?_⟩
        refine Weak.list [((1, 0, 0), .old (1, 0, 0), Za6 (Zau f)), ((3, 0, 0), .old (3, 0, 0), .row false 1 1 (fun _ => [.rs (30, 0, 0) 3 0 16])), ((30, 0, 0), .old (30, 0, 0), .row true 3 16 (fun z => [iv (List.getD qs z 0), iv 0, .nsl]))] rfl (by rfl) ?_ (.old rfl (BLe.refl _) (.old rfl (BLe.refl _) (.old rfl (BLe.refl _) .nil)))
        ((repeat' first | exact TLes.nil | refine TLes.cons (TLe.eq rfl) ?_ | refine TLes.cons (TLe.int ?_) ?_); (all_goals first | ((try (simp only [Zaa, kzz, kz11, kz12, maxL, Zac] at *)); exact wrap64 (by omega) (by omega)) | skip))
  · have hkl : k = f.blocks.length := by simp only [decide_eq_false_iff_not] at hb; omega
    clear hb
    subst hkl
    rw [List.drop_length] at hw
    simp only [wBlk] at hw
    skip
    refine .inl ⟨_, _, _, uG (QC.sc (rd := [(30, 0, 0)]) (c_lFunc c_lpad (parM ps) f) (.cons (.agg (.cons (.rsW rfl (.head _) (Nat.le_refl _) ?_ (fun z hz => ?_)) .nil)) (.cons (.imm rfl) .nil)) rfl), ?_⟩
    · simp [parM, h16]
    · have e1 : (parM ps).funcs.getD z default = ⟨ps.getD z 0, 0, []⟩ := by
        unfold parM
        rw [List.getD_eq_getElem?_getD, List.getElem?_map, List.getD_eq_getElem?_getD, List.getElem?_eq_getElem (by omega)]; rfl
      rw [e1, Nat.zero_add]
      exact .cons .refl (.cons .refl (.cons (.nsl rfl) .nil))
    conv => whnf
    (repeat' (refine Zaj ?_; conv => whnf))
    refine ⟨_, rfl, Rel.bool ?_⟩
    unfold Zb8; rw [hw]
end Go.Proofs.Ytbcocllokcimeaa
namespace Go.Proofs.Ytbcocllokcimeaa
open Go Dv
set_option maxRecDepth 10000
set_option linter.unusedSimpArgs false
abbrev k0 : Dv.Id := (1, 7, 0)
abbrev k1 : Dv.Id := (2, 7, 0)
abbrev k2 : Dv.Id := (3, 7, 0)
abbrev k3 : Dv.Id := (4, 7, 0)
abbrev sCells (f : Func) (a b : AV) : List AV := [iv f.params, iv f.regs, Zce f.blocks, a, b]
abbrev sBox (f : Func) (ia ib : Dv.Id) (na nb : Nat) : Zak := .row false 5 1 (fun _ => sCells f (.rs ia 1 0 na) (.rs ib 1 0 nb))
abbrev setR (A : List (List Bool)) (n : Nat) : Zak := .row true 1 n (fun q => [bools (A.getD q [])])
abbrev Zav (n : Nat) (g : Nat → Bool) : Zak := .row true 1 n (fun q => [.bool (g q)])
def mgF (g : Nat → Bool) (a : List Bool) (but : Int) (p q : Nat) : Bool := if q < p then (g q || (a.getD q false && decide ((q : Int) ≠ but))) else g q
theorem updR_hit' {f : Nat → List AV} {k i : Nat} {c : List AV} (h : k = i) : updR f k c i = c := by subst h; exact updR_hit
theorem c_merge (f : Func) (A B : List (List Bool)) (na nb n : Nat) (g : Nat → Bool) (blk : Nat) (but : Int) (hb : blk < na) (hn : (A.getD blk []).length ≤ n) :
    HC Try.prog [k0, k1, k2, k3] 34 [(k0, sBox f k1 k2 na nb), (k1, setR A na), (k2, setR B nb), (k3, Zav n g)] [.bp k0 0, .rs k3 1 0 n, iv blk, iv but] (.tup [])
      [(k0, sBox f k1 k2 na nb), (k1, setR A na), (k2, setR B nb), (k3, Zav n (mgF g (A.getD blk []) but (A.getD blk []).length))] := by
  refine Zbf tok Try.func34 rfl (by decide +kernel) (Nat.le_of_ble_eq_true rfl) ?_
  have hmx : maxL = 4294967296 := rfl
  ((repeat' ((fail_if_success (show AWp _ _ _ (Code.region 1 _ _) _ _)); first | refine Zad ?_ | (refine Zab tok (by rfl) ?_; conv => whnf) | refine Zaf ?_ | (refine @And.intro (Zaa _ _ _ _) _ ?_ ?_; rotate_left; (conv => whnf); rotate_right))); all_goals (try ((guard_target = Zaa _ _ _ _); refine Zae ?_; (all_goals (try simp only [Zaa, kz1, kz2, kz3, kz4, kz5, kz6, kz7, kz8, kz9, kz10, kz11, kz12, kz13, kz14, kz15, kz16, kz17, kz18, kz19, kz20, maxL, Zac] at *)); all_goals omega)))
  refine Zar 16 (fun hl => ?_)
  have hl0 : (A.getD (0 + (blk : Int).toNat) []).length ≤ maxL := hl.1
  clear hl
  have ha : A.getD (0 + (blk : Int).toNat) [] = A.getD blk [] := by simp
  have hgen : ∃ a, A.getD blk [] = a := ⟨_, rfl⟩
  obtain ⟨a, haa⟩ := hgen
  rw [haa] at hn ha ⊢
  rw [ha] at hl0
  refine Zap (fun p : Nat => mkS [(1, .rs k3 1 0 n), (3, iv but), (16, bools a), (17, iv a.length), (18, iv p)] [((1, 7, 0), sBox f k1 k2 na nb), ((2, 7, 0), setR A na), ((3, 7, 0), setR B nb), ((4, 7, 0), Zav n (mgF g a but p))]) (fun p => p ≤ a.length) (fun p => a.length - p) 0 (Nat.zero_le _) ?_ ?_
  · refine Weak.list [((1, 7, 0), .old (1, 7, 0), sBox f k1 k2 na nb), ((2, 7, 0), .old (2, 7, 0), setR A na), ((3, 7, 0), .old (3, 7, 0), setR B nb), ((4, 7, 0), .old (4, 7, 0), Zav n (mgF g a but 0))] rfl (by rfl) ?_ (.old rfl (BLe.rowO rfl) (.old rfl (BLe.refl _) (.old rfl (BLe.refl _) (.old rfl (BLe.refl _) .nil))))
    rw [← ha]
    ((repeat' first | exact TLes.nil | refine TLes.cons (TLe.eq rfl) ?_); skip)
  intro p hp
  (repeat' ((fail_if_success (show AWp _ _ _ (Code.region 2 _ _) _ _)); first | refine Zad ?_ | (refine Zab tok (by rfl) ?_; conv => whnf) | refine Zaf ?_ | (refine Zai ?_; conv => whnf) | (refine Zan ?_; conv => whnf) | refine Zah rfl (fun hb => ?_) (fun hb => ?_)))
  · have hpl : p < a.length := by simp only [decide_eq_true_eq] at hb; omega
    clear hb
    ((repeat' first | (refine Zab tok (by rfl) ?_; conv => whnf) | (refine @And.intro (Zaa _ _ _ _) _ ?_ ?_; rotate_left; (conv => whnf); rotate_right)); all_goals (try ((guard_target = Zaa _ _ _ _); refine Zae ?_; (all_goals (try simp only [Zaa, kz1, kz2, kz3, kz4, kz5, kz6, kz7, kz8, kz9, kz10, kz11, kz12, kz13, kz14, kz15, kz16, kz17, kz18, kz19, kz20, maxL, Zac] at *)); all_goals omega)))
    refine ⟨p + 1, hpl, by omega, ?_⟩
    refine Weak.list [((1, 7, 0), .old (1, 7, 0), sBox f k1 k2 na nb), ((2, 7, 0), .old (2, 7, 0), setR A na), ((3, 7, 0), .old (3, 7, 0), setR B nb), ((4, 7, 0), .old (4, 7, 0), Zav n (mgF g a but (p + 1)))] rfl (by rfl) ?_ (.old rfl (BLe.rowO rfl) (.old rfl (BLe.refl _) (.old rfl (BLe.refl _) (.old rfl (BLe.rowW (Nat.le_refl _) (fun z hz => Wks.of ?_)) .nil))))
    · ((repeat' first | exact TLes.nil | refine TLes.cons (TLe.eq rfl) ?_ | refine TLes.cons (TLe.int ?_) ?_); (all_goals first | ((try (simp only [Zaa, kz1, kz2, kz3, kz4, kz5, kz6, kz7, kz8, kz9, kz10, kz11, kz12, kz13, kz14, kz15, kz16, kz17, kz18, kz19, kz20, maxL, Zac] at *)); exact wrap64 (by omega) (by omega)) | skip))
    · have hpp : (p : Int).toNat = p := Int.toNat_natCast p
      by_cases e : p = z
      · subst e
        refine (updR_hit' (f := fun q => [.bool (mgF g a but p q)]) (by rw [hpp, Nat.zero_add])).trans ?_
        rw [hpp, Nat.zero_add]
        unfold mgF
        rw [if_neg (Nat.lt_irrefl p), if_pos (Nat.lt_succ_self p)]
        cases g p <;> cases a.getD p false <;> simp
      · refine (Zeb (f := fun q => [.bool (mgF g a but p q)]) (k := 0 + (p : Int).toNat) (by rw [hpp]; omega)).trans ?_
        unfold mgF
        by_cases h1 : z < p
        · rw [if_pos h1, if_pos (by omega)]
        · rw [if_neg h1, if_neg (by omega)]
  · have hpl : p = a.length := by simp only [decide_eq_false_iff_not] at hb; omega
    subst hpl
    exact ⟨_, [(k0, .old k0, sBox f k1 k2 na nb), (k1, .old k1, setR A na), (k2, .old k2, setR B nb), (k3, .old k3, Zav n (mgF g a but a.length))], rfl, rfl, rfl, rfl, .old rfl (BLe.rowO rfl) (.old rfl (BLe.refl _) (.old rfl (BLe.refl _) (.old rfl (BLe.refl _) .nil))), .eq rfl⟩
end Go.Proofs.Ytbcocllokcimeaa
namespace Go.Proofs.Ytbcocllokcimeaa
open Go Dv Go.RowKit
attribute [local go_sem] Oper.semAt_some
set_option maxRecDepth 100000 in
set_option maxHeartbeats 2000000 in
theorem c_back : BackOk Try.prog 37 7 := by
  intro l m f lb w J hJ h0
  obtain ⟨own, hV, _⟩ := hJ 0 w h0
  simp only [V, Vc] at hV
  obtain ⟨Bs, bo, rfl, hBs0, hnX, ⟨v, hcell, _, p, c, rfl, hnc, hm, hrow⟩, _⟩ := hV
  refine callsIn_of_wp Try.func37 rfl trivial ?_ rfl
  simp only [Try.ntmps37, List.size_toArray, List.length_cons, List.length_nil, Nat.reduceAdd, Nat.reduceSub, Array.replicate_succ, Array.replicate_zero, List.push_toArray, List.append_toArray, List.nil_append, List.cons_append]
  gi_wp2
  gi_loopw [3] (fun i wr => ∃ k : Nat, k ≤ m ∧ i = .int .i64 ((m : Int) - 1 - k) ∧ J k wr)
    (fun i _ => ((intOf i) + 1).toNat)
  case atStart =>
    refine ⟨0, Nat.zero_le _, ?_, h0⟩
    have : RowKit.wrap64 ((m : Int) - 1) = (m : Int) - 1 := by simp only [RowKit.wrap64, maxL] at hm ⊢; omega
    rw [this]; simp
  case round =>
    obtain ⟨k, hk, rfl, hJs⟩ := hrel
    obtain ⟨own2, hV2, hY⟩ := hJ k wr hJs
    simp only [V, Vc] at hV2
    obtain ⟨_, _, e0, hBs2, _, ⟨_, hcell2, _, p2, c2, rfl, hnc2, _, hrow2⟩, _⟩ := hV2
    cases e0
    by_cases hlt : k < m
    · obtain ⟨q, hqm⟩ : ∃ q : Nat, m - 1 - k = q := ⟨_, rfl⟩
      have hq : (m : Int) - 1 - k = q := by omega
      have hqlt : q < m := by omega
      rw [hqm] at hY
      rcases hrow2 with h | ⟨b, o, rfl, hb, _, hc⟩
      · omega
      obtain ⟨hlen, hcs⟩ := hc q hqlt
      obtain ⟨vs, hvl, hvc, hvV, hv1⟩ := Vc_read hcs
      have hy := hY vs hlt hvV
      rw [hlen] at hvl
      clear hY hc hcs
      match vs, hvl with
      | [v0, v1, v2, v3, v4, v5, v6], _ =>
        obtain ⟨fn, tmps, assign, body, hy, hR⟩ := hy
        have g0 : wr.cell? ⟨b, o + q * 7, none⟩ = some v0 := hvc 0 v0 rfl
        have g1 := hvc 1 v1 rfl
        have g2 := hvc 2 v2 rfl
        have g3 := hvc 3 v3 rfl
        have g4 := hvc 4 v4 rfl
        have g5 := hvc 5 v5 rfl
        have g6 := hvc 6 v6 rfl
        clear hvc hvV hv1
        rw [hq]
        have hy' : (Instr.yield l #[.int .i64 (q : Int), .agg #[v0, v1, v2, v3, v4, v5, v6]]).run Try.prog wr = .ok (.round l fn tmps assign body) wr := hy
        gi_wp2
        refine ⟨rfl, hR.mono ?_⟩
        rintro e W3 ⟨rfl, hJ3⟩
        gi_wp2
        go_roundw
        case rel =>
          refine ⟨k + 1, by omega, ?_, hJ3⟩
          have : RowKit.wrap64 ((q : Int) - 1) = (m : Int) - 1 - ((k + 1 : Nat) : Int) := by simp only [RowKit.wrap64, maxL] at hm ⊢; omega
          simpa using this
        case measure =>
          have : RowKit.wrap64 ((q : Int) - 1) = (q : Int) - 1 := by simp only [RowKit.wrap64, maxL] at hm ⊢; omega
          simp [intOf, this]
    · obtain rfl : k = m := by omega
      rw [show (k : Int) - 1 - k = -1 from by omega]
      gi_wp2
      go_end0
      exact ⟨⟨_, rfl⟩, hJs⟩
end Go.Proofs.Ytbcocllokcimeaa
namespace Go.Proofs.Ytbcocllokcimeaa
open Go Dv
set_option maxRecDepth 10000
set_option linter.unusedSimpArgs false
structure OkL (f : Func) (b : Zb0) : Prop where
  goals : ∀ g ∈ Zaw b, 0 ≤ g ∧ g < f.blocks.length
  pad : b.fin.kind = 4 → 0 ≤ b.fin.pad ∧ b.fin.pad < f.blocks.length
  ends : ∀ p ∈ Zam b.fin, 0 ≤ p ∧ p < f.regs
  asks : ∀ x ∈ b.ins, ∀ p ∈ Zba x, 0 ≤ p ∧ p < f.regs
  sets : ∀ x ∈ b.ins, setsB x = true → 0 ≤ x.dst ∧ x.dst < f.regs
theorem Zcq {α : Type} (d : α) {l : List α} {i : Nat} (h : i < l.length) : l.getD i d ∈ l := by rw [Zbz d h]; exact List.getElem_mem h
theorem goal_in {f : Func} {n : Int} (h : goalB f n = true) : 0 ≤ n ∧ n < f.blocks.length := by
  unfold goalB at h
  cases h1 : inn n f.blocks.length with
  | false => rw [h1] at h; cases h
  | true => exact (Zac _ _).1 h1
theorem args_all {m : Zbh} {f : Func} {n : Int} {l : List Int} (h : argsB m f n l = true) : ∀ p ∈ l, 0 ≤ p ∧ p < f.regs := by
  unfold argsB at h
  cases h1 : inn n m.funcs.length with
  | false => rw [h1] at h; cases h
  | true =>
    rw [h1, cond_true] at h
    cases h2 : decide ((l.length : Int) = (m.funcs.getD n.toNat default).params) with
    | false => rw [h2] at h; cases h
    | true =>
      rw [h2, cond_true, List.all_eq_true] at h
      exact fun p hp => (Zac _ _).1 (h p hp)
theorem okL {m : Zbh} {f : Func} (h : funcB m f = true) {i : Nat} (hi : i < f.blocks.length) : OkL f (f.blocks.getD i default) := by
  have hb := func_blocks h hi
  generalize f.blocks.getD i default = b at hb
  unfold blkB at hb
  rw [Bool.and_eq_true, decide_eq_true_eq] at hb
  obtain ⟨⟨_, _, he⟩, hin⟩ := hb
  have hin : ∀ x ∈ b.ins, InsP m f x := fun x hx => by
    have := List.all_eq_true.1 hin x hx; simpa using this
  refine ⟨fun g hg => ?_, fun hk => ?_, fun p hp => ?_, fun x hx p hp => ?_, fun x hx hs => ?_⟩
  · unfold Zaw at hg
    rcases he with h | h | h | h | h
    · rw [if_neg (by omega), if_neg (by omega)] at hg; cases hg
    · rw [if_pos (by omega)] at hg; rw [List.mem_singleton] at hg; subst hg; exact goal_in h.2.2.2.2.2.2.1
    · rw [if_neg (by omega), if_pos (by omega)] at hg
      rcases List.mem_cons.1 hg with e | e
      · subst e; exact goal_in h.2.2.2.2.2.2.1
      · rw [List.mem_singleton] at e; subst e; exact goal_in h.2.2.2.2.2.2.2
    · rw [if_pos (by omega)] at hg; rw [List.mem_singleton] at hg; subst hg; exact goal_in h.2.2.2.2.1
    · rw [if_neg (by omega), if_neg (by omega)] at hg; cases hg
  · rcases he with h | h | h | h | h <;> first | omega | exact (Zac _ _).1 h.2.2.2.2.2.2.1
  · unfold Zam at hp
    rcases he with h | h | h | h | h
    · rw [if_pos (by omega), List.mem_singleton] at hp; subst hp; exact (Zac _ _).1 h.2.1
    · rw [if_neg (by omega), if_neg (by omega)] at hp; cases hp
    · rw [if_pos (by omega), List.mem_singleton] at hp; subst hp; exact (Zac _ _).1 h.2.1
    · rw [if_neg (by omega), if_pos (by omega)] at hp; exact args_all h.2.2.2.1 p hp
    · rw [if_neg (by omega), if_neg (by omega)] at hp; cases hp
  · have h := hin x hx
    unfold Zba at hp
    rcases h with h | h | h | h | h | h | h
    · rw [if_neg (by omega), if_neg (by omega), if_neg (by omega)] at hp; cases hp
    · rw [if_pos (by omega), List.mem_singleton] at hp; subst hp; exact (Zac _ _).1 h.2.2.1
    · rw [if_neg (by omega), if_pos (by omega)] at hp
      rcases List.mem_cons.1 hp with e | e
      · subst e; exact (Zac _ _).1 h.2.2.1
      · rw [List.mem_singleton] at e; subst e; exact (Zac _ _).1 h.2.2.2.1
    · rw [if_neg (by omega), if_pos (by omega)] at hp
      rcases List.mem_cons.1 hp with e | e
      · subst e; exact (Zac _ _).1 h.2.2.1
      · rw [List.mem_singleton] at e; subst e; exact (Zac _ _).1 h.2.2.2.1
    · rw [if_neg (by omega), if_neg (by omega), if_pos (by omega)] at hp; exact args_all h.2.2.2.2.2 p hp
    · rw [if_pos (by omega), List.mem_singleton] at hp; subst hp; exact (Zac _ _).1 h.2.2.1
    · rw [if_neg (by omega), if_neg (by omega), if_neg (by omega)] at hp; cases hp
  · have h := hin x hx
    unfold setsB at hs
    rw [decide_eq_true_eq] at hs
    rcases h with h | h | h | h | h | h | h <;> first | omega | exact (Zac _ _).1 h.2.1
def upT (g : Nat → Bool) (p : Int) (v : Bool) : Nat → Bool := fun q => if q = p.toNat then v else g q
def Zch (g : Nat → Bool) (l : List Int) : Nat → Bool := l.foldl (fun g p => upT g p true) g
def Zc0 (x : Ins) (g : Nat → Bool) : Nat → Bool := Zch (if setsB x = true then upT g (setsV x) false else g) (Zba x)
def butOf (b : Zb0) : Int := if b.fin.kind = 4 then b.fin.dst else -1
def Zbl (A : List (List Bool)) (R : Nat) (b : Zb0) (l : List Int) : Nat → Bool := l.foldl (fun g k => mgF g (A.getD k.toNat []) (butOf b) R) (fun _ => false)
def gPad (A : List (List Bool)) (R : Nat) (f : Func) (b : Zb0) : Nat → Bool := if b.fin.kind = 4 then mgF (Zbl A R b (Zaw b)) (A.getD b.fin.pad.toNat []) (f.blocks.getD b.fin.pad.toNat default).pad.dst R else Zbl A R b (Zaw b)
def gEnd (A : List (List Bool)) (R : Nat) (f : Func) (b : Zb0) : Nat → Bool := Zch (gPad A R f b) (Zam b.fin)
def gIns (A : List (List Bool)) (R : Nat) (f : Func) (b : Zb0) : Nat → Bool := b.ins.foldr Zc0 (gEnd A R f b)
def Zek (R : Nat) (g : Nat → Bool) : List Bool := (List.range R).map g
theorem Zd2 (R : Nat) (g : Nat → Bool) : (Zek R g).length = R := by simp [Zek]
theorem Zex {R q : Nat} {g : Nat → Bool} (h : q < R) : (Zek R g).getD q false = g q := by
  unfold Zek; rw [List.getD_eq_getElem?_getD, List.getElem?_map, List.getElem?_range h]; rfl
theorem Zdu {g : Nat → Bool} {l : List Int} {j : Nat} (h : j < l.length) : Zch g (l.take (j + 1)) = upT (Zch g (l.take j)) (l.getD j 0) true := by
  unfold Zch; rw [Zca 0 h, List.foldl_append]; rfl
theorem gGoals_succ {A : List (List Bool)} {R : Nat} {b : Zb0} {l : List Int} {j : Nat} (h : j < l.length) : Zbl A R b (l.take (j + 1)) = mgF (Zbl A R b (l.take j)) (A.getD (l.getD j 0).toNat []) (butOf b) R := by
  unfold Zbl; rw [Zca 0 h, List.foldl_append]; rfl
theorem upRow {g : Nat → Bool} {K : Nat} {p : Int} {v : Bool} {z : Nat} (h : K = p.toNat) : updR (fun q => [.bool (g q)]) K [.bool v] z = [.bool (upT g p v z)] := by
  subst h
  unfold upT
  by_cases e : p.toNat = z
  · subst e; rw [if_pos rfl]; exact updR_hit
  · rw [if_neg (fun h => e h.symm)]; exact Zeb e
theorem c_Backward (l : List Ins) : FC Try.prog 24 [inss l] (.fn 37 [.ip [inss l]]) := by
  refine Za1 tok Try.func24 rfl (by decide +kernel) (Nat.le_of_ble_eq_true rfl) ?_
  (repeat' first | refine Zad ?_ | (refine Zab tok (by rfl) ?_; conv => whnf) | (refine Zaj ?_; conv => whnf))
  exact ⟨_, rfl, Rel.fn (Rels.cons (Rel.bp rfl Nat.zero_lt_one (Rels.imm rfl)) Rels.nil)⟩
def Zda (A : List (List Bool)) (R : Nat) (f : Func) (n : Nat) : List Bool := Zek R (gIns A R f (f.blocks.getD n default))
def newBe (A : List (List Bool)) (R : Nat) (f : Func) (n : Nat) : List Bool := Zek R (gPad A R f (f.blocks.getD n default))
structure OkA (f : Func) (A : List (List Bool)) : Prop where
  len : A.length = f.blocks.length
  each : ∀ i, i < A.length → ((A.getD i []).length : Int) = f.regs
set_option maxHeartbeats 4000000 in
theorem c_over (f : Func) (n : Nat) (A B : List (List Bool)) (hR0 : 0 ≤ f.regs) (hR2 : f.regs ≤ 256) (hA : OkA f A) (hB : B.length = f.blocks.length) (hn : n < f.blocks.length) (hfb : f.blocks.length ≤ 64) (hok : OkL f (f.blocks.getD n default)) :
    HC Try.prog [k0, k1, k2] 18 [(k0, sBox f k1 k2 A.length B.length), (k1, setR A A.length), (k2, setR B B.length)] [.bp k0 0, iv n] (.bool (decide (Zda A f.regs.toNat f n ≠ A.getD n [])))
      [(k0, sBox f k1 k2 A.length B.length), (k1, setR (A.set n (Zda A f.regs.toNat f n)) A.length), (k2, setR (B.set n (newBe A f.regs.toNat f n)) B.length)] := by
  refine Zbf tok Try.func18 rfl (by decide +kernel) (Nat.le_of_ble_eq_true rfl) ?_
  have hmx : maxL = 4294967296 := rfl
  have hAl := hA.len
  have hAe : ∀ i, i < A.length → (A.getD i []).length = f.regs.toNat := fun i hi => by have := hA.each i hi; omega
  have hgen : ∃ b, f.blocks.getD n default = b := ⟨_, rfl⟩
  obtain ⟨b, hbn⟩ := hgen
  unfold Zda newBe
  rw [hbn] at hok ⊢
  ((repeat' ((fail_if_success (show AWp _ _ _ (Code.region 3 _ _) _ _)); first | refine Zad ?_ | (refine Zab tok (by rfl) ?_; conv => whnf) | (refine @And.intro (Zaa _ _ _ _) _ ?_ ?_; rotate_left; (conv => whnf); rotate_right))); all_goals (try ((guard_target = Zaa _ _ _ _); refine Zae ?_; (all_goals (try simp only [Zaa, kzz, kz11, kz12, maxL, Zac] at *)); all_goals omega)))
  refine Zat (Weak.list (tl := [(0, .bp k0 0), (1, iv n), (5, .bp (5, 0, 0) 0), (6, .bp (6, 7, 0) 0)]) [((1, 7, 0), .old (1, 7, 0), sBox f k1 k2 A.length B.length), ((2, 7, 0), .old (2, 7, 0), setR A A.length), ((3, 7, 0), .old (3, 7, 0), setR B B.length), ((5, 0, 0), .old (5, 0, 0), .row true 14 1 (fun _ => Zax b)), ((6, 7, 0), .old (6, 0, 0), .row false 1 1 (fun _ => [.rs (32, 0, 0) 1 0 f.regs.toNat])), ((32, 0, 0), .old (32, 0, 0), Zav f.regs.toNat (fun _ => false))] rfl (by rfl) ?_ (.old rfl (BLe.rowO rfl) (.old rfl (BLe.refl _) (.old rfl (BLe.refl _) (.old rfl (BLe.rowW (Nat.le_refl _) (ltS (Wks.of (by rw [← hbn, Int.toNat_natCast]; rfl)) lt0)) (.old rfl (BLe.rowO rfl) (.old rfl (BLe.refl _) .nil))))))) ?_
  · ((repeat' first | exact TLes.nil | refine TLes.cons (TLe.eq rfl) ?_); skip)
  (repeat' (refine Zab tok (by rfl) ?_; conv => whnf))
  refine .inl ⟨_, _, _, uG (QC.fo (rd := []) (c_Goals b) (Ress.imms rfl) (.inl rfl) rfl), ?_⟩
  conv => whnf
  (repeat' refine Zaf ?_)
  have hlen3 : (Zaw b).length ≤ 2 := by
    unfold Zaw; split
    · simp
    · split <;> simp
  refine Zap (fun k : Nat => mkS [(0, .bp k0 0), (1, iv n), (5, .bp (5, 0, 0) 0), (6, .bp (6, 7, 0) 0), (34, .rs (34, 0, 0) 1 0 (Zaw b).length), (35, iv (Zaw b).length), (36, iv k)] [((1, 7, 0), sBox f k1 k2 A.length B.length), ((2, 7, 0), setR A A.length), ((3, 7, 0), setR B B.length), ((5, 0, 0), .row true 14 1 (fun _ => Zax b)), ((6, 7, 0), .row false 1 1 (fun _ => [.rs (32, 0, 0) 1 0 f.regs.toNat])), ((32, 0, 0), Zav f.regs.toNat (Zbl A f.regs.toNat b ((Zaw b).take k))), ((34, 0, 0), .row true 1 (Zaw b).length (fun i => [iv ((Zaw b).getD i 0)]))]) (fun k => k ≤ (Zaw b).length) (fun k => (Zaw b).length - k) 0 (Nat.zero_le _) ?_ ?_
  · refine Weak.list [((1, 7, 0), .old (1, 7, 0), sBox f k1 k2 A.length B.length), ((2, 7, 0), .old (2, 7, 0), setR A A.length), ((3, 7, 0), .old (3, 7, 0), setR B B.length), ((5, 0, 0), .old (5, 0, 0), .row true 14 1 (fun _ => Zax b)), ((6, 7, 0), .old (6, 7, 0), .row false 1 1 (fun _ => [.rs (32, 0, 0) 1 0 f.regs.toNat])), ((32, 0, 0), .old (32, 0, 0), Zav f.regs.toNat (Zbl A f.regs.toNat b ((Zaw b).take 0))), ((34, 0, 0), .old (34, 0, 0), .row true 1 (Zaw b).length (fun i => [iv ((Zaw b).getD i 0)]))] rfl (by rfl) ?_ (.old rfl (BLe.rowO rfl) (.old rfl (BLe.refl _) (.old rfl (BLe.refl _) (.old rfl (BLe.refl _) (.old rfl (BLe.rowO rfl) (.old rfl (BLe.refl _) (.old rfl (BLe.refl _) .nil)))))))
    ((repeat' first | exact TLes.nil | refine TLes.cons (TLe.eq rfl) ?_); skip)
  intro k hk
  (repeat' ((fail_if_success (show AWp _ _ _ (Code.region 5 _ _) _ _)); (fail_if_success (show AWp _ _ _ (Code.region 11 _ _) _ _)); first | refine Zad ?_ | (refine Zab tok (by rfl) ?_; conv => whnf) | refine Zaf ?_ | (refine Zai ?_; conv => whnf) | (refine Zan ?_; conv => whnf) | refine Zah rfl (fun hb => ?_) (fun hb => ?_)))
  · have hkl : k < (Zaw b).length := by simp only [decide_eq_true_eq] at hb; omega
    clear hb
    have hsucc := gGoals_succ (A := A) (R := f.regs.toNat) (b := b) hkl
    have hgk := hok.goals _ (Zcq 0 hkl)
    have hgen : ∃ q : Nat, (Zaw b).getD k 0 = q := ⟨((Zaw b).getD k 0).toNat, by omega⟩
    obtain ⟨q, hq⟩ := hgen
    rw [hq] at hsucc hgk
    have hAq := hAe q (by omega)
    rw [Int.toNat_natCast] at hsucc
    have hcall : ∀ x y, x = (Zaw b).getD (k : Int).toNat 0 → y = butOf b → HC Try.prog [k0, k1, k2, k3] 34 [(k0, sBox f k1 k2 A.length B.length), (k1, setR A A.length), (k2, setR B B.length), (k3, Zav f.regs.toNat (Zbl A f.regs.toNat b ((Zaw b).take k)))] [.bp k0 0, .rs k3 1 0 f.regs.toNat, iv x, iv y] (.tup [])
        [(k0, sBox f k1 k2 A.length B.length), (k1, setR A A.length), (k2, setR B B.length), (k3, Zav f.regs.toNat (Zbl A f.regs.toNat b ((Zaw b).take (k + 1))))] := fun x y e1 e2 => by
      have := c_merge f A B A.length B.length f.regs.toNat (Zbl A f.regs.toNat b ((Zaw b).take k)) q y (by omega) (by omega)
      rw [hAq, e2] at this
      rw [hsucc, e1, e2, Int.toNat_natCast, hq]; exact this
    ((repeat' ((fail_if_success (show AWp _ _ _ (Code.region 9 _ _) _ _)); first | refine Zad ?_ | (refine Zab tok (by rfl) ?_; conv => whnf) | (refine Zai ?_; conv => whnf) | refine Zah rfl (fun hb => ?_) (fun hb => ?_) | (refine @And.intro (Zaa _ _ _ _) _ ?_ ?_; rotate_left; (conv => whnf); rotate_right))); all_goals (try ((guard_target = Zaa _ _ _ _); refine Zae ?_; (all_goals (try simp only [Zaa, kzz, kz11, kz12, maxL, Zac] at *)); all_goals omega)))
    · have hbo : butOf b = b.fin.dst := by unfold butOf; rw [if_pos (by simpa using hb)]
      clear hb
      (repeat' (refine Zab tok (by rfl) ?_; conv => whnf))
      refine .inr ⟨_, _, _, uG (QH.of (dead := []) [(k0, .old k0, sBox f k1 k2 A.length B.length), (k1, .old k1, setR A A.length), (k2, .old k2, setR B B.length), (k3, .old (32, 0, 0), Zav f.regs.toNat (Zbl A f.regs.toNat b ((Zaw b).take k)))] (hcall ((Zaw b).getD (0 + (k : Int).toNat) 0) b.fin.dst (by rw [Nat.zero_add]) hbo.symm) rfl (.old rfl (BLe.rowO rfl) (.old rfl (BLe.refl _) (.old rfl (BLe.refl _) (.old rfl (BLe.refl _) .nil)))) (.cons (.eq rfl) (.cons (.eq rfl) (.cons (.eq rfl) (.cons (.eq rfl) .nil)))) [(k0, k0), (k1, k1), (k2, k2), (k3, (32, 0, 0))] rfl (.cons rfl (BLe.rowO rfl) (.cons rfl (BLe.refl _) (.cons rfl (BLe.refl _) (.cons rfl (BLe.refl _) .nil)))) rfl), ?_⟩
      conv => whnf
      (repeat' (refine Zab tok (by rfl) ?_; conv => whnf))
      refine ⟨k + 1, hkl, by omega, ?_⟩
      refine Weak.list [((1, 7, 0), .old (1, 7, 0), sBox f k1 k2 A.length B.length), ((2, 7, 0), .old (2, 7, 0), setR A A.length), ((3, 7, 0), .old (3, 7, 0), setR B B.length), ((5, 0, 0), .old (5, 0, 0), .row true 14 1 (fun _ => Zax b)), ((6, 7, 0), .old (6, 7, 0), .row false 1 1 (fun _ => [.rs (32, 0, 0) 1 0 f.regs.toNat])), ((32, 0, 0), .old (32, 0, 0), Zav f.regs.toNat (Zbl A f.regs.toNat b ((Zaw b).take (k + 1)))), ((34, 0, 0), .old (34, 0, 0), .row true 1 (Zaw b).length (fun i => [iv ((Zaw b).getD i 0)]))] rfl (by rfl) ?_ (.old rfl (BLe.rowO rfl) (.old rfl (BLe.refl _) (.old rfl (BLe.refl _) (.old rfl (BLe.refl _) (.old rfl (BLe.rowO rfl) (.old rfl (BLe.refl _) (.old rfl (BLe.refl _) .nil)))))))
      ((repeat' first | exact TLes.nil | refine TLes.cons (TLe.eq rfl) ?_ | refine TLes.cons (TLe.int ?_) ?_); (all_goals first | ((try (simp only [Zaa, kzz, kz11, kz12, maxL, Zac] at *)); exact wrap64 (by omega) (by omega)) | skip))
    · have hbo : butOf b = -1 := by unfold butOf; rw [if_neg (by simpa using hb)]
      clear hb
      (repeat' (refine Zab tok (by rfl) ?_; conv => whnf))
      refine .inr ⟨_, _, _, uG (QH.of (dead := []) [(k0, .old k0, sBox f k1 k2 A.length B.length), (k1, .old k1, setR A A.length), (k2, .old k2, setR B B.length), (k3, .old (32, 0, 0), Zav f.regs.toNat (Zbl A f.regs.toNat b ((Zaw b).take k)))] (hcall ((Zaw b).getD (0 + (k : Int).toNat) 0) (-1) (by rw [Nat.zero_add]) hbo.symm) rfl (.old rfl (BLe.rowO rfl) (.old rfl (BLe.refl _) (.old rfl (BLe.refl _) (.old rfl (BLe.refl _) .nil)))) (.cons (.eq rfl) (.cons (.eq rfl) (.cons (.eq rfl) (.cons (.eq rfl) .nil)))) [(k0, k0), (k1, k1), (k2, k2), (k3, (32, 0, 0))] rfl (.cons rfl (BLe.rowO rfl) (.cons rfl (BLe.refl _) (.cons rfl (BLe.refl _) (.cons rfl (BLe.refl _) .nil)))) rfl), ?_⟩
      conv => whnf
      (repeat' (refine Zab tok (by rfl) ?_; conv => whnf))
      refine ⟨k + 1, hkl, by omega, ?_⟩
      refine Weak.list [((1, 7, 0), .old (1, 7, 0), sBox f k1 k2 A.length B.length), ((2, 7, 0), .old (2, 7, 0), setR A A.length), ((3, 7, 0), .old (3, 7, 0), setR B B.length), ((5, 0, 0), .old (5, 0, 0), .row true 14 1 (fun _ => Zax b)), ((6, 7, 0), .old (6, 7, 0), .row false 1 1 (fun _ => [.rs (32, 0, 0) 1 0 f.regs.toNat])), ((32, 0, 0), .old (32, 0, 0), Zav f.regs.toNat (Zbl A f.regs.toNat b ((Zaw b).take (k + 1)))), ((34, 0, 0), .old (34, 0, 0), .row true 1 (Zaw b).length (fun i => [iv ((Zaw b).getD i 0)]))] rfl (by rfl) ?_ (.old rfl (BLe.rowO rfl) (.old rfl (BLe.refl _) (.old rfl (BLe.refl _) (.old rfl (BLe.refl _) (.old rfl (BLe.rowO rfl) (.old rfl (BLe.refl _) (.old rfl (BLe.refl _) .nil)))))))
      ((repeat' first | exact TLes.nil | refine TLes.cons (TLe.eq rfl) ?_ | refine TLes.cons (TLe.int ?_) ?_); (all_goals first | ((try (simp only [Zaa, kzz, kz11, kz12, maxL, Zac] at *)); exact wrap64 (by omega) (by omega)) | skip))
  have hkl : k = (Zaw b).length := by simp only [decide_eq_false_iff_not] at hb; omega
  clear hb
  subst hkl
  refine Zat (Weak.list (tl := [(0, .bp k0 0), (1, iv n), (5, .bp (5, 0, 0) 0), (6, .bp (6, 7, 0) 0)]) [((1, 7, 0), .old (1, 7, 0), sBox f k1 k2 A.length B.length), ((2, 7, 0), .old (2, 7, 0), setR A A.length), ((3, 7, 0), .old (3, 7, 0), setR B B.length), ((5, 0, 0), .old (5, 0, 0), .row true 14 1 (fun _ => Zax b)), ((6, 7, 0), .old (6, 7, 0), .row false 1 1 (fun _ => [.rs (32, 0, 0) 1 0 f.regs.toNat])), ((32, 0, 0), .old (32, 0, 0), Zav f.regs.toNat (Zbl A f.regs.toNat b (Zaw b)))] rfl (by rfl) ?_ (.old rfl (BLe.rowO rfl) (.old rfl (BLe.refl _) (.old rfl (BLe.refl _) (.old rfl (BLe.refl _) (.old rfl (BLe.rowO rfl) (.old rfl (BLe.rowW (Nat.le_refl _) (fun z hz => Wks.of (by rw [List.take_length]; rfl))) .nil))))))) ?_
  · ((repeat' first | exact TLes.nil | refine TLes.cons (TLe.eq rfl) ?_); skip)
  refine Zab tok (by rfl) ?_
  conv => whnf
  refine Zb7 (α := Unit) (fun _ => mkS [(0, .bp k0 0), (1, iv n), (5, .bp (5, 0, 0) 0), (6, .bp (6, 7, 0) 0)] [((1, 7, 0), sBox f k1 k2 A.length B.length), ((2, 7, 0), setR A A.length), ((3, 7, 0), setR B B.length), ((5, 0, 0), .row true 14 1 (fun _ => Zax b)), ((6, 7, 0), .row false 1 1 (fun _ => [.rs (32, 0, 0) 1 0 f.regs.toNat])), ((32, 0, 0), Zav f.regs.toNat (gPad A f.regs.toNat f b))]) (fun _ => True) ?_ ?_
  · refine Zah rfl (fun hb => ?_) (fun hb => ?_)
    · have h4 : b.fin.kind = 4 := by simpa using hb
      clear hb
      obtain ⟨hp1, hp2⟩ := hok.pad h4
      have hgen : ∃ q : Nat, b.fin.pad = q := ⟨b.fin.pad.toNat, by omega⟩
      obtain ⟨q, hq⟩ := hgen
      have hAq := hAe q (by omega)
      have hcall : ∀ x y, x = b.fin.pad → y = (f.blocks.getD b.fin.pad.toNat default).pad.dst → HC Try.prog [k0, k1, k2, k3] 34 [(k0, sBox f k1 k2 A.length B.length), (k1, setR A A.length), (k2, setR B B.length), (k3, Zav f.regs.toNat (Zbl A f.regs.toNat b (Zaw b)))] [.bp k0 0, .rs k3 1 0 f.regs.toNat, iv x, iv y] (.tup [])
          [(k0, sBox f k1 k2 A.length B.length), (k1, setR A A.length), (k2, setR B B.length), (k3, Zav f.regs.toNat (gPad A f.regs.toNat f b))] := fun x y e1 e2 => by
        have := c_merge f A B A.length B.length f.regs.toNat (Zbl A f.regs.toNat b (Zaw b)) q y (by omega) (by omega)
        have e3 : gPad A f.regs.toNat f b = mgF (Zbl A f.regs.toNat b (Zaw b)) (A.getD q []) (f.blocks.getD b.fin.pad.toNat default).pad.dst f.regs.toNat := by
          unfold gPad; rw [if_pos h4, hq, Int.toNat_natCast]
        rw [e3, e1, hq]
        rw [hAq] at this
        rw [e2, hq] at this
        rw [e2, hq]; exact this
      have hfl : 0 ≤ b.fin.pad ∧ b.fin.pad < f.blocks.length := ⟨hp1, hp2⟩
      ((repeat' first | (refine Za2 tok mix (by rfl) ?_; conv => whnf) | (refine @And.intro (Zaa _ _ _ _) _ ?_ ?_; rotate_left; (conv => whnf); rotate_right)); all_goals (try ((guard_target = Zaa _ _ _ _); refine Zae ?_; (all_goals (try simp only [Zaa, kzz, kz11, kz12, maxL, Zac] at *)); all_goals omega)))
      refine .inr ⟨_, _, _, uG (QH.of (dead := []) [(k0, .old k0, sBox f k1 k2 A.length B.length), (k1, .old k1, setR A A.length), (k2, .old k2, setR B B.length), (k3, .old (32, 0, 0), Zav f.regs.toNat (Zbl A f.regs.toNat b (Zaw b)))] (hcall b.fin.pad (f.blocks.getD b.fin.pad.toNat default).pad.dst rfl rfl) rfl (.old rfl (BLe.rowO rfl) (.old rfl (BLe.refl _) (.old rfl (BLe.refl _) (.old rfl (BLe.refl _) .nil)))) (.cons (.eq rfl) (.cons (.eq rfl) (.cons (.eq rfl) (.cons (.eq rfl) .nil)))) [(k0, k0), (k1, k1), (k2, k2), (k3, (32, 0, 0))] rfl (.cons rfl (BLe.rowO rfl) (.cons rfl (BLe.refl _) (.cons rfl (BLe.refl _) (.cons rfl (BLe.refl _) .nil)))) rfl), ?_⟩
      conv => whnf
      skip
      refine ⟨(), trivial, Weak.list [((1, 7, 0), .old (1, 7, 0), sBox f k1 k2 A.length B.length), ((2, 7, 0), .old (2, 7, 0), setR A A.length), ((3, 7, 0), .old (3, 7, 0), setR B B.length), ((5, 0, 0), .old (5, 0, 0), .row true 14 1 (fun _ => Zax b)), ((6, 7, 0), .old (6, 7, 0), .row false 1 1 (fun _ => [.rs (32, 0, 0) 1 0 f.regs.toNat])), ((32, 0, 0), .old (32, 0, 0), Zav f.regs.toNat (gPad A f.regs.toNat f b))] rfl (by rfl) ?_ (.old rfl (BLe.rowO rfl) (.old rfl (BLe.refl _) (.old rfl (BLe.refl _) (.old rfl (BLe.refl _) (.old rfl (BLe.rowO rfl) (.old rfl (BLe.refl _) .nil))))))⟩
      ((repeat' first | exact TLes.nil | refine TLes.cons (TLe.eq rfl) ?_); skip)
    · have h4 : ¬ b.fin.kind = 4 := by simpa using hb
      clear hb
      (repeat' (refine Zai ?_; conv => whnf))
      refine ⟨(), trivial, Weak.list [((1, 7, 0), .old (1, 7, 0), sBox f k1 k2 A.length B.length), ((2, 7, 0), .old (2, 7, 0), setR A A.length), ((3, 7, 0), .old (3, 7, 0), setR B B.length), ((5, 0, 0), .old (5, 0, 0), .row true 14 1 (fun _ => Zax b)), ((6, 7, 0), .old (6, 7, 0), .row false 1 1 (fun _ => [.rs (32, 0, 0) 1 0 f.regs.toNat])), ((32, 0, 0), .old (32, 0, 0), Zav f.regs.toNat (gPad A f.regs.toNat f b))] rfl (by rfl) ?_ (.old rfl (BLe.rowO rfl) (.old rfl (BLe.refl _) (.old rfl (BLe.refl _) (.old rfl (BLe.refl _) (.old rfl (BLe.rowO rfl) (.old rfl (BLe.rowW (Nat.le_refl _) (fun z hz => Wks.of (by unfold gPad; rw [if_neg h4]; rfl))) .nil))))))⟩
      ((repeat' first | exact TLes.nil | refine TLes.cons (TLe.eq rfl) ?_); skip)
  rintro ⟨⟩ - τ hw
  refine Zat hw ?_
  clear hw
  have hcl : FO Try.prog 35 [bools (Zek f.regs.toNat (gPad A f.regs.toNat f b))] 1 (Zek f.regs.toNat (gPad A f.regs.toNat f b)).length (fun i => [.bool ((Zek f.regs.toNat (gPad A f.regs.toNat f b)).getD i false)]) := c_CloneBools _
  have hli : ∀ q, q < f.regs.toNat → [AV.bool (gPad A f.regs.toNat f b q)] = [AV.bool ((Zek f.regs.toNat (gPad A f.regs.toNat f b)).getD q false)] := fun q hq => by rw [Zex hq]
  have hll := Zd2 f.regs.toNat (gPad A f.regs.toNat f b)
  have hgen : ∃ be, Zek f.regs.toNat (gPad A f.regs.toNat f b) = be := ⟨_, rfl⟩
  obtain ⟨be, hbe⟩ := hgen
  rw [hbe] at hcl hli hll ⊢
  (repeat' first | refine Zad ?_ | (refine Za2 tok mix (by rfl) ?_; conv => whnf))
  refine .inl ⟨_, _, _, uG (QC.fo (rd := [(32, 0, 0)]) hcl (.cons (.row rfl (.head _) rfl hll.symm hli) .nil) (.inr (fun _ _ => rfl)) rfl), ?_⟩
  conv => whnf
  ((repeat' ((fail_if_success (show AWp _ _ _ (Code.region 14 _ _) _ _)); first | refine Zad ?_ | (refine @And.intro (Zaa _ _ _ _) _ ?_ ?_; rotate_left; (conv => whnf); rotate_right))); all_goals (try ((guard_target = Zaa _ _ _ _); refine Zae ?_; (all_goals (try simp only [Zaa, kzz, kz11, kz12, maxL, Zac] at *)); all_goals omega)))
  have hLp : ∀ (h : Zal), (h k0).isSome = true → (h k1).isSome = true → (h k2).isSome = true → ∀ i ∈ [k0, k1, k2], pinId i = true → (h i).isSome = true ∧ srcL [] i = some i := fun h h0 h1 h2 i hi _ => by
    simp only [List.mem_cons, List.not_mem_nil, or_false] at hi
    rcases hi with rfl | rfl | rfl
    · exact ⟨h0, rfl⟩
    · exact ⟨h1, rfl⟩
    · exact ⟨h2, rfl⟩
  refine Zat (Weak.fam (tl := [(0, .bp k0 0), (1, iv n), (5, .bp (5, 0, 0) 0), (6, .bp (6, 7, 0) 0)]) (hl := [((1, 7, 0), sBox f k1 k2 A.length B.length), ((2, 7, 0), setR A A.length), ((3, 7, 0), setR (B.set n be) B.length), ((5, 0, 0), .row true 14 1 (fun _ => Zax b)), ((6, 7, 0), .row false 1 1 (fun _ => [.rs (32, 0, 0) 1 0 f.regs.toNat])), ((32, 0, 0), Zav f.regs.toNat (gPad A f.regs.toNat f b))]) (F := noH) [] rfl (fun i hi => by cases hi) ?_ ?_ noF (hLp _ rfl rfl rfl)) ?_
  · (repeat' first | exact TLg.nil | refine TLg.cons (GV.imm rfl) ?_ | refine TLg.cons (GV.bp rfl rfl) ?_)
    all_goals rfl
  · refine .old rfl rfl (GB.one (.cons (.imm rfl) (.cons (.imm rfl) (.cons (.imm rfl) (.cons (.rs rfl rfl rfl rfl) (.cons (.rs rfl rfl rfl rfl) .nil))))) (fun e => by cases e)) (.old rfl rfl (GB.rowI (Nat.le_refl _) (fun q hq => ⟨rfl, rfl⟩)) (.old rfl rfl (GB.row (Nat.le_refl _) (fun q hq => GVs.upd (fun e => ?_) (fun e => ?_)) (fun _ _ _ => rfl)) (.old rfl rfl (GB.one (GVs.imm rfl) (fun _ => rfl)) (.old rfl rfl (GB.one (.cons (.rs rfl rfl rfl rfl) .nil) (fun e => by cases e)) (.old rfl rfl (GB.rowI (Nat.le_refl _) (fun q hq => ⟨rfl, rfl⟩)) .nil)))))
    · rw [Nat.zero_add, Int.toNat_natCast] at e
      subst e
      rw [Zbn, if_pos ⟨rfl, hq⟩]
      exact .cons (.frz (hd_no rfl) rfl (Nat.le_of_eq (Nat.zero_add _)) rfl (fun x hx => GVs.eqI rfl (by rw [Nat.zero_add])) (fun _ _ => rfl)) .nil
    · rw [Nat.zero_add, Int.toNat_natCast] at e
      rw [Zbn, if_neg (fun h => e h.1.symm)]
      exact GVs.imm rfl
  (repeat' (refine Zab tok (by rfl) ?_; conv => whnf))
  refine .inl ⟨_, _, _, uG (QC.fo (rd := []) (c_EndAsks b.fin) (Ress.imms rfl) (.inl rfl) rfl), ?_⟩
  conv => whnf
  (repeat' refine Zaf ?_)
  refine Zar 86 (fun hl => ?_)
  have hle : ((Zam b.fin).length : Int) ≤ 9223372036854775807 := hl.2
  clear hl
  refine Zap (fun j : Nat => mkS [(0, .bp k0 0), (1, iv n), (5, .bp (5, 0, 0) 0), (6, .bp (6, 7, 0) 0), (85, .rs (85, 0, 0) 1 0 (Zam b.fin).length), (86, iv (Zam b.fin).length), (87, iv j)] [((1, 7, 0), sBox f k1 k2 A.length B.length), ((2, 7, 0), setR A A.length), ((3, 7, 0), setR (B.set n be) B.length), ((5, 0, 0), .row true 14 1 (fun _ => Zax b)), ((6, 7, 0), .row false 1 1 (fun _ => [.rs (32, 0, 0) 1 0 f.regs.toNat])), ((32, 0, 0), Zav f.regs.toNat (Zch (gPad A f.regs.toNat f b) ((Zam b.fin).take j))), ((85, 0, 0), .row true 1 (Zam b.fin).length (fun i => [iv ((Zam b.fin).getD i 0)]))]) (fun j => j ≤ (Zam b.fin).length) (fun j => (Zam b.fin).length - j) 0 (Nat.zero_le _) ?_ ?_
  · refine Weak.list [((1, 7, 0), .old (1, 7, 0), sBox f k1 k2 A.length B.length), ((2, 7, 0), .old (2, 7, 0), setR A A.length), ((3, 7, 0), .old (3, 7, 0), setR (B.set n be) B.length), ((5, 0, 0), .old (5, 0, 0), .row true 14 1 (fun _ => Zax b)), ((6, 7, 0), .old (6, 7, 0), .row false 1 1 (fun _ => [.rs (32, 0, 0) 1 0 f.regs.toNat])), ((32, 0, 0), .old (32, 0, 0), Zav f.regs.toNat (Zch (gPad A f.regs.toNat f b) ((Zam b.fin).take 0))), ((85, 0, 0), .old (85, 0, 0), .row true 1 (Zam b.fin).length (fun i => [iv ((Zam b.fin).getD i 0)]))] rfl (by rfl) ?_ (.old rfl (BLe.rowO rfl) (.old rfl (BLe.refl _) (.old rfl (BLe.refl _) (.old rfl (BLe.refl _) (.old rfl (BLe.rowO rfl) (.old rfl (BLe.refl _) (.old rfl (BLe.refl _) .nil)))))))
    ((repeat' first | exact TLes.nil | refine TLes.cons (TLe.eq rfl) ?_); skip)
  intro j hj
  (repeat' ((fail_if_success (show AWp _ _ _ (Code.region 16 _ _) _ _)); (fail_if_success (show AWp _ _ _ (Code.region 19 _ _) _ _)); first | refine Zad ?_ | (refine Zab tok (by rfl) ?_; conv => whnf) | refine Zaf ?_ | (refine Zai ?_; conv => whnf) | (refine Zan ?_; conv => whnf) | refine Zah rfl (fun hb => ?_) (fun hb => ?_)))
  · have hjl : j < (Zam b.fin).length := by simp only [decide_eq_true_eq] at hb; omega
    clear hb
    have hsucc := Zdu (g := gPad A f.regs.toNat f b) hjl
    have hpj := hok.ends _ (Zcq 0 hjl)
    have hji : (Zam b.fin).getD (0 + (j : Int).toNat) 0 = (Zam b.fin).getD j 0 := by simp
    have hji2 : (Zam b.fin).getD (j : Int).toNat 0 = (Zam b.fin).getD j 0 := by simp
    ((repeat' first | (refine Zab tok (by rfl) ?_; conv => whnf) | (refine @And.intro (Zaa _ _ _ _) _ ?_ ?_; rotate_left; (conv => whnf); rotate_right)); all_goals (try ((guard_target = Zaa _ _ _ _); refine Zae ?_; (all_goals (try simp only [Zaa, kzz, kz11, kz12, maxL, Zac] at *)); all_goals omega)))
    refine ⟨j + 1, hjl, by omega, ?_⟩
    refine Weak.list [((1, 7, 0), .old (1, 7, 0), sBox f k1 k2 A.length B.length), ((2, 7, 0), .old (2, 7, 0), setR A A.length), ((3, 7, 0), .old (3, 7, 0), setR (B.set n be) B.length), ((5, 0, 0), .old (5, 0, 0), .row true 14 1 (fun _ => Zax b)), ((6, 7, 0), .old (6, 7, 0), .row false 1 1 (fun _ => [.rs (32, 0, 0) 1 0 f.regs.toNat])), ((32, 0, 0), .old (32, 0, 0), Zav f.regs.toNat (Zch (gPad A f.regs.toNat f b) ((Zam b.fin).take (j + 1)))), ((85, 0, 0), .old (85, 0, 0), .row true 1 (Zam b.fin).length (fun i => [iv ((Zam b.fin).getD i 0)]))] rfl (by rfl) ?_ (.old rfl (BLe.rowO rfl) (.old rfl (BLe.refl _) (.old rfl (BLe.refl _) (.old rfl (BLe.refl _) (.old rfl (BLe.rowO rfl) (.old rfl (BLe.rowW (Nat.le_refl _) (fun z hz => Wks.of ?_)) (.old rfl (BLe.refl _) .nil)))))))
    · ((repeat' first | exact TLes.nil | refine TLes.cons (TLe.eq rfl) ?_ | refine TLes.cons (TLe.int ?_) ?_); (all_goals first | ((try (simp only [Zaa, kzz, kz11, kz12, maxL, Zac] at *)); exact wrap64 (by omega) (by omega)) | skip))
    · rw [hsucc]
      exact upRow (by rw [Nat.zero_add]; exact congrArg Int.toNat hji)
  have hjl : j = (Zam b.fin).length := by simp only [decide_eq_false_iff_not] at hb; omega
  clear hb
  subst hjl
  (repeat' (refine Zab tok (by rfl) ?_; conv => whnf))
  refine .inl ⟨_, _, _, uG (QC.fc (c_Backward b.ins) rfl), ?_⟩
  conv => whnf
  refine Zaf ?_
  have hgen : ∃ gB : Nat → Nat → Bool, gB = fun k => (b.ins.drop (b.ins.length - k)).foldr Zc0 (gEnd A f.regs.toNat f b) := ⟨_, rfl⟩
  obtain ⟨gB, hgB⟩ := hgen
  have hg0 : gB 0 = Zch (gPad A f.regs.toNat f b) ((Zam b.fin).take (Zam b.fin).length) := by rw [hgB, List.take_length]; simp only [Nat.sub_zero, List.drop_length, List.foldr_nil]; rfl
  have hgm : gB b.ins.length = gIns A f.regs.toNat f b := by rw [hgB]; simp only [Nat.sub_self, List.drop_zero]; rfl
  have hgs : ∀ k, k < b.ins.length → gB (k + 1) = Zc0 (b.ins.getD (b.ins.length - 1 - k) default) (gB k) := fun k hk => by
    rw [hgB]
    simp only
    have e1 : b.ins.length - (k + 1) = b.ins.length - 1 - k := by omega
    rw [e1, Zd3 default (show b.ins.length - 1 - k < b.ins.length by omega), List.foldr_cons, show b.ins.length - 1 - k + 1 = b.ins.length - k by omega]
  refine Zat (Weak.list (tl := [(0, .bp k0 0), (1, iv n), (6, .bp (6, 7, 0) 0), (97, .fn 37 [.ip [inss b.ins]])]) [((1, 7, 0), .old (1, 7, 0), sBox f k1 k2 A.length B.length), ((2, 7, 0), .old (2, 7, 0), setR A A.length), ((3, 7, 0), .old (3, 7, 0), setR (B.set n be) B.length), ((6, 7, 0), .old (6, 7, 0), .row false 1 1 (fun _ => [.rs (32, 0, 0) 1 0 f.regs.toNat])), ((32, 0, 0), .old (32, 0, 0), Zav f.regs.toNat (gB 0))] rfl (by rfl) ?_ (.old rfl (BLe.rowO rfl) (.old rfl (BLe.refl _) (.old rfl (BLe.refl _) (.old rfl (BLe.rowO rfl) (.old rfl (BLe.rowW (Nat.le_refl _) (fun z hz => Wks.of (by rw [hg0]; rfl))) .nil)))))) ?_
  · ((repeat' first | exact TLes.nil | refine TLes.cons (TLe.eq rfl) ?_); skip)
  refine AWp_back (gB := 37) (sz := 7) (m := b.ins.length) (f := fun i => Zaz (b.ins.getD i default)) [k0, k1, k2, (6, 7, 0)] (fun i hi => by simp only [List.mem_cons, List.not_mem_nil, or_false] at hi ⊢; rcases hi with h | h | h <;> simp [h]) (Zei [(0, .bp k0 0), (1, iv n), (6, .bp (6, 7, 0) 0), (97, .fn 37 [.ip [inss b.ins]])]) (fun k => Za9 [((1, 7, 0), sBox f k1 k2 A.length B.length), ((2, 7, 0), setR A A.length), ((3, 7, 0), setR (B.set n be) B.length), ((6, 7, 0), .row false 1 1 (fun _ => [.rs (32, 0, 0) 1 0 f.regs.toNat])), ((32, 0, 0), Zav f.regs.toNat (gB k))]) c_back ⟨_, Try.func37, rfl, by decide +kernel⟩ rfl (by decide) (pinT_spec rfl) (fun k hk => ?_) ?_
  · have hs1 := hgs k hk
    have hmem := Zcq default (show b.ins.length - 1 - k < b.ins.length by omega)
    have hgen : ∃ x, b.ins.getD (b.ins.length - 1 - k) default = x := ⟨_, rfl⟩
    obtain ⟨x, hx⟩ := hgen
    rw [hx] at hs1 hmem
    have hxs := hok.sets x hmem
    have hxa := hok.asks x hmem
    have hgen : ∃ g, gB k = g := ⟨_, rfl⟩
    obtain ⟨g, hg⟩ := hgen
    rw [hg] at hs1
    simp only [hx, hg]
    have hsv : setsB x = true → setsV x = x.dst := fun h => by unfold setsV; rw [if_pos h]
    have hS := c_Sets x
    have hAk := c_Asks x
    have hgen : ∃ g1, (if setsB x = true then upT g (setsV x) false else g) = g1 := ⟨_, rfl⟩
    obtain ⟨g1, hg1⟩ := hgen
    have hst : Zc0 x g = Zch g1 (Zba x) := by unfold Zc0; rw [hg1]
    rw [hst] at hs1
    refine Zat (Weak.list (tl := [(6, .bp (6, 7, 0) 0), (99, .agg (Zaz x))]) [((1, 7, 0), .old (1, 7, 0), sBox f k1 k2 A.length B.length), ((2, 7, 0), .old (2, 7, 0), setR A A.length), ((3, 7, 0), .old (3, 7, 0), setR (B.set n be) B.length), ((6, 7, 0), .old (6, 7, 0), .row false 1 1 (fun _ => [.rs (32, 0, 0) 1 0 f.regs.toNat])), ((32, 0, 0), .old (32, 0, 0), Zav f.regs.toNat g)] rfl (by rfl) ?_ (.old rfl (BLe.rowO rfl) (.old rfl (BLe.refl _) (.old rfl (BLe.refl _) (.old rfl (BLe.rowO rfl) (.old rfl (BLe.refl _) .nil)))))) ?_
    · ((repeat' first | exact TLes.nil | refine TLes.cons (TLe.eq rfl) ?_); skip)
    (repeat' ((fail_if_success (show AWp _ _ _ (Code.region 21 _ _) _ _)); first | refine Zad ?_ | (refine Zab tok (by rfl) ?_; conv => whnf) | refine Zaf ?_))
    refine Zat (Weak.list (tl := [(6, .bp (6, 7, 0) 0), (13, .bp (13, 0, 0) 0)]) [((1, 7, 0), .old (1, 7, 0), sBox f k1 k2 A.length B.length), ((2, 7, 0), .old (2, 7, 0), setR A A.length), ((3, 7, 0), .old (3, 7, 0), setR (B.set n be) B.length), ((6, 7, 0), .old (6, 7, 0), .row false 1 1 (fun _ => [.rs (32, 0, 0) 1 0 f.regs.toNat])), ((32, 0, 0), .old (32, 0, 0), Zav f.regs.toNat g), ((13, 0, 0), .old (13, 0, 0), .row true 7 1 (fun _ => Zaz x))] rfl (by rfl) ?_ (.old rfl (BLe.rowO rfl) (.old rfl (BLe.refl _) (.old rfl (BLe.refl _) (.old rfl (BLe.rowO rfl) (.old rfl (BLe.refl _) (.old rfl (BLe.rowW (Nat.le_refl _) (ltS (Wks.of rfl) lt0)) .nil))))))) ?_
    · ((repeat' first | exact TLes.nil | refine TLes.cons (TLe.eq rfl) ?_); skip)
    (repeat' (refine Zab tok (by rfl) ?_; conv => whnf))
    refine .inl ⟨_, _, _, uG (QC.fc hS rfl), ?_⟩
    conv => whnf
    (repeat' ((fail_if_success (show AWp _ _ _ (Code.region 22 _ _) _ _)); refine Zad ?_))
    refine Zab tok (by rfl) ?_
    conv => whnf
    refine Zb7 (α := Unit) (fun _ => mkS [(6, .bp (6, 7, 0) 0), (13, .bp (13, 0, 0) 0)] [((1, 7, 0), sBox f k1 k2 A.length B.length), ((2, 7, 0), setR A A.length), ((3, 7, 0), setR (B.set n be) B.length), ((6, 7, 0), .row false 1 1 (fun _ => [.rs (32, 0, 0) 1 0 f.regs.toNat])), ((32, 0, 0), Zav f.regs.toNat g1), ((13, 0, 0), .row true 7 1 (fun _ => Zaz x))]) (fun _ => True) ?_ ?_
    · refine Zah rfl (fun hb => ?_) (fun hb => ?_)
      · obtain ⟨hx1, hx2⟩ := hxs hb
        have hx3 := hsv hb
        rw [if_pos hb] at hg1
        ((repeat' first | (refine Zab tok (by rfl) ?_; conv => whnf) | (refine @And.intro (Zaa _ _ _ _) _ ?_ ?_; rotate_left; (conv => whnf); rotate_right)); all_goals (try ((guard_target = Zaa _ _ _ _); refine Zae ?_; (all_goals (try simp only [Zaa, kzz, kz11, kz12, maxL, Zac] at *)); all_goals omega)))
        refine ⟨(), trivial, Weak.list [((1, 7, 0), .old (1, 7, 0), sBox f k1 k2 A.length B.length), ((2, 7, 0), .old (2, 7, 0), setR A A.length), ((3, 7, 0), .old (3, 7, 0), setR (B.set n be) B.length), ((6, 7, 0), .old (6, 7, 0), .row false 1 1 (fun _ => [.rs (32, 0, 0) 1 0 f.regs.toNat])), ((32, 0, 0), .old (32, 0, 0), Zav f.regs.toNat g1), ((13, 0, 0), .old (13, 0, 0), .row true 7 1 (fun _ => Zaz x))] rfl (by rfl) ?_ (.old rfl (BLe.rowO rfl) (.old rfl (BLe.refl _) (.old rfl (BLe.refl _) (.old rfl (BLe.rowO rfl) (.old rfl (BLe.rowW (Nat.le_refl _) (fun z hz => Wks.of (by rw [← hg1]; exact upRow (Nat.zero_add _)))) (.old rfl (BLe.refl _) .nil))))))⟩
        ((repeat' first | exact TLes.nil | refine TLes.cons (TLe.eq rfl) ?_); skip)
      · rw [if_neg (by rw [hb]; simp)] at hg1
        (repeat' (refine Zai ?_; conv => whnf))
        refine ⟨(), trivial, Weak.list [((1, 7, 0), .old (1, 7, 0), sBox f k1 k2 A.length B.length), ((2, 7, 0), .old (2, 7, 0), setR A A.length), ((3, 7, 0), .old (3, 7, 0), setR (B.set n be) B.length), ((6, 7, 0), .old (6, 7, 0), .row false 1 1 (fun _ => [.rs (32, 0, 0) 1 0 f.regs.toNat])), ((32, 0, 0), .old (32, 0, 0), Zav f.regs.toNat g1), ((13, 0, 0), .old (13, 0, 0), .row true 7 1 (fun _ => Zaz x))] rfl (by rfl) ?_ (.old rfl (BLe.rowO rfl) (.old rfl (BLe.refl _) (.old rfl (BLe.refl _) (.old rfl (BLe.rowO rfl) (.old rfl (BLe.rowW (Nat.le_refl _) (fun z hz => Wks.of (by rw [← hg1]; rfl))) (.old rfl (BLe.refl _) .nil))))))⟩
        ((repeat' first | exact TLes.nil | refine TLes.cons (TLe.eq rfl) ?_); skip)
    rintro ⟨⟩ - τ hw
    refine Zat hw ?_
    clear hw
    (repeat' first | refine Zad ?_ | (refine Zab tok (by rfl) ?_; conv => whnf))
    refine .inl ⟨_, _, _, uG (QC.fo (rd := []) hAk (Ress.imms rfl) (.inl rfl) rfl), ?_⟩
    conv => whnf
    (repeat' ((fail_if_success (show AWp _ _ _ (Code.region 25 _ _) _ _)); refine Zaf ?_))
    refine Zar 111 (fun hl => ?_)
    have hle : ((Zba x).length : Int) ≤ 9223372036854775807 := hl.2
    clear hl
    refine Zap (fun j : Nat => mkS [(6, .bp (6, 7, 0) 0), (13, .bp (13, 0, 0) 0), (110, .rs (110, 0, 0) 1 0 (Zba x).length), (111, iv (Zba x).length), (112, iv j)] [((1, 7, 0), sBox f k1 k2 A.length B.length), ((2, 7, 0), setR A A.length), ((3, 7, 0), setR (B.set n be) B.length), ((6, 7, 0), .row false 1 1 (fun _ => [.rs (32, 0, 0) 1 0 f.regs.toNat])), ((32, 0, 0), Zav f.regs.toNat (Zch g1 ((Zba x).take j))), ((13, 0, 0), .row true 7 1 (fun _ => Zaz x)), ((110, 0, 0), .row true 1 (Zba x).length (fun i => [iv ((Zba x).getD i 0)]))]) (fun j => j ≤ (Zba x).length) (fun j => (Zba x).length - j) 0 (Nat.zero_le _) ?_ ?_
    · refine Weak.list [((1, 7, 0), .old (1, 7, 0), sBox f k1 k2 A.length B.length), ((2, 7, 0), .old (2, 7, 0), setR A A.length), ((3, 7, 0), .old (3, 7, 0), setR (B.set n be) B.length), ((6, 7, 0), .old (6, 7, 0), .row false 1 1 (fun _ => [.rs (32, 0, 0) 1 0 f.regs.toNat])), ((32, 0, 0), .old (32, 0, 0), Zav f.regs.toNat (Zch g1 ((Zba x).take 0))), ((13, 0, 0), .old (13, 0, 0), .row true 7 1 (fun _ => Zaz x)), ((110, 0, 0), .old (110, 0, 0), .row true 1 (Zba x).length (fun i => [iv ((Zba x).getD i 0)]))] rfl (by rfl) ?_ (.old rfl (BLe.rowO rfl) (.old rfl (BLe.refl _) (.old rfl (BLe.refl _) (.old rfl (BLe.rowO rfl) (.old rfl (BLe.refl _) (.old rfl (BLe.refl _) (.old rfl (BLe.refl _) .nil)))))))
      ((repeat' first | exact TLes.nil | refine TLes.cons (TLe.eq rfl) ?_); skip)
    intro j hj
    (repeat' ((fail_if_success (show AWp _ _ _ (Code.region 26 _ _) _ _)); first | refine Zad ?_ | (refine Zab tok (by rfl) ?_; conv => whnf) | refine Zaf ?_ | (refine Zai ?_; conv => whnf) | (refine Zan ?_; conv => whnf) | refine Zah rfl (fun hb => ?_) (fun hb => ?_)))
    · have hjl : j < (Zba x).length := by simp only [decide_eq_true_eq] at hb; omega
      clear hb
      have hsucc := Zdu (g := g1) hjl
      have hpj := hxa _ (Zcq 0 hjl)
      have hji : (Zba x).getD (0 + (j : Int).toNat) 0 = (Zba x).getD j 0 := by simp
      ((repeat' first | (refine Zab tok (by rfl) ?_; conv => whnf) | (refine @And.intro (Zaa _ _ _ _) _ ?_ ?_; rotate_left; (conv => whnf); rotate_right)); all_goals (try ((guard_target = Zaa _ _ _ _); refine Zae ?_; (all_goals (try simp only [Zaa, kzz, kz11, kz12, maxL, Zac] at *)); all_goals omega)))
      refine ⟨j + 1, hjl, by omega, ?_⟩
      refine Weak.list [((1, 7, 0), .old (1, 7, 0), sBox f k1 k2 A.length B.length), ((2, 7, 0), .old (2, 7, 0), setR A A.length), ((3, 7, 0), .old (3, 7, 0), setR (B.set n be) B.length), ((6, 7, 0), .old (6, 7, 0), .row false 1 1 (fun _ => [.rs (32, 0, 0) 1 0 f.regs.toNat])), ((32, 0, 0), .old (32, 0, 0), Zav f.regs.toNat (Zch g1 ((Zba x).take (j + 1)))), ((13, 0, 0), .old (13, 0, 0), .row true 7 1 (fun _ => Zaz x)), ((110, 0, 0), .old (110, 0, 0), .row true 1 (Zba x).length (fun i => [iv ((Zba x).getD i 0)]))] rfl (by rfl) ?_ (.old rfl (BLe.rowO rfl) (.old rfl (BLe.refl _) (.old rfl (BLe.refl _) (.old rfl (BLe.rowO rfl) (.old rfl (BLe.rowW (Nat.le_refl _) (fun z hz => Wks.of ?_)) (.old rfl (BLe.refl _) (.old rfl (BLe.refl _) .nil)))))))
      · ((repeat' first | exact TLes.nil | refine TLes.cons (TLe.eq rfl) ?_ | refine TLes.cons (TLe.int ?_) ?_); (all_goals first | ((try (simp only [Zaa, kzz, kz11, kz12, maxL, Zac] at *)); exact wrap64 (by omega) (by omega)) | skip))
      · rw [hsucc]
        exact upRow (by rw [Nat.zero_add]; exact congrArg Int.toNat hji)
    · have hjl : j = (Zba x).length := by simp only [decide_eq_false_iff_not] at hb; omega
      clear hb
      subst hjl
      refine ⟨Zei [], Weak.list (tl := []) [((1, 7, 0), .old (1, 7, 0), sBox f k1 k2 A.length B.length), ((2, 7, 0), .old (2, 7, 0), setR A A.length), ((3, 7, 0), .old (3, 7, 0), setR (B.set n be) B.length), ((6, 7, 0), .old (6, 7, 0), .row false 1 1 (fun _ => [.rs (32, 0, 0) 1 0 f.regs.toNat])), ((32, 0, 0), .old (32, 0, 0), Zav f.regs.toNat (gB (k + 1)))] rfl (by rfl) .nil (.old rfl (BLe.rowO rfl) (.old rfl (BLe.refl _) (.old rfl (BLe.refl _) (.old rfl (BLe.rowO rfl) (.old rfl (BLe.rowW (Nat.le_refl _) (fun z hz => Wks.of (by rw [hs1, List.take_length]; rfl))) .nil)))))⟩
  · conv => whnf
    have hli2 : ∀ q, q < f.regs.toNat → [AV.bool (gB b.ins.length q)] = [AV.bool ((Zek f.regs.toNat (gIns A f.regs.toNat f b)).getD q false)] := fun q hq => by rw [Zex hq, hgm]
    have hll2 := Zd2 f.regs.toNat (gIns A f.regs.toNat f b)
    have hgen : ∃ now, Zek f.regs.toNat (gIns A f.regs.toNat f b) = now := ⟨_, rfl⟩
    obtain ⟨now, hnow⟩ := hgen
    rw [hnow] at hli2 hll2 ⊢
    have hcall : ∀ y, y = A.getD n [] → FC Try.prog 36 [bools now, bools y] (.bool (decide (now = A.getD n []))) := fun y e => by rw [e]; exact c_EqualB _ _
    have hnA : n < A.length := by omega
    ((repeat' first | refine Zad ?_ | (refine Za2 tok mix (by rfl) ?_; conv => whnf) | (refine @And.intro (Zaa _ _ _ _) _ ?_ ?_; rotate_left; (conv => whnf); rotate_right)); all_goals (try ((guard_target = Zaa _ _ _ _); refine Zae ?_; (all_goals (try simp only [Zaa, kzz, kz11, kz12, maxL, Zac] at *)); all_goals omega)))
    refine .inl ⟨_, _, _, uG (QC.sc (rd := [(32, 0, 0)]) (hcall (A.getD (0 + (n : Int).toNat) []) (by simp)) (.cons (.row rfl (.head _) rfl hll2.symm hli2) (.cons (.imm rfl) .nil)) rfl), ?_⟩
    conv => whnf
    ((repeat' ((fail_if_success (show AWp _ _ _ (Code.region 31 _ _) _ _)); first | refine Zad ?_ | (refine Za2 tok mix (by rfl) ?_; conv => whnf) | (refine @And.intro (Zaa _ _ _ _) _ ?_ ?_; rotate_left; (conv => whnf); rotate_right))); all_goals (try ((guard_target = Zaa _ _ _ _); refine Zae ?_; (all_goals (try simp only [Zaa, kzz, kz11, kz12, maxL, Zac] at *)); all_goals omega)))
    refine Zat (Weak.fam (tl := [(18, .bool (decide (now ≠ A.getD n [])))]) (hl := [((1, 7, 0), sBox f k1 k2 A.length B.length), ((2, 7, 0), setR (A.set n now) A.length), ((3, 7, 0), setR (B.set n be) B.length)]) (F := noH) [] rfl (fun i hi => by cases hi) ?_ ?_ noF (hLp _ rfl rfl rfl)) ?_
    · exact .cons (.bool (by rw [decide_not])) .nil
    · refine .old rfl rfl (GB.one (.cons (.imm rfl) (.cons (.imm rfl) (.cons (.imm rfl) (.cons (.rs rfl rfl rfl rfl) (.cons (.rs rfl rfl rfl rfl) .nil))))) (fun e => by cases e)) (.old rfl rfl (GB.row (Nat.le_refl _) (fun q hq => GVs.upd (fun e => ?_) (fun e => ?_)) (fun _ _ _ => rfl)) (.old rfl rfl (GB.rowI (Nat.le_refl _) (fun q hq => ⟨rfl, rfl⟩)) .nil))
      · rw [Nat.zero_add, Int.toNat_natCast] at e
        subst e
        rw [Zbn, if_pos ⟨rfl, hq⟩]
        exact .cons (.frz (hd_no rfl) rfl (Nat.le_of_eq (Nat.zero_add _)) hll2.symm (fun x hx => GVs.eqI rfl (by rw [Nat.zero_add]; exact hli2 x hx)) (fun _ _ => rfl)) .nil
      · rw [Nat.zero_add, Int.toNat_natCast] at e
        rw [Zbn, if_neg (fun h => e h.1.symm)]
        exact GVs.imm rfl
    (repeat' first | (refine Zab tok (by rfl) ?_; conv => whnf) | (refine Zaj ?_; conv => whnf))
    exact ⟨_, [(k0, .old k0, sBox f k1 k2 A.length B.length), (k1, .old k1, setR (A.set n now) A.length), (k2, .old k2, setR (B.set n be) B.length)], rfl, rfl, rfl, rfl, .old rfl (BLe.rowO rfl) (.old rfl (BLe.refl _) (.old rfl (BLe.refl _) .nil)), .eq rfl⟩
end Go.Proofs.Ytbcocllokcimeaa
namespace Go.Proofs.Ytbcocllokcimeaa
open Go Dv
set_option maxRecDepth 10000
set_option linter.unusedSimpArgs false
def sel (b : Bool) (x y : AV) : AV := bif b then x else y
def blkO (b : Zb0) (x : AV) : List AV := [.bool b.landing, iv b.pad.dst, u16s b.pad.catch_, .bool b.pad.all, .bool b.pad.cleanup, x, iv b.fin.kind, iv b.fin.a, iv b.fin.dst, iv b.fin.f, ints b.fin.args, iv b.fin.to, iv b.fin.els, iv b.fin.pad]
def insR (l : List Ins) : Zak := .row true 7 l.length (fun j => Zaz (l.getD j default))
def blkR (i : Nat) (l : List Zb0) (k : Nat) (c : Nat → AV) : Zak := .row false 14 l.length (fun q => blkO (l.getD q default) (sel (Nat.blt q k) (.rs (1001, i, q) 7 0 (l.getD q default).ins.length) (c q)))
def funR (l : List Func) (k : Nat) (c : Nat → AV) : Zak := .row false 3 l.length (fun j => [iv (l.getD j default).params, iv (l.getD j default).regs, sel (Nat.blt j k) (.rs (1000, j, 0) 14 0 (l.getD j default).blocks.length) (c j)])
def insF (l : List Func) (n k : Nat) : Zal := famC 1001 (fun i q => bif (Nat.blt i n && Nat.blt q (l.getD i default).blocks.length) || (Nat.beq i n && Nat.blt q k) then some (insR ((l.getD i default).blocks.getD q default).ins) else none)
def blkF (l : List Func) (n : Nat) : Zal := famC 1000 (fun i z => bif Nat.beq z 0 && Nat.blt i n then some (blkR i (l.getD i default).blocks (l.getD i default).blocks.length (fun _ => .any)) else none)
theorem Zbr {a i : Nat} (h : i ≤ a) {x y : AV} : sel (Nat.blt a i) x y = y := by
  have : Nat.blt a i = false := by rw [Bool.eq_false_iff]; intro h2; rw [Nat.blt_eq] at h2; omega
  rw [this]; rfl
theorem Zbg {a i : Nat} (h : a < i) {x y : AV} : sel (Nat.blt a i) x y = x := by
  have : Nat.blt a i = true := by rw [Nat.blt_eq]; exact h
  rw [this]; rfl
theorem Zee {i : Nat} {x y : AV} : sel (Nat.beq i i) x y = x := by
  have : Nat.beq i i = true := by simp
  rw [this]; rfl
theorem sel_ne {i j : Nat} (h : i ≠ j) {x y : AV} : sel (Nat.beq i j) x y = y := by
  have : Nat.beq i j = false := by rw [Bool.eq_false_iff]; intro h2; exact h (Nat.eq_of_beq_eq_true h2)
  rw [this]; rfl
theorem beq0_and {z n i : Nat} : (Nat.beq z 0 && Nat.blt i n) = true ↔ z = 0 ∧ i < n := by
  rw [Bool.and_eq_true, Nat.blt_eq]; simp
theorem blkF_some {l : List Func} {n : Nat} {j : Dv.Id} {b : Zak} (h : blkF l n j = some b) : ∃ i, j = (1000, i, 0) ∧ i < n ∧ b = blkR i (l.getD i default).blocks (l.getD i default).blocks.length (fun _ => .any) := by
  obtain ⟨p, q, rfl, h3⟩ := famC_some h
  cases e : (Nat.beq q 0 && Nat.blt p n) with
  | false => rw [e] at h3; cases h3
  | true =>
    rw [e] at h3
    obtain ⟨rfl, h2⟩ := beq0_and.1 e
    exact ⟨p, rfl, h2, (Option.some.inj h3).symm⟩
theorem blkF_at {l : List Func} {n i : Nat} (h : i < n) : blkF l n (1000, i, 0) = some (blkR i (l.getD i default).blocks (l.getD i default).blocks.length (fun _ => .any)) := by
  show (bif (Nat.beq 0 0 && Nat.blt i n) then _ else none) = _
  rw [beq0_and.2 ⟨rfl, h⟩]; rfl
theorem insC {n k i q nb : Nat} : ((Nat.blt i n && Nat.blt q nb) || (Nat.beq i n && Nat.blt q k)) = true ↔ (i < n ∧ q < nb) ∨ (i = n ∧ q < k) := by
  rw [Bool.or_eq_true, Bool.and_eq_true, Bool.and_eq_true, Nat.blt_eq, Nat.blt_eq, Nat.blt_eq]; simp
theorem insF_some {l : List Func} {n k : Nat} {j : Dv.Id} {b : Zak} (h : insF l n k j = some b) : ∃ i q, j = (1001, i, q) ∧ ((i < n ∧ q < (l.getD i default).blocks.length) ∨ (i = n ∧ q < k)) ∧ b = insR ((l.getD i default).blocks.getD q default).ins := by
  obtain ⟨p, q, rfl, h3⟩ := famC_some h
  cases e : ((Nat.blt p n && Nat.blt q (l.getD p default).blocks.length) || (Nat.beq p n && Nat.blt q k)) with
  | false => rw [e] at h3; cases h3
  | true => rw [e] at h3; exact ⟨p, q, rfl, insC.1 e, (Option.some.inj h3).symm⟩
theorem insF_at {l : List Func} {n k i q : Nat} (h : (i < n ∧ q < (l.getD i default).blocks.length) ∨ (i = n ∧ q < k)) : insF l n k (1001, i, q) = some (insR ((l.getD i default).blocks.getD q default).ins) := by
  show (bif ((Nat.blt i n && Nat.blt q (l.getD i default).blocks.length) || (Nat.beq i n && Nat.blt q k)) then _ else none) = _
  rw [insC.2 h]; rfl
def treeF (l : List Func) (n k : Nat) : Zal := orH (blkF l n) (insF l n k)
theorem Zbd {l : List Func} {n k i : Nat} (h : i < n) : treeF l n k (1000, i, 0) = some (blkR i (l.getD i default).blocks (l.getD i default).blocks.length (fun _ => .any)) := by
  unfold treeF orH; rw [blkF_at h]
theorem Za7 {l : List Func} {n k i q : Nat} (h : (i < n ∧ q < (l.getD i default).blocks.length) ∨ (i = n ∧ q < k)) : treeF l n k (1001, i, q) = some (insR ((l.getD i default).blocks.getD q default).ins) := by
  show insF l n k (1001, i, q) = _
  exact insF_at h
theorem Zb9 {l : List Func} {n k : Nat} {j : Dv.Id} {b : Zak} (h : treeF l n k j = some b) : (∃ i, j = (1000, i, 0) ∧ i < n ∧ b = blkR i (l.getD i default).blocks (l.getD i default).blocks.length (fun _ => .any)) ∨
    ∃ i q, j = (1001, i, q) ∧ ((i < n ∧ q < (l.getD i default).blocks.length) ∨ (i = n ∧ q < k)) ∧ b = insR ((l.getD i default).blocks.getD q default).ins := by
  rcases orH_some h with e | ⟨_, e⟩
  · exact .inl (blkF_some e)
  · exact .inr (insF_some e)
def copyH (l : List Func) : Zal := orH (Za9 [((900, 0, 0), funR l l.length (fun _ => .any))]) (treeF l l.length 0)
section
variable {src : Dv.Id → Option Dv.Id} {h h' : Zal}
theorem GB_ins (l : List Ins) : GB src h h' (insR l) (insR l) := GB.rowI (Nat.le_refl _) (fun _ _ => ⟨rfl, rfl⟩)
theorem GVs_blk {b : Zb0} {x y : AV} (hx : GV src h h' x y) : GVs src h h' (blkO b x) (blkO b y) :=
  .cons (.imm rfl) (.cons (.imm rfl) (.cons (.imm rfl) (.cons (.imm rfl) (.cons (.imm rfl) (.cons hx (GVs.imm rfl))))))
theorem Zd4 {i i' : Nat} {l : List Zb0} {k k' : Nat} {c c' : Nat → AV} (hc : ∀ q, q < l.length → GV src h h' (sel (Nat.blt q k) (.rs (1001, i, q) 7 0 (l.getD q default).ins.length) (c q)) (sel (Nat.blt q k') (.rs (1001, i', q) 7 0 (l.getD q default).ins.length) (c' q))) :
    GB src h h' (blkR i l k c) (blkR i' l k' c') := GB.row (Nat.le_refl _) (fun q hq => GVs_blk (hc q hq)) (fun e => by cases e)
theorem GB_fun {l : List Func} {k k' : Nat} {c c' : Nat → AV} (hc : ∀ q, q < l.length → GV src h h' (sel (Nat.blt q k) (.rs (1000, q, 0) 14 0 (l.getD q default).blocks.length) (c q)) (sel (Nat.blt q k') (.rs (1000, q, 0) 14 0 (l.getD q default).blocks.length) (c' q))) :
    GB src h h' (funR l k c) (funR l k' c') := GB.row (Nat.le_refl _) (fun q hq => .cons (.imm rfl) (.cons (.imm rfl) (.cons (hc q hq) .nil))) (fun e => by cases e)
end
theorem keep_fun {src : Dv.Id → Option Dv.Id} {h h' : Zal} {i j n m : Nat} {x : AV} {b b2 : Zak} (h1 : j < i → h' (1000, j, 0) = some b) (hs : src (1000, j, 0) = some (1000, j, 0)) (h27 : h' (27, 8, 0) = some b2) (hs27 : src (27, 8, 0) = some (27, 8, 0)) (hx : immD x = true) :
    GV src h h' (sel (Nat.blt j i) (.rs (1000, j, 0) 14 0 n) (sel (Nat.beq j i) (.rs (27, 8, 0) 14 0 m) x)) (sel (Nat.blt j i) (.rs (1000, j, 0) 14 0 n) (sel (Nat.beq j i) (.rs (27, 8, 0) 14 0 m) x)) := by
  by_cases hji : j < i
  · exact .cc (Zbg hji) (Zbg hji) (.rs (h1 hji) hs rfl rfl)
  · by_cases e : j = i
    · subst e
      exact .cc (by rw [Zbr (Nat.le_refl _), Zee]) (by rw [Zbr (Nat.le_refl _), Zee]) (.rs h27 hs27 rfl rfl)
    · exact .cc (by rw [Zbr (by omega), sel_ne e]) (by rw [Zbr (by omega), sel_ne e]) (.imm hx)
theorem tree_hd0 {fs : List Func} {n k : Nat} {c : Dv.Id} (hc : treeF fs n k c = none) : ∀ j, (treeF fs n k j).isSome = true → srcL [] j ≠ some c := fun j hj e => by
  cases e; rw [hc] at hj; cases hj
theorem srcL_hit {c : Dv.Id} {o : Option Dv.Id} : srcL [(c, o)] c = o := by simp [srcL, Za5.2 rfl]
theorem srcL_miss {c j : Dv.Id} {o : Option Dv.Id} (h : c ≠ j) : srcL [(c, o)] j = some j := by simp [srcL, Zbc.2 h]
theorem updR_self {f : Nat → List AV} {k : Nat} {c : List AV} : updR f k c k = c := by
  unfold updR
  have : Nat.beq k k = true := by simp
  rw [this]; rfl
theorem keep_blk {src : Dv.Id → Option Dv.Id} {h h' : Zal} {i k q n m : Nat} {x : AV} {b b2 : Zak} (h1 : q < k → h' (1001, i, q) = some b) (hs : src (1001, i, q) = some (1001, i, q)) (h57 : h' (57, 0, 0) = some b2) (hs57 : src (57, 0, 0) = some (57, 0, 0)) (hx : immD x = true := by rfl) :
    GV src h h' (sel (Nat.blt q k) (.rs (1001, i, q) 7 0 n) (sel (Nat.beq q k) (.rs (57, 0, 0) 7 0 m) x)) (sel (Nat.blt q k) (.rs (1001, i, q) 7 0 n) (sel (Nat.beq q k) (.rs (57, 0, 0) 7 0 m) x)) := by
  by_cases hji : q < k
  · exact .cc (Zbg hji) (Zbg hji) (.rs (h1 hji) hs rfl rfl)
  · by_cases e : q = k
    · subst e
      exact .cc (by rw [Zbr (Nat.le_refl _), Zee]) (by rw [Zbr (Nat.le_refl _), Zee]) (.rs h57 hs57 rfl rfl)
    · exact .cc (by rw [Zbr (by omega), sel_ne e]) (by rw [Zbr (by omega), sel_ne e]) (.imm hx)
theorem c_Copy (fs : List Func) : HF Try.prog 12 [.agg (Zb4 ⟨fs⟩)] (.agg [.rs (900, 0, 0) 3 0 fs.length]) (copyH fs) := by
  refine HF_intro tok Try.func12 rfl (by decide +kernel) (Nat.le_of_ble_eq_true rfl) ?_
  refine Zar 0 (fun hl => ?_)
  have hl0 : fs.length ≤ maxL := hl.1.1
  have hmx : maxL = 4294967296 := rfl
  have hl1 : ∀ i, i < fs.length → (fs.getD i default).blocks.length ≤ maxL ∧ ∀ k, k < (fs.getD i default).blocks.length → ((fs.getD i default).blocks.getD k default).ins.length ≤ maxL := fun i hi => by
    have h1 := hl.1.2 i hi
    exact ⟨h1.2.2.1.1, fun k hk => (h1.2.2.1.2 k hk).2.2.2.2.2.1.1⟩
  clear hl
  (repeat' first | refine Zad ?_ | (refine Zab tok (by rfl) ?_; conv => whnf))
  refine .inl ⟨_, _, _, uG (QC.fo (rd := []) (c_CloneFuncs fs) (Ress.imms rfl) (.inl rfl) rfl), ?_⟩
  conv => whnf
  (repeat' first | refine Zad ?_ | (refine Zab tok (by rfl) ?_; conv => whnf) | refine Zaf ?_)
  refine Zap (fun i : Nat => mkF [(1, .bp (1, 0, 0) 0), (2, .bp (2, 0, 0) 0), (14, iv fs.length), (15, iv i)]
      [((1, 0, 0), .row false 1 1 (fun _ => [.rs (10, 0, 0) 3 0 fs.length])), ((2, 0, 0), Za6 [.nsl]), ((10, 0, 0), funR fs i (fun j => Zce (fs.getD j default).blocks))] (treeF fs i 0))
    (fun i => i ≤ fs.length) (fun i => fs.length - i) 0 (Nat.zero_le _) ?_ ?_
  · refine Weak.fam [] rfl (fun i hi => by cases hi) ?_ ?_ ?_ (fun i hi => by cases hi)
    · (repeat' first | exact TLg.nil | refine TLg.cons (GV.imm rfl) ?_ | refine TLg.cons (GV.bp rfl rfl) ?_)
      all_goals rfl
    · refine .old rfl rfl (GB.one (.cons (.rs rfl rfl rfl rfl) .nil) (fun e => by cases e)) (.old rfl rfl (GB.one (GVs.imm rfl) (fun _ => rfl)) (.old rfl rfl (GB.row (Nat.le_refl _) (fun j hj => .cons (.imm rfl) (.cons (.imm rfl) (.cons ?_ .nil))) (fun e => by cases e)) .nil))
      rw [Zbr (Nat.zero_le _)]; exact GV.imm rfl
    · intro j b e
      rcases Zb9 e with ⟨i, _, h, _⟩ | ⟨i, q, _, h, _⟩ <;> omega
  intro i hi
  ((repeat' ((fail_if_success (show AWp _ _ _ (Code.region 6 _ _) _ _)); first | refine Zad ?_ | (refine Zab tok (by rfl) ?_; conv => whnf) | refine Zaf ?_ | (refine Zai ?_; conv => whnf) | (refine Zan ?_; conv => whnf) | (refine Zaj ?_; conv => whnf) | refine Zah rfl (fun hb => ?_) (fun hb => ?_) | (refine @And.intro (Zaa _ _ _ _) _ ?_ ?_; rotate_left; (conv => whnf); rotate_right))); all_goals (try ((guard_target = Zaa _ _ _ _); refine Zae ?_; (all_goals (try simp only [Zaa, kzz, kz11, kz12, maxL, Zac] at *)); all_goals omega)))
  · have hlt : i < fs.length := by simp only [decide_eq_true_eq] at hb; omega
    clear hb
    have hz : 0 + (i : Int).toNat = i := by simp
    ((repeat' ((fail_if_success (show AWp _ _ _ (Code.region 7 _ _) _ _)); first | (refine Zab tok (by rfl) ?_; conv => whnf) | (refine @And.intro (Zaa _ _ _ _) _ ?_ ?_; rotate_left; (conv => whnf); rotate_right))); all_goals (try ((guard_target = Zaa _ _ _ _); refine Zae ?_; (all_goals (try simp only [Zaa, kzz, kz11, kz12, maxL, Zac] at *)); all_goals omega)))
    refine fAV (y := Zce (fs.getD i default).blocks) ?_ ?_
    · show sel _ _ (Zce (fs.getD (0 + (i : Int).toNat) default).blocks) = _
      rw [hz, Zbr (Nat.le_refl _)]
    conv => whnf
    skip
    refine .inl ⟨_, _, _, uG (QC.fo (rd := []) (c_CloneBlocks (fs.getD i default).blocks) (Ress.imms rfl) (.inl rfl) rfl), ?_⟩
    conv => whnf
    ((repeat' ((fail_if_success (show AWp _ _ _ (Code.region 7 _ _) _ _)); first | refine Zad ?_ | (refine @And.intro (Zaa _ _ _ _) _ ?_ ?_; rotate_left; (conv => whnf); rotate_right))); all_goals (try ((guard_target = Zaa _ _ _ _); refine Zae ?_; (all_goals (try simp only [Zaa, kzz, kz11, kz12, maxL, Zac] at *)); all_goals omega)))
    have hbs : ∃ bs, (fs.getD i default).blocks = bs := ⟨_, rfl⟩
    obtain ⟨bs, hbs⟩ := hbs
    refine Zat (Weak.fam (tl := [(1, .bp (1, 0, 0) 0), (2, .bp (2, 0, 0) 0), (14, iv fs.length), (15, iv i), (4, .rp (10, 0, 0) 3 i 0)]) (hl := [((1, 0, 0), .row false 1 1 (fun _ => [.rs (10, 0, 0) 3 0 fs.length])), ((2, 0, 0), Za6 [.nsl]), ((10, 0, 0), funR fs i (fun j => sel (Nat.beq j i) (.rs (27, 8, 0) 14 0 bs.length) (Zce (fs.getD j default).blocks))), ((27, 8, 0), blkR i bs 0 (fun q => inss (bs.getD q default).ins))]) (F := treeF fs i 0) [((27, 8, 0), some (27, 0, 0))] rfl (fun i hi => by simp only [tgts, List.mem_singleton] at hi; subst hi; exact .inl rfl) ?_ ?_ ?_ (fun i hi => by cases hi)) ?_
    · (repeat' first | exact TLg.nil | refine TLg.cons (GV.imm rfl) ?_ | refine TLg.cons (GV.bp rfl rfl) ?_ | refine TLg.cons (GV.rp rfl rfl ?_) ?_)
      all_goals first | rfl | exact hz
    · refine .old rfl rfl (GB.one (.cons (.rs rfl rfl rfl rfl) .nil) (fun e => by cases e)) (.old rfl rfl (GB.one (GVs.imm rfl) (fun _ => rfl)) (.old rfl rfl (GB.row (Nat.le_refl _) (fun j hj => ?_) (fun e => by cases e)) (.old rfl rfl (GB.row ?_ (fun j hj => ?_) (fun e => by cases e)) .nil)))
      · refine GVs.upd (fun e => ?_) (fun e => ?_)
        · rw [hz] at e; subst e
          refine .cons (.int (by rw [hz])) (.cons (.int (by rw [hz])) (.cons ?_ .nil))
          exact .cc (x' := .rs (27, 0, 0) 14 0 (fs.getD j default).blocks.length) rfl (show sel _ _ (sel _ _ _) = _ by rw [Zbr (Nat.le_refl _), Zee]) (.rs rfl rfl rfl (by rw [hbs]))
        · rw [hz] at e
          refine .cons (.imm rfl) (.cons (.imm rfl) (.cons ?_ .nil))
          by_cases hji : j < i
          · exact .cc (show sel _ _ _ = _ from Zbg hji) (show sel _ _ (sel _ _ _) = _ from Zbg hji) (.rs (b := blkR j (fs.getD j default).blocks (fs.getD j default).blocks.length (fun _ => .any)) (Zbd hji) rfl rfl rfl)
          · exact .cc (show sel _ _ _ = _ from Zbr (by omega)) (show sel _ _ (sel _ _ _) = _ by rw [Zbr (by omega), sel_ne e]) (.imm rfl)
      · rw [hbs]; exact Nat.le_refl _
      · subst hbs
        exact GVs_blk (.cc rfl (show sel _ _ _ = _ from Zbr (Nat.zero_le _)) (.imm rfl))
    · intro j b e
      rcases Zb9 e with ⟨p, rfl, hp, rfl⟩ | ⟨p, q, rfl, hp, rfl⟩
      · exact HOk.mk rfl (b0 := blkR p (fs.getD p default).blocks (fs.getD p default).blocks.length (fun _ => .any)) (Zbd hp) (Zd4 (fun q hq => .cc (Zbg hq) (Zbg hq) (.rs (b := insR ((fs.getD p default).blocks.getD q default).ins) (Za7 (.inl ⟨hp, hq⟩)) rfl rfl rfl)))
      · exact HOk.mk rfl (b0 := insR ((fs.getD p default).blocks.getD q default).ins) (Za7 hp) (GB_ins _)
    ((repeat' ((fail_if_success (show AWp _ _ _ (Code.region 8 _ _) _ _)); first | (refine Zab tok (by rfl) ?_; conv => whnf) | (refine @And.intro (Zaa _ _ _ _) _ ?_ ?_; rotate_left; (conv => whnf); rotate_right))); all_goals (try ((guard_target = Zaa _ _ _ _); refine Zae ?_; (all_goals (try simp only [Zaa, kzz, kz11, kz12, maxL, Zac] at *)); all_goals omega)))
    refine fAV (y := .rs (27, 8, 0) 14 0 bs.length) (show sel (Nat.blt i i) _ (sel (Nat.beq i i) _ _) = _ by rw [Zbr (Nat.le_refl _), Zee]) ?_
    conv => whnf
    (repeat' ((fail_if_success (show AWp _ _ _ (Code.region 8 _ _) _ _)); refine Zaf ?_))
    have hbl := (hl1 i hlt).1
    have hbl2 := (hl1 i hlt).2
    rw [hbs] at hbl hbl2
    clear hl1
    refine Zap (fun k : Nat => mkF [(1, .bp (1, 0, 0) 0), (2, .bp (2, 0, 0) 0), (14, iv fs.length), (15, iv i), (4, .rp (10, 0, 0) 3 i 0), (34, iv bs.length), (35, iv k)] [((1, 0, 0), .row false 1 1 (fun _ => [.rs (10, 0, 0) 3 0 fs.length])), ((2, 0, 0), Za6 [.nsl]), ((10, 0, 0), funR fs i (fun j => sel (Nat.beq j i) (.rs (27, 8, 0) 14 0 bs.length) (Zce (fs.getD j default).blocks))), ((27, 8, 0), blkR i bs k (fun q => inss (bs.getD q default).ins))] (treeF fs i k))
      (fun k => k ≤ bs.length) (fun k => bs.length - k) 0 (Nat.zero_le _) ?_ ?_
    · refine Weak.fam [] rfl (fun i hi => by cases hi) ?_ ?_ ?_ (fun i hi => by cases hi)
      · (repeat' first | exact TLg.nil | refine TLg.cons (GV.imm rfl) ?_ | refine TLg.cons (GV.bp rfl rfl) ?_)
        all_goals rfl
      · refine .old rfl rfl (GB.one (.cons (.rs rfl rfl rfl rfl) .nil) (fun e => by cases e)) (.old rfl rfl (GB.one (GVs.imm rfl) (fun _ => rfl)) (.old rfl rfl (GB_fun (fun j hj => keep_fun (fun h => Zbd h) rfl rfl rfl rfl)) (.old rfl rfl (Zd4 (fun q hq => .cc (Zbr (Nat.zero_le _)) (Zbr (Nat.zero_le _)) (.imm rfl))) .nil)))
      · intro j b e
        rcases Zb9 e with ⟨p, rfl, hp, rfl⟩ | ⟨p, q, rfl, hp, rfl⟩
        · exact HOk.mk rfl (b0 := blkR p (fs.getD p default).blocks (fs.getD p default).blocks.length (fun _ => .any)) (Zbd hp) (Zd4 (fun q hq => .cc (Zbg hq) (Zbg hq) (.rs (b := insR ((fs.getD p default).blocks.getD q default).ins) (Za7 (.inl ⟨hp, hq⟩)) rfl rfl rfl)))
        · exact HOk.mk rfl (b0 := insR ((fs.getD p default).blocks.getD q default).ins) (Za7 hp) (GB_ins _)
    intro k hk
    ((repeat' ((fail_if_success (show AWp _ _ _ (Code.region 11 _ _) _ _)); first | refine Zad ?_ | (refine Zab tok (by rfl) ?_; conv => whnf) | refine Zaf ?_ | (refine Zai ?_; conv => whnf) | (refine Zan ?_; conv => whnf) | refine Zah rfl (fun hb => ?_) (fun hb => ?_) | (refine @And.intro (Zaa _ _ _ _) _ ?_ ?_; rotate_left; (conv => whnf); rotate_right))); all_goals (try ((guard_target = Zaa _ _ _ _); refine Zae ?_; (all_goals (try simp only [Zaa, kzz, kz11, kz12, maxL, Zac] at *)); all_goals omega)))
    · have hkl : k < bs.length := by simp only [decide_eq_true_eq] at hb; omega
      clear hb
      have hzk : 0 + (k : Int).toNat = k := by simp
      have hbk := hbl2 k hkl
      refine fAV (y := .rs (27, 8, 0) 14 0 bs.length) (show sel (Nat.blt i i) _ (sel (Nat.beq i i) _ _) = _ by rw [Zbr (Nat.le_refl _), Zee]) ?_
      conv => whnf
      ((repeat' ((fail_if_success (show AWp _ _ _ (Code.region 11 _ _) _ _)); first | refine Zad ?_ | (refine @And.intro (Zaa _ _ _ _) _ ?_ ?_; rotate_left; (conv => whnf); rotate_right))); all_goals (try ((guard_target = Zaa _ _ _ _); refine Zae ?_; (all_goals (try simp only [Zaa, kzz, kz11, kz12, maxL, Zac] at *)); all_goals omega)))
      refine Zat (Weak.fam (tl := [(1, .bp (1, 0, 0) 0), (2, .bp (2, 0, 0) 0), (14, iv fs.length), (15, iv i), (4, .rp (10, 0, 0) 3 i 0), (34, iv bs.length), (35, iv k), (6, .rp (27, 8, 0) 14 k 0)]) (hl := [((1, 0, 0), .row false 1 1 (fun _ => [.rs (10, 0, 0) 3 0 fs.length])), ((2, 0, 0), Za6 [.nsl]), ((10, 0, 0), funR fs i (fun j => sel (Nat.beq j i) (.rs (27, 8, 0) 14 0 bs.length) (Zce (fs.getD j default).blocks))), ((27, 8, 0), blkR i bs k (fun q => inss (bs.getD q default).ins))]) (F := treeF fs i k) [] rfl (fun i hi => by cases hi) ?_ ?_ ?_ (fun i hi => by cases hi)) ?_
      · (repeat' first | exact TLg.nil | refine TLg.cons (GV.imm rfl) ?_ | refine TLg.cons (GV.bp rfl rfl) ?_ | refine TLg.cons (GV.rp rfl rfl ?_) ?_)
        all_goals first | rfl | exact hzk
      · refine .old rfl rfl (GB.one (.cons (.rs rfl rfl rfl rfl) .nil) (fun e => by cases e)) (.old rfl rfl (GB.one (GVs.imm rfl) (fun _ => rfl)) (.old rfl rfl (GB_fun (fun j hj => keep_fun (fun h => Zbd h) rfl rfl rfl rfl)) (.old rfl rfl (Zd4 (fun q hq => ?_)) .nil)))
        by_cases hqk : q < k
        · exact .cc (Zbg hqk) (Zbg hqk) (.rs (b := insR ((fs.getD i default).blocks.getD q default).ins) (Za7 (.inr ⟨rfl, hqk⟩)) rfl rfl rfl)
        · exact .cc (Zbr (by omega)) (Zbr (by omega)) (.imm rfl)
      · intro j b e
        rcases Zb9 e with ⟨p, rfl, hp, rfl⟩ | ⟨p, q, rfl, hp, rfl⟩
        · exact HOk.mk rfl (b0 := blkR p (fs.getD p default).blocks (fs.getD p default).blocks.length (fun _ => .any)) (Zbd hp) (Zd4 (fun q hq => .cc (Zbg hq) (Zbg hq) (.rs (b := insR ((fs.getD p default).blocks.getD q default).ins) (Za7 (.inl ⟨hp, hq⟩)) rfl rfl rfl)))
        · exact HOk.mk rfl (b0 := insR ((fs.getD p default).blocks.getD q default).ins) (Za7 hp) (GB_ins _)
      conv => whnf
      refine (Za2 tok mix (by rfl) ?_)
      conv => whnf
      refine @And.intro (Zaa _ _ _ _) _ ?_ ?_
      · ((guard_target = Zaa _ _ _ _); refine Zae ?_; (all_goals (try simp only [Zaa, kzz, kz11, kz12, maxL, Zac] at *)); all_goals omega)
      conv => whnf
      refine .inl ⟨_, _, _, uG (QC.fo (rd := []) (c_CloneU16s (bs.getD k default).pad.catch_) (Ress.imms rfl) (.inl rfl) rfl), ?_⟩
      conv => whnf
      refine @And.intro (Zaa _ _ _ _) _ ?_ ?_
      · ((guard_target = Zaa _ _ _ _); refine Zae ?_; (all_goals (try simp only [Zaa, kzz, kz11, kz12, maxL, Zac] at *)); all_goals omega)
      conv => whnf
      refine fAV (y := inss (bs.getD k default).ins) (show sel (Nat.blt k k) _ _ = _ from Zbr (Nat.le_refl _)) ?_
      conv => whnf
      refine .inl ⟨_, _, _, uG (QC.fo (rd := []) (c_CloneIns (bs.getD k default).ins) (Ress.imms rfl) (.inl rfl) rfl), ?_⟩
      conv => whnf
      refine @And.intro (Zaa _ _ _ _) _ ?_ ?_
      · ((guard_target = Zaa _ _ _ _); refine Zae ?_; (all_goals (try simp only [Zaa, kzz, kz11, kz12, maxL, Zac] at *)); all_goals omega)
      conv => whnf
      refine .inl ⟨_, _, _, uG (QC.fo (rd := []) (Ze2 (bs.getD k default).fin.args) (Ress.imms rfl) (.inl rfl) rfl), ?_⟩
      conv => whnf
      refine @And.intro (Zaa _ _ _ _) _ ?_ ?_
      · ((guard_target = Zaa _ _ _ _); refine Zae ?_; (all_goals (try simp only [Zaa, kzz, kz11, kz12, maxL, Zac] at *)); all_goals omega)
      conv => whnf
      refine @And.intro (Zaa _ _ _ _) _ ?_ ?_
      · ((guard_target = Zaa _ _ _ _); refine Zae ?_; (all_goals (try simp only [Zaa, kzz, kz11, kz12, maxL, Zac] at *)); all_goals omega)
      conv => whnf
      refine @And.intro (Zaa _ _ _ _) _ ?_ ?_
      · ((guard_target = Zaa _ _ _ _); refine Zae ?_; (all_goals (try simp only [Zaa, kzz, kz11, kz12, maxL, Zac] at *)); all_goals omega)
      conv => whnf
      refine Zat (Weak.fam (tl := [(1, .bp (1, 0, 0) 0), (2, .bp (2, 0, 0) 0), (14, iv fs.length), (15, iv i), (4, .rp (10, 0, 0) 3 i 0), (34, iv bs.length), (35, iv k), (6, .rp (27, 8, 0) 14 k 0)]) (hl := [((1, 0, 0), .row false 1 1 (fun _ => [.rs (10, 0, 0) 3 0 fs.length])), ((2, 0, 0), Za6 [.nsl]), ((10, 0, 0), funR fs i (fun j => sel (Nat.beq j i) (.rs (27, 8, 0) 14 0 bs.length) (Zce (fs.getD j default).blocks))), ((27, 8, 0), blkR i bs k (fun q => sel (Nat.beq q k) (.rs (57, 0, 0) 7 0 (bs.getD k default).ins.length) (inss (bs.getD q default).ins))), ((57, 0, 0), insR (bs.getD k default).ins)]) (F := treeF fs i k) [] rfl (fun i hi => by cases hi) ?_ ?_ ?_ (fun i hi => by cases hi)) ?_
      · (repeat' first | exact TLg.nil | refine TLg.cons (GV.imm rfl) ?_ | refine TLg.cons (GV.bp rfl rfl) ?_)
      · refine .old rfl rfl (GB.one (.cons (.rs rfl rfl rfl rfl) .nil) (fun e => by cases e)) (.old rfl rfl (GB.one (GVs.imm rfl) (fun _ => rfl)) (.old rfl rfl (GB_fun (fun j hj => keep_fun (fun h => Zbd h) rfl rfl rfl rfl)) (.old rfl rfl (GB.row (Nat.le_refl _) (fun q hq => ?_) (fun e => by cases e)) (.old rfl rfl (GB_ins _) .nil))))
        by_cases hqk : q = k
        · subst hqk
          repeat rw [updR_self]
          refine .cons (.imm rfl) (.cons (.imm rfl) (.cons (.frz (hd_of rfl (tree_hd0 rfl)) rfl (Nat.le_of_eq (Nat.zero_add _)) rfl (fun x hx => GVs.eqI rfl (by rw [Nat.zero_add])) (fun _ _ => rfl)) (.cons (.imm rfl) (.cons (.imm rfl) (.cons (.cc (x' := .rs (57, 0, 0) 7 0 (bs.getD q default).ins.length) rfl (show sel (Nat.blt q q) _ (sel (Nat.beq q q) _ _) = _ by rw [Zbr (Nat.le_refl _), Zee]) (.rs rfl rfl rfl rfl)) (.cons (.imm rfl) (.cons (.imm rfl) (.cons (.imm rfl) (.cons (.imm rfl) (.cons (.frz (hd_of rfl (tree_hd0 rfl)) rfl (Nat.le_of_eq (Nat.zero_add _)) rfl (fun x hx => GVs.eqI rfl (by rw [Nat.zero_add])) (fun _ _ => rfl)) (.cons (.imm rfl) (.cons (.imm rfl) (.cons (.imm rfl) .nil)))))))))))))
        · refine GVs.upd (fun e => absurd e hqk) (fun _ => GVs.upd (fun e => absurd e hqk) (fun _ => GVs.upd (fun e => absurd e hqk) (fun _ => GVs_blk ?_)))
          by_cases hlt2 : q < k
          · exact .cc (Zbg hlt2) (Zbg hlt2) (.rs (b := insR ((fs.getD i default).blocks.getD q default).ins) (Za7 (.inr ⟨rfl, hlt2⟩)) rfl rfl rfl)
          · exact .cc (Zbr (by omega)) (show sel _ _ (sel (Nat.beq q k) _ _) = _ by rw [Zbr (by omega), sel_ne hqk]) (.imm rfl)
      · intro j b e
        rcases Zb9 e with ⟨p, rfl, hp, rfl⟩ | ⟨p, q, rfl, hp, rfl⟩
        · exact HOk.mk rfl (b0 := blkR p (fs.getD p default).blocks (fs.getD p default).blocks.length (fun _ => .any)) (Zbd hp) (Zd4 (fun q hq => .cc (Zbg hq) (Zbg hq) (.rs (b := insR ((fs.getD p default).blocks.getD q default).ins) (Za7 (.inl ⟨hp, hq⟩)) rfl rfl rfl)))
        · exact HOk.mk rfl (b0 := insR ((fs.getD p default).blocks.getD q default).ins) (Za7 hp) (GB_ins _)
      refine Zad ?_
      refine (Zab tok (by rfl) ?_)
      conv => whnf
      refine @And.intro (Zaa _ _ _ _) _ ?_ ?_
      · ((guard_target = Zaa _ _ _ _); refine Zae ?_; (all_goals (try simp only [Zaa, kzz, kz11, kz12, maxL, Zac] at *)); all_goals omega)
      conv => whnf
      refine fAV (y := .rs (57, 0, 0) 7 0 (bs.getD k default).ins.length) (show sel (Nat.blt k k) _ (sel (Nat.beq k k) _ _) = _ by rw [Zbr (Nat.le_refl _), Zee]) ?_
      conv => whnf
      (repeat' refine Zaf ?_)
      refine Zap (fun j : Nat => mkF [(1, .bp (1, 0, 0) 0), (2, .bp (2, 0, 0) 0), (14, iv fs.length), (15, iv i), (4, .rp (10, 0, 0) 3 i 0), (34, iv bs.length), (35, iv k), (6, .rp (27, 8, 0) 14 k 0), (76, iv (bs.getD k default).ins.length), (77, iv j)] [((1, 0, 0), .row false 1 1 (fun _ => [.rs (10, 0, 0) 3 0 fs.length])), ((2, 0, 0), Za6 [.nsl]), ((10, 0, 0), funR fs i (fun j => sel (Nat.beq j i) (.rs (27, 8, 0) 14 0 bs.length) (Zce (fs.getD j default).blocks))), ((27, 8, 0), blkR i bs k (fun q => sel (Nat.beq q k) (.rs (57, 0, 0) 7 0 (bs.getD k default).ins.length) (inss (bs.getD q default).ins))), ((57, 0, 0), insR (bs.getD k default).ins)] (treeF fs i k)) (fun j => j ≤ (bs.getD k default).ins.length) (fun j => (bs.getD k default).ins.length - j) 0 (Nat.zero_le _) ?_ ?_
      · refine Weak.fam [] rfl (fun i hi => by cases hi) ?_ ?_ ?_ (fun i hi => by cases hi)
        · (repeat' first | exact TLg.nil | refine TLg.cons (GV.imm rfl) ?_ | refine TLg.cons (GV.bp rfl rfl) ?_)
        · exact .old rfl rfl (GB.one (.cons (.rs rfl rfl rfl rfl) .nil) (fun e => by cases e)) (.old rfl rfl (GB.one (GVs.imm rfl) (fun _ => rfl)) (.old rfl rfl (GB_fun (fun j hj => keep_fun (fun h => Zbd h) rfl rfl rfl rfl)) (.old rfl rfl (Zd4 (fun q hq => keep_blk (fun h => Za7 (.inr ⟨rfl, h⟩)) rfl rfl rfl)) (.old rfl rfl (GB_ins _) .nil))))
        · intro j b e
          rcases Zb9 e with ⟨p, rfl, hp, rfl⟩ | ⟨p, q, rfl, hp, rfl⟩
          · exact HOk.mk rfl (b0 := blkR p (fs.getD p default).blocks (fs.getD p default).blocks.length (fun _ => .any)) (Zbd hp) (Zd4 (fun q hq => .cc (Zbg hq) (Zbg hq) (.rs (b := insR ((fs.getD p default).blocks.getD q default).ins) (Za7 (.inl ⟨hp, hq⟩)) rfl rfl rfl)))
          · exact HOk.mk rfl (b0 := insR ((fs.getD p default).blocks.getD q default).ins) (Za7 hp) (GB_ins _)
      intro j hj
      (repeat' ((fail_if_success (show AWp _ _ _ (Code.region 15 _ _) _ _)); first | refine Zad ?_ | (refine Zab tok (by rfl) ?_; conv => whnf) | refine Zaf ?_ | (refine Zai ?_; conv => whnf) | (refine Zan ?_; conv => whnf) | refine Zah rfl (fun hb => ?_) (fun hb => ?_)))
      · have hjl : j < (bs.getD k default).ins.length := by simp only [decide_eq_true_eq] at hb; omega
        clear hb
        have hzj : 0 + (j : Int).toNat = j := by simp
        refine (Za2 tok mix (by rfl) ?_)
        conv => whnf
        refine @And.intro (Zaa _ _ _ _) _ ?_ ?_
        · ((guard_target = Zaa _ _ _ _); refine Zae ?_; (all_goals (try simp only [Zaa, kzz, kz11, kz12, maxL, Zac] at *)); all_goals omega)
        conv => whnf
        refine fAV (y := .rs (57, 0, 0) 7 0 (bs.getD k default).ins.length) (show sel (Nat.blt k k) _ (sel (Nat.beq k k) _ _) = _ by rw [Zbr (Nat.le_refl _), Zee]) ?_
        conv => whnf
        refine @And.intro (Zaa _ _ _ _) _ ?_ ?_
        · ((guard_target = Zaa _ _ _ _); refine Zae ?_; (all_goals (try simp only [Zaa, kzz, kz11, kz12, maxL, Zac] at *)); all_goals omega)
        conv => whnf
        refine fAV (y := .rs (57, 0, 0) 7 0 (bs.getD k default).ins.length) (show sel (Nat.blt k k) _ (sel (Nat.beq k k) _ _) = _ by rw [Zbr (Nat.le_refl _), Zee]) ?_
        conv => whnf
        refine @And.intro (Zaa _ _ _ _) _ ?_ ?_
        · ((guard_target = Zaa _ _ _ _); refine Zae ?_; (all_goals (try simp only [Zaa, kzz, kz11, kz12, maxL, Zac] at *)); all_goals omega)
        conv => whnf
        refine @And.intro (Zaa _ _ _ _) _ ?_ ?_
        · ((guard_target = Zaa _ _ _ _); refine Zae ?_; (all_goals (try simp only [Zaa, kzz, kz11, kz12, maxL, Zac] at *)); all_goals omega)
        conv => whnf
        refine .inl ⟨_, _, _, uG (QC.fo (rd := []) (Ze2 ((bs.getD k default).ins.getD (0 + (j : Int).toNat) default).args) (Ress.imms rfl) (.inl rfl) rfl), ?_⟩
        conv => whnf
        ((repeat' first | (refine Zab tok (by rfl) ?_; conv => whnf) | (refine @And.intro (Zaa _ _ _ _) _ ?_ ?_; rotate_left; (conv => whnf); rotate_right)); all_goals (try ((guard_target = Zaa _ _ _ _); refine Zae ?_; (all_goals (try simp only [Zaa, kzz, kz11, kz12, maxL, Zac] at *)); all_goals omega)))
        refine ⟨j + 1, by omega, by omega, ?_⟩
        refine Weak.fam [] rfl (fun i hi => by cases hi) ?_ ?_ ?_ (fun i hi => by cases hi)
        · (repeat' first | exact TLg.nil | refine TLg.cons (GV.imm rfl) ?_ | refine TLg.cons (GV.bp rfl rfl) ?_ | refine TLg.cons (GV.int ?_) ?_)
          all_goals first | rfl | (simp (disch := omega) only [wrap64]; omega) | omega
        · refine .old rfl rfl (GB.one (.cons (.rs rfl rfl rfl rfl) .nil) (fun e => by cases e)) (.old rfl rfl (GB.one (GVs.imm rfl) (fun _ => rfl)) (.old rfl rfl (GB_fun (fun j hj => keep_fun (fun h => Zbd h) rfl rfl rfl rfl)) (.old rfl rfl (Zd4 (fun q hq => keep_blk (fun h => Za7 (.inr ⟨rfl, h⟩)) rfl rfl rfl)) (.old rfl rfl (GB.row (Nat.le_refl _) (fun q hq => GVs.upd (fun e => ?_) (fun _ => GVs.imm rfl)) (fun _ _ _ => rfl)) .nil))))
          rw [hzj] at e; subst e
          rw [hzj]
          exact .cons (.imm rfl) (.cons (.imm rfl) (.cons (.imm rfl) (.cons (.imm rfl) (.cons (.imm rfl) (.cons (.imm rfl) (.cons (.frz (hd_of rfl (tree_hd0 rfl)) rfl (Nat.le_of_eq (Nat.zero_add _)) rfl (fun x hx => GVs.eqI rfl (by rw [Nat.zero_add])) (fun _ _ => rfl)) .nil))))))
        · intro j b e
          rcases Zb9 e with ⟨p, rfl, hp, rfl⟩ | ⟨p, q, rfl, hp, rfl⟩
          · exact HOk.mk rfl (b0 := blkR p (fs.getD p default).blocks (fs.getD p default).blocks.length (fun _ => .any)) (Zbd hp) (Zd4 (fun q hq => .cc (Zbg hq) (Zbg hq) (.rs (b := insR ((fs.getD p default).blocks.getD q default).ins) (Za7 (.inl ⟨hp, hq⟩)) rfl rfl rfl)))
          · exact HOk.mk rfl (b0 := insR ((fs.getD p default).blocks.getD q default).ins) (Za7 hp) (GB_ins _)
      · have hjl : j = (bs.getD k default).ins.length := by simp only [decide_eq_false_iff_not] at hb; omega
        clear hb
        skip
        refine ⟨k + 1, hkl, by omega, ?_⟩
        refine Weak.fam [((1001, i, k), some (57, 0, 0))] rfl (fun i hi => by simp only [tgts, List.mem_singleton] at hi; subst hi; exact .inl rfl) ?_ ?_ ?_ (fun i hi => by cases hi)
        · (repeat' first | exact TLg.nil | refine TLg.cons (GV.imm rfl) ?_ | refine TLg.cons (GV.bp rfl rfl) ?_ | refine TLg.cons (GV.int ?_) ?_)
          all_goals first | rfl | (simp (disch := omega) only [wrap64]; omega) | omega
        · refine .old rfl rfl (GB.one (.cons (.rs rfl rfl rfl rfl) .nil) (fun e => by cases e)) (.old rfl rfl (GB.one (GVs.imm rfl) (fun _ => rfl)) (.old rfl rfl (GB_fun (fun j hj => keep_fun (fun h => Zbd h) rfl rfl rfl rfl)) (.old rfl rfl (Zd4 (fun q hq => ?_)) .nil)))
          by_cases h1 : q < k
          · exact .cc (Zbg h1) (Zbg (by omega)) (.rs (b := insR ((fs.getD i default).blocks.getD q default).ins) (Za7 (.inr ⟨rfl, by omega⟩)) (srcL_miss (fun e => by cases e; omega)) rfl rfl)
          · by_cases h2 : q = k
            · subst h2
              exact .cc (show sel _ _ (sel (Nat.beq q q) _ _) = _ by rw [Zbr (Nat.le_refl _), Zee]) (Zbg (by omega)) (.rs (b := insR ((fs.getD i default).blocks.getD q default).ins) (Za7 (.inr ⟨rfl, by omega⟩)) srcL_hit rfl rfl)
            · exact .cc (show sel _ _ (sel (Nat.beq q k) _ _) = _ by rw [Zbr (by omega), sel_ne h2]) (Zbr (by omega)) (.imm rfl)
        · intro j b e
          rcases Zb9 e with ⟨p, rfl, hp, rfl⟩ | ⟨p, q, rfl, hp, rfl⟩
          · exact HOk.mk rfl (b0 := blkR p (fs.getD p default).blocks (fs.getD p default).blocks.length (fun _ => .any)) (Zbd hp) (Zd4 (fun q hq => .cc (Zbg hq) (Zbg hq) (.rs (b := insR ((fs.getD p default).blocks.getD q default).ins) (Za7 (.inl ⟨hp, hq⟩)) (srcL_miss (fun e => by cases e; omega)) rfl rfl)))
          · by_cases h2 : p = i ∧ q = k
            · obtain ⟨rfl, rfl⟩ := h2
              exact HOk.mk srcL_hit (b0 := insR (bs.getD q default).ins) rfl (by rw [← hbs]; exact GB_ins _)
            · exact HOk.mk (srcL_miss (fun e => h2 (by cases e; exact ⟨rfl, rfl⟩))) (b0 := insR ((fs.getD p default).blocks.getD q default).ins) (Za7 (by omega)) (GB_ins _)
    · have hkl : k = bs.length := by simp only [decide_eq_false_iff_not] at hb; omega
      clear hb
      skip
      refine ⟨i + 1, hlt, by omega, ?_⟩
      subst hkl
      refine Weak.fam [((1000, i, 0), some (27, 8, 0))] rfl (fun i hi => by simp only [tgts, List.mem_singleton] at hi; subst hi; exact .inl rfl) ?_ ?_ ?_ (fun i hi => by cases hi)
      · (repeat' first | exact TLg.nil | refine TLg.cons (GV.imm rfl) ?_ | refine TLg.cons (GV.bp rfl rfl) ?_ | refine TLg.cons (GV.int ?_) ?_)
        all_goals first | rfl | (simp (disch := omega) only [wrap64]; omega) | omega
      · refine .old rfl rfl (GB.one (.cons (.rs rfl rfl rfl rfl) .nil) (fun e => by cases e)) (.old rfl rfl (GB.one (GVs.imm rfl) (fun _ => rfl)) (.old rfl rfl (GB_fun (fun j hj => ?_)) .nil))
        by_cases h1 : j < i
        · exact .cc (Zbg h1) (Zbg (by omega)) (.rs (b := blkR j (fs.getD j default).blocks (fs.getD j default).blocks.length (fun _ => .any)) (Zbd (by omega)) (srcL_miss (fun e => by cases e; omega)) rfl rfl)
        · by_cases h2 : j = i
          · subst h2
            exact .cc (show sel _ _ (sel (Nat.beq j j) _ _) = _ by rw [Zbr (Nat.le_refl _), Zee]) (Zbg (by omega)) (.rs (b := blkR j (fs.getD j default).blocks (fs.getD j default).blocks.length (fun _ => .any)) (Zbd (by omega)) srcL_hit rfl (by rw [hbs]))
          · exact .cc (show sel _ _ (sel (Nat.beq j i) _ _) = _ by rw [Zbr (by omega), sel_ne h2]) (Zbr (by omega)) (.imm rfl)
      · intro j b e
        rcases Zb9 e with ⟨p, rfl, hp, rfl⟩ | ⟨p, q, rfl, hp, rfl⟩
        · by_cases h2 : p = i
          · subst h2
            refine HOk.mk srcL_hit (b0 := blkR p bs bs.length (fun q => inss (bs.getD q default).ins)) rfl ?_
            rw [hbs]
            exact Zd4 (fun q hq => .cc (Zbg hq) (Zbg hq) (.rs (b := insR ((fs.getD p default).blocks.getD q default).ins) (Za7 (.inl ⟨hp, by rw [hbs]; exact hq⟩)) rfl rfl rfl))
          · exact HOk.mk (srcL_miss (fun e => h2 (by cases e; rfl))) (b0 := blkR p (fs.getD p default).blocks (fs.getD p default).blocks.length (fun _ => .any)) (Zbd (by omega)) (Zd4 (fun q hq => .cc (Zbg hq) (Zbg hq) (.rs (b := insR ((fs.getD p default).blocks.getD q default).ins) (Za7 (.inl ⟨hp, hq⟩)) rfl rfl rfl)))
        · refine HOk.mk rfl (b0 := insR ((fs.getD p default).blocks.getD q default).ins) (Za7 ?_) (GB_ins _)
          by_cases h2 : p = i
          · subst h2; rw [hbs] at hp; omega
          · omega
  · have hil : i = fs.length := by simp only [decide_eq_false_iff_not] at hb; omega
    clear hb
    subst hil
    refine ⟨_, srcL [((900, 0, 0), some (10, 0, 0))], rfl, srcL_inj rfl (fun i hi => by simp only [tgts, List.mem_singleton] at hi; subst hi; exact .inl rfl), ?_, ?_⟩
    · intro j b e
      rcases orH_some e with e | ⟨_, e⟩
      · simp only [Za9] at e
        cases e2 : idEq (900, 0, 0) j with
        | false => rw [e2] at e; cases e
        | true =>
          have := Za5.1 e2; subst this
          rw [e2] at e; cases e
          exact HOk.mk rfl (b0 := funR fs fs.length (fun j => Zce (fs.getD j default).blocks)) rfl (GB_fun (fun j hj => .cc (Zbg hj) (Zbg hj) (.rs (b := blkR j (fs.getD j default).blocks (fs.getD j default).blocks.length (fun _ => .any)) (Zbd hj) rfl rfl rfl)))
      · rcases Zb9 e with ⟨p, rfl, hp, rfl⟩ | ⟨p, q, rfl, hp, rfl⟩
        · exact HOk.mk rfl (b0 := blkR p (fs.getD p default).blocks (fs.getD p default).blocks.length (fun _ => .any)) (Zbd hp) (Zd4 (fun q hq => .cc (Zbg hq) (Zbg hq) (.rs (b := insR ((fs.getD p default).blocks.getD q default).ins) (Za7 (.inl ⟨hp, hq⟩)) rfl rfl rfl)))
        · exact HOk.mk rfl (b0 := insR ((fs.getD p default).blocks.getD q default).ins) (Za7 hp) (GB_ins _)
    · exact .agg (.cons (.rs rfl rfl rfl rfl) .nil)
end Go.Proofs.Ytbcocllokcimeaa
namespace Go.Proofs.Ytbcocllokcimeaa
open Go Dv
set_option maxRecDepth 10000
set_option linter.unusedSimpArgs false
abbrev rowX (β : Nat → AV) (n : Nat) : Zak := .row true 1 n (fun q => [β q])
theorem c_mergeX (f : Func) (A : List (List Bool)) (β : Nat → AV) (na nb n : Nat) (g : Nat → Bool) (blk : Nat) (but : Int) (hb : blk < na) (hn : (A.getD blk []).length ≤ n) :
    HC Try.prog [k0, k1, k2, k3] 34 [(k0, sBox f k1 k2 na nb), (k1, setR A na), (k2, rowX β nb), (k3, Zav n g)] [.bp k0 0, .rs k3 1 0 n, iv blk, iv but] (.tup [])
      [(k0, sBox f k1 k2 na nb), (k1, setR A na), (k2, rowX β nb), (k3, Zav n (mgF g (A.getD blk []) but (A.getD blk []).length))] := by
  refine Zbf tok Try.func34 rfl (by decide +kernel) (Nat.le_of_ble_eq_true rfl) ?_
  have hmx : maxL = 4294967296 := rfl
  ((repeat' ((fail_if_success (show AWp _ _ _ (Code.region 1 _ _) _ _)); first | refine Zad ?_ | (refine Zab tok (by rfl) ?_; conv => whnf) | refine Zaf ?_ | (refine @And.intro (Zaa _ _ _ _) _ ?_ ?_; rotate_left; (conv => whnf); rotate_right))); all_goals (try ((guard_target = Zaa _ _ _ _); refine Zae ?_; (all_goals (try simp only [Zaa, kz1, kz2, kz3, kz4, kz5, kz6, kz7, kz8, kz9, kz10, kz11, kz12, kz13, kz14, kz15, kz16, kz17, kz18, kz19, kz20, maxL, Zac] at *)); all_goals omega)))
  refine Zar 16 (fun hl => ?_)
  have hl0 : (A.getD (0 + (blk : Int).toNat) []).length ≤ maxL := hl.1
  clear hl
  have ha : A.getD (0 + (blk : Int).toNat) [] = A.getD blk [] := by simp
  have hgen : ∃ a, A.getD blk [] = a := ⟨_, rfl⟩
  obtain ⟨a, haa⟩ := hgen
  rw [haa] at hn ha ⊢
  rw [ha] at hl0
  refine Zap (fun p : Nat => mkS [(1, .rs k3 1 0 n), (3, iv but), (16, bools a), (17, iv a.length), (18, iv p)] [((1, 7, 0), sBox f k1 k2 na nb), ((2, 7, 0), setR A na), ((3, 7, 0), rowX β nb), ((4, 7, 0), Zav n (mgF g a but p))]) (fun p => p ≤ a.length) (fun p => a.length - p) 0 (Nat.zero_le _) ?_ ?_
  · refine Weak.list [((1, 7, 0), .old (1, 7, 0), sBox f k1 k2 na nb), ((2, 7, 0), .old (2, 7, 0), setR A na), ((3, 7, 0), .old (3, 7, 0), rowX β nb), ((4, 7, 0), .old (4, 7, 0), Zav n (mgF g a but 0))] rfl (by rfl) ?_ (.old rfl (BLe.rowO rfl) (.old rfl (BLe.refl _) (.old rfl (BLe.refl _) (.old rfl (BLe.refl _) .nil))))
    rw [← ha]
    ((repeat' first | exact TLes.nil | refine TLes.cons (TLe.eq rfl) ?_); skip)
  intro p hp
  (repeat' ((fail_if_success (show AWp _ _ _ (Code.region 2 _ _) _ _)); first | refine Zad ?_ | (refine Zab tok (by rfl) ?_; conv => whnf) | refine Zaf ?_ | (refine Zai ?_; conv => whnf) | (refine Zan ?_; conv => whnf) | refine Zah rfl (fun hb => ?_) (fun hb => ?_)))
  · have hpl : p < a.length := by simp only [decide_eq_true_eq] at hb; omega
    clear hb
    ((repeat' first | (refine Zab tok (by rfl) ?_; conv => whnf) | (refine @And.intro (Zaa _ _ _ _) _ ?_ ?_; rotate_left; (conv => whnf); rotate_right)); all_goals (try ((guard_target = Zaa _ _ _ _); refine Zae ?_; (all_goals (try simp only [Zaa, kz1, kz2, kz3, kz4, kz5, kz6, kz7, kz8, kz9, kz10, kz11, kz12, kz13, kz14, kz15, kz16, kz17, kz18, kz19, kz20, maxL, Zac] at *)); all_goals omega)))
    refine ⟨p + 1, hpl, by omega, ?_⟩
    refine Weak.list [((1, 7, 0), .old (1, 7, 0), sBox f k1 k2 na nb), ((2, 7, 0), .old (2, 7, 0), setR A na), ((3, 7, 0), .old (3, 7, 0), rowX β nb), ((4, 7, 0), .old (4, 7, 0), Zav n (mgF g a but (p + 1)))] rfl (by rfl) ?_ (.old rfl (BLe.rowO rfl) (.old rfl (BLe.refl _) (.old rfl (BLe.refl _) (.old rfl (BLe.rowW (Nat.le_refl _) (fun z hz => Wks.of ?_)) .nil))))
    · ((repeat' first | exact TLes.nil | refine TLes.cons (TLe.eq rfl) ?_ | refine TLes.cons (TLe.int ?_) ?_); (all_goals first | ((try (simp only [Zaa, kz1, kz2, kz3, kz4, kz5, kz6, kz7, kz8, kz9, kz10, kz11, kz12, kz13, kz14, kz15, kz16, kz17, kz18, kz19, kz20, maxL, Zac] at *)); exact wrap64 (by omega) (by omega)) | skip))
    · have hpp : (p : Int).toNat = p := Int.toNat_natCast p
      by_cases e : p = z
      · subst e
        refine (updR_hit' (f := fun q => [.bool (mgF g a but p q)]) (by rw [hpp, Nat.zero_add])).trans ?_
        rw [hpp, Nat.zero_add]
        unfold mgF
        rw [if_neg (Nat.lt_irrefl p), if_pos (Nat.lt_succ_self p)]
        cases g p <;> cases a.getD p false <;> simp
      · refine (Zeb (f := fun q => [.bool (mgF g a but p q)]) (k := 0 + (p : Int).toNat) (by rw [hpp]; omega)).trans ?_
        unfold mgF
        by_cases h1 : z < p
        · rw [if_pos h1, if_pos (by omega)]
        · rw [if_neg h1, if_neg (by omega)]
  · have hpl : p = a.length := by simp only [decide_eq_false_iff_not] at hb; omega
    subst hpl
    exact ⟨_, [(k0, .old k0, sBox f k1 k2 na nb), (k1, .old k1, setR A na), (k2, .old k2, rowX β nb), (k3, .old k3, Zav n (mgF g a but a.length))], rfl, rfl, rfl, rfl, .old rfl (BLe.rowO rfl) (.old rfl (BLe.refl _) (.old rfl (BLe.refl _) (.old rfl (BLe.refl _) .nil))), .eq rfl⟩
abbrev k5 : Dv.Id := (5, 7, 0)
abbrev rowS (n nb m : Nat) (vals : Nat → Value) : Zak := .row false 1 nb (fun q => [bif Nat.beq q n then .rs k5 1 0 m else .is (vals q)])
theorem BLe_S {ρ : Dv.Id → Option Dv.Id} {n nb m : Nat} {vals : Nat → Value} (h : ρ k5 = some k5) : BLe (Dv.mapB ρ (rowS n nb m vals)) (rowS n nb m vals) := by
  have : Dv.mapB ρ (rowS n nb m vals) = rowS n nb m vals := by
    unfold rowS Dv.mapB
    simp only [cond_false]
    congr 1
    funext q
    show [Zbb ρ (bif Nat.beq q n then .rs k5 1 0 m else .is (vals q))] = _
    cases Nat.beq q n with
    | true => simp only [cond_true, Zbb, h]
    | false => rfl
  rw [this]; exact BLe.refl _
theorem GV_S {src : Dv.Id → Option Dv.Id} {h h' : Zal} {c : Bool} {m : Nat} {v : Value} {b : Zak} (hj : h' k5 = some b) (hs : src k5 = some k5) : GV src h h' (bif c then .rs k5 1 0 m else .is v) (bif c then .rs k5 1 0 m else .is v) := by
  cases c with
  | true => exact .rs hj hs rfl rfl
  | false => exact .imm rfl
set_option maxHeartbeats 4000000 in
theorem c_overX (f : Func) (n : Nat) (A : List (List Bool)) (vals : Nat → Value) (nb : Nat) (hR0 : 0 ≤ f.regs) (hR2 : f.regs ≤ 256) (hA : OkA f A) (hB : nb = f.blocks.length) (hn : n < f.blocks.length) (hfb : f.blocks.length ≤ 64) (hok : OkL f (f.blocks.getD n default)) :
    HC Try.prog [k0, k1, k2] 18 [(k0, sBox f k1 k2 A.length nb), (k1, setR A A.length), (k2, rowX (fun q => .is (vals q)) nb)] [.bp k0 0, iv n] (.bool (decide (Zda A f.regs.toNat f n ≠ A.getD n [])))
      [(k0, sBox f k1 k2 A.length nb), (k1, setR (A.set n (Zda A f.regs.toNat f n)) A.length), (k2, rowS n nb f.regs.toNat vals), (k5, Zav f.regs.toNat (fun q => (newBe A f.regs.toNat f n).getD q false))] := by
  refine Zbf tok Try.func18 rfl (by decide +kernel) (Nat.le_of_ble_eq_true rfl) ?_
  have hmx : maxL = 4294967296 := rfl
  have hAl := hA.len
  have hAe : ∀ i, i < A.length → (A.getD i []).length = f.regs.toNat := fun i hi => by have := hA.each i hi; omega
  have hgen : ∃ b, f.blocks.getD n default = b := ⟨_, rfl⟩
  obtain ⟨b, hbn⟩ := hgen
  unfold Zda newBe
  rw [hbn] at hok ⊢
  ((repeat' ((fail_if_success (show AWp _ _ _ (Code.region 3 _ _) _ _)); first | refine Zad ?_ | (refine Zab tok (by rfl) ?_; conv => whnf) | (refine @And.intro (Zaa _ _ _ _) _ ?_ ?_; rotate_left; (conv => whnf); rotate_right))); all_goals (try ((guard_target = Zaa _ _ _ _); refine Zae ?_; (all_goals (try simp only [Zaa, kzz, kz11, kz12, maxL, Zac] at *)); all_goals omega)))
  refine Zat (Weak.list (tl := [(0, .bp k0 0), (1, iv n), (5, .bp (5, 0, 0) 0), (6, .bp (6, 7, 0) 0)]) [((1, 7, 0), .old (1, 7, 0), sBox f k1 k2 A.length nb), ((2, 7, 0), .old (2, 7, 0), setR A A.length), ((3, 7, 0), .old (3, 7, 0), rowX (fun q => .is (vals q)) nb), ((5, 0, 0), .old (5, 0, 0), .row true 14 1 (fun _ => Zax b)), ((6, 7, 0), .old (6, 0, 0), .row false 1 1 (fun _ => [.rs (32, 0, 0) 1 0 f.regs.toNat])), ((32, 0, 0), .old (32, 0, 0), Zav f.regs.toNat (fun _ => false))] rfl (by rfl) ?_ (.old rfl (BLe.rowO rfl) (.old rfl (BLe.refl _) (.old rfl (BLe.refl _) (.old rfl (BLe.rowW (Nat.le_refl _) (ltS (Wks.of (by rw [← hbn, Int.toNat_natCast]; rfl)) lt0)) (.old rfl (BLe.rowO rfl) (.old rfl (BLe.refl _) .nil))))))) ?_
  · ((repeat' first | exact TLes.nil | refine TLes.cons (TLe.eq rfl) ?_); skip)
  (repeat' (refine Zab tok (by rfl) ?_; conv => whnf))
  refine .inl ⟨_, _, _, uG (QC.fo (rd := []) (c_Goals b) (Ress.imms rfl) (.inl rfl) rfl), ?_⟩
  conv => whnf
  (repeat' refine Zaf ?_)
  have hlen3 : (Zaw b).length ≤ 2 := by
    unfold Zaw; split
    · simp
    · split <;> simp
  refine Zap (fun k : Nat => mkS [(0, .bp k0 0), (1, iv n), (5, .bp (5, 0, 0) 0), (6, .bp (6, 7, 0) 0), (34, .rs (34, 0, 0) 1 0 (Zaw b).length), (35, iv (Zaw b).length), (36, iv k)] [((1, 7, 0), sBox f k1 k2 A.length nb), ((2, 7, 0), setR A A.length), ((3, 7, 0), rowX (fun q => .is (vals q)) nb), ((5, 0, 0), .row true 14 1 (fun _ => Zax b)), ((6, 7, 0), .row false 1 1 (fun _ => [.rs (32, 0, 0) 1 0 f.regs.toNat])), ((32, 0, 0), Zav f.regs.toNat (Zbl A f.regs.toNat b ((Zaw b).take k))), ((34, 0, 0), .row true 1 (Zaw b).length (fun i => [iv ((Zaw b).getD i 0)]))]) (fun k => k ≤ (Zaw b).length) (fun k => (Zaw b).length - k) 0 (Nat.zero_le _) ?_ ?_
  · refine Weak.list [((1, 7, 0), .old (1, 7, 0), sBox f k1 k2 A.length nb), ((2, 7, 0), .old (2, 7, 0), setR A A.length), ((3, 7, 0), .old (3, 7, 0), rowX (fun q => .is (vals q)) nb), ((5, 0, 0), .old (5, 0, 0), .row true 14 1 (fun _ => Zax b)), ((6, 7, 0), .old (6, 7, 0), .row false 1 1 (fun _ => [.rs (32, 0, 0) 1 0 f.regs.toNat])), ((32, 0, 0), .old (32, 0, 0), Zav f.regs.toNat (Zbl A f.regs.toNat b ((Zaw b).take 0))), ((34, 0, 0), .old (34, 0, 0), .row true 1 (Zaw b).length (fun i => [iv ((Zaw b).getD i 0)]))] rfl (by rfl) ?_ (.old rfl (BLe.rowO rfl) (.old rfl (BLe.refl _) (.old rfl (BLe.refl _) (.old rfl (BLe.refl _) (.old rfl (BLe.rowO rfl) (.old rfl (BLe.refl _) (.old rfl (BLe.refl _) .nil)))))))
    ((repeat' first | exact TLes.nil | refine TLes.cons (TLe.eq rfl) ?_); skip)
  intro k hk
  (repeat' ((fail_if_success (show AWp _ _ _ (Code.region 5 _ _) _ _)); (fail_if_success (show AWp _ _ _ (Code.region 11 _ _) _ _)); first | refine Zad ?_ | (refine Zab tok (by rfl) ?_; conv => whnf) | refine Zaf ?_ | (refine Zai ?_; conv => whnf) | (refine Zan ?_; conv => whnf) | refine Zah rfl (fun hb => ?_) (fun hb => ?_)))
  · have hkl : k < (Zaw b).length := by simp only [decide_eq_true_eq] at hb; omega
    clear hb
    have hsucc := gGoals_succ (A := A) (R := f.regs.toNat) (b := b) hkl
    have hgk := hok.goals _ (Zcq 0 hkl)
    have hgen : ∃ q : Nat, (Zaw b).getD k 0 = q := ⟨((Zaw b).getD k 0).toNat, by omega⟩
    obtain ⟨q, hq⟩ := hgen
    rw [hq] at hsucc hgk
    have hAq := hAe q (by omega)
    rw [Int.toNat_natCast] at hsucc
    have hcall : ∀ x y, x = (Zaw b).getD (k : Int).toNat 0 → y = butOf b → HC Try.prog [k0, k1, k2, k3] 34 [(k0, sBox f k1 k2 A.length nb), (k1, setR A A.length), (k2, rowX (fun q => .is (vals q)) nb), (k3, Zav f.regs.toNat (Zbl A f.regs.toNat b ((Zaw b).take k)))] [.bp k0 0, .rs k3 1 0 f.regs.toNat, iv x, iv y] (.tup [])
        [(k0, sBox f k1 k2 A.length nb), (k1, setR A A.length), (k2, rowX (fun q => .is (vals q)) nb), (k3, Zav f.regs.toNat (Zbl A f.regs.toNat b ((Zaw b).take (k + 1))))] := fun x y e1 e2 => by
      have := c_mergeX f A (fun q => .is (vals q)) A.length nb f.regs.toNat (Zbl A f.regs.toNat b ((Zaw b).take k)) q y (by omega) (by omega)
      rw [hAq, e2] at this
      rw [hsucc, e1, e2, Int.toNat_natCast, hq]; exact this
    ((repeat' ((fail_if_success (show AWp _ _ _ (Code.region 9 _ _) _ _)); first | refine Zad ?_ | (refine Zab tok (by rfl) ?_; conv => whnf) | (refine Zai ?_; conv => whnf) | refine Zah rfl (fun hb => ?_) (fun hb => ?_) | (refine @And.intro (Zaa _ _ _ _) _ ?_ ?_; rotate_left; (conv => whnf); rotate_right))); all_goals (try ((guard_target = Zaa _ _ _ _); refine Zae ?_; (all_goals (try simp only [Zaa, kzz, kz11, kz12, maxL, Zac] at *)); all_goals omega)))
    · have hbo : butOf b = b.fin.dst := by unfold butOf; rw [if_pos (by simpa using hb)]
      clear hb
      (repeat' (refine Zab tok (by rfl) ?_; conv => whnf))
      refine .inr ⟨_, _, _, uG (QH.of (dead := []) [(k0, .old k0, sBox f k1 k2 A.length nb), (k1, .old k1, setR A A.length), (k2, .old k2, rowX (fun q => .is (vals q)) nb), (k3, .old (32, 0, 0), Zav f.regs.toNat (Zbl A f.regs.toNat b ((Zaw b).take k)))] (hcall ((Zaw b).getD (0 + (k : Int).toNat) 0) b.fin.dst (by rw [Nat.zero_add]) hbo.symm) rfl (.old rfl (BLe.rowO rfl) (.old rfl (BLe.refl _) (.old rfl (BLe.refl _) (.old rfl (BLe.refl _) .nil)))) (.cons (.eq rfl) (.cons (.eq rfl) (.cons (.eq rfl) (.cons (.eq rfl) .nil)))) [(k0, k0), (k1, k1), (k2, k2), (k3, (32, 0, 0))] rfl (.cons rfl (BLe.rowO rfl) (.cons rfl (BLe.refl _) (.cons rfl (BLe.refl _) (.cons rfl (BLe.refl _) .nil)))) rfl), ?_⟩
      conv => whnf
      (repeat' (refine Zab tok (by rfl) ?_; conv => whnf))
      refine ⟨k + 1, hkl, by omega, ?_⟩
      refine Weak.list [((1, 7, 0), .old (1, 7, 0), sBox f k1 k2 A.length nb), ((2, 7, 0), .old (2, 7, 0), setR A A.length), ((3, 7, 0), .old (3, 7, 0), rowX (fun q => .is (vals q)) nb), ((5, 0, 0), .old (5, 0, 0), .row true 14 1 (fun _ => Zax b)), ((6, 7, 0), .old (6, 7, 0), .row false 1 1 (fun _ => [.rs (32, 0, 0) 1 0 f.regs.toNat])), ((32, 0, 0), .old (32, 0, 0), Zav f.regs.toNat (Zbl A f.regs.toNat b ((Zaw b).take (k + 1)))), ((34, 0, 0), .old (34, 0, 0), .row true 1 (Zaw b).length (fun i => [iv ((Zaw b).getD i 0)]))] rfl (by rfl) ?_ (.old rfl (BLe.rowO rfl) (.old rfl (BLe.refl _) (.old rfl (BLe.refl _) (.old rfl (BLe.refl _) (.old rfl (BLe.rowO rfl) (.old rfl (BLe.refl _) (.old rfl (BLe.refl _) .nil)))))))
      ((repeat' first | exact TLes.nil | refine TLes.cons (TLe.eq rfl) ?_ | refine TLes.cons (TLe.int ?_) ?_); (all_goals first | ((try (simp only [Zaa, kzz, kz11, kz12, maxL, Zac] at *)); exact wrap64 (by omega) (by omega)) | skip))
    · have hbo : butOf b = -1 := by unfold butOf; rw [if_neg (by simpa using hb)]
      clear hb
      (repeat' (refine Zab tok (by rfl) ?_; conv => whnf))
      refine .inr ⟨_, _, _, uG (QH.of (dead := []) [(k0, .old k0, sBox f k1 k2 A.length nb), (k1, .old k1, setR A A.length), (k2, .old k2, rowX (fun q => .is (vals q)) nb), (k3, .old (32, 0, 0), Zav f.regs.toNat (Zbl A f.regs.toNat b ((Zaw b).take k)))] (hcall ((Zaw b).getD (0 + (k : Int).toNat) 0) (-1) (by rw [Nat.zero_add]) hbo.symm) rfl (.old rfl (BLe.rowO rfl) (.old rfl (BLe.refl _) (.old rfl (BLe.refl _) (.old rfl (BLe.refl _) .nil)))) (.cons (.eq rfl) (.cons (.eq rfl) (.cons (.eq rfl) (.cons (.eq rfl) .nil)))) [(k0, k0), (k1, k1), (k2, k2), (k3, (32, 0, 0))] rfl (.cons rfl (BLe.rowO rfl) (.cons rfl (BLe.refl _) (.cons rfl (BLe.refl _) (.cons rfl (BLe.refl _) .nil)))) rfl), ?_⟩
      conv => whnf
      (repeat' (refine Zab tok (by rfl) ?_; conv => whnf))
      refine ⟨k + 1, hkl, by omega, ?_⟩
      refine Weak.list [((1, 7, 0), .old (1, 7, 0), sBox f k1 k2 A.length nb), ((2, 7, 0), .old (2, 7, 0), setR A A.length), ((3, 7, 0), .old (3, 7, 0), rowX (fun q => .is (vals q)) nb), ((5, 0, 0), .old (5, 0, 0), .row true 14 1 (fun _ => Zax b)), ((6, 7, 0), .old (6, 7, 0), .row false 1 1 (fun _ => [.rs (32, 0, 0) 1 0 f.regs.toNat])), ((32, 0, 0), .old (32, 0, 0), Zav f.regs.toNat (Zbl A f.regs.toNat b ((Zaw b).take (k + 1)))), ((34, 0, 0), .old (34, 0, 0), .row true 1 (Zaw b).length (fun i => [iv ((Zaw b).getD i 0)]))] rfl (by rfl) ?_ (.old rfl (BLe.rowO rfl) (.old rfl (BLe.refl _) (.old rfl (BLe.refl _) (.old rfl (BLe.refl _) (.old rfl (BLe.rowO rfl) (.old rfl (BLe.refl _) (.old rfl (BLe.refl _) .nil)))))))
      ((repeat' first | exact TLes.nil | refine TLes.cons (TLe.eq rfl) ?_ | refine TLes.cons (TLe.int ?_) ?_); (all_goals first | ((try (simp only [Zaa, kzz, kz11, kz12, maxL, Zac] at *)); exact wrap64 (by omega) (by omega)) | skip))
  have hkl : k = (Zaw b).length := by simp only [decide_eq_false_iff_not] at hb; omega
  clear hb
  subst hkl
  refine Zat (Weak.list (tl := [(0, .bp k0 0), (1, iv n), (5, .bp (5, 0, 0) 0), (6, .bp (6, 7, 0) 0)]) [((1, 7, 0), .old (1, 7, 0), sBox f k1 k2 A.length nb), ((2, 7, 0), .old (2, 7, 0), setR A A.length), ((3, 7, 0), .old (3, 7, 0), rowX (fun q => .is (vals q)) nb), ((5, 0, 0), .old (5, 0, 0), .row true 14 1 (fun _ => Zax b)), ((6, 7, 0), .old (6, 7, 0), .row false 1 1 (fun _ => [.rs (32, 0, 0) 1 0 f.regs.toNat])), ((32, 0, 0), .old (32, 0, 0), Zav f.regs.toNat (Zbl A f.regs.toNat b (Zaw b)))] rfl (by rfl) ?_ (.old rfl (BLe.rowO rfl) (.old rfl (BLe.refl _) (.old rfl (BLe.refl _) (.old rfl (BLe.refl _) (.old rfl (BLe.rowO rfl) (.old rfl (BLe.rowW (Nat.le_refl _) (fun z hz => Wks.of (by rw [List.take_length]; rfl))) .nil))))))) ?_
  · ((repeat' first | exact TLes.nil | refine TLes.cons (TLe.eq rfl) ?_); skip)
  refine Zab tok (by rfl) ?_
  conv => whnf
  refine Zb7 (α := Unit) (fun _ => mkS [(0, .bp k0 0), (1, iv n), (5, .bp (5, 0, 0) 0), (6, .bp (6, 7, 0) 0)] [((1, 7, 0), sBox f k1 k2 A.length nb), ((2, 7, 0), setR A A.length), ((3, 7, 0), rowX (fun q => .is (vals q)) nb), ((5, 0, 0), .row true 14 1 (fun _ => Zax b)), ((6, 7, 0), .row false 1 1 (fun _ => [.rs (32, 0, 0) 1 0 f.regs.toNat])), ((32, 0, 0), Zav f.regs.toNat (gPad A f.regs.toNat f b))]) (fun _ => True) ?_ ?_
  · refine Zah rfl (fun hb => ?_) (fun hb => ?_)
    · have h4 : b.fin.kind = 4 := by simpa using hb
      clear hb
      obtain ⟨hp1, hp2⟩ := hok.pad h4
      have hgen : ∃ q : Nat, b.fin.pad = q := ⟨b.fin.pad.toNat, by omega⟩
      obtain ⟨q, hq⟩ := hgen
      have hAq := hAe q (by omega)
      have hcall : ∀ x y, x = b.fin.pad → y = (f.blocks.getD b.fin.pad.toNat default).pad.dst → HC Try.prog [k0, k1, k2, k3] 34 [(k0, sBox f k1 k2 A.length nb), (k1, setR A A.length), (k2, rowX (fun q => .is (vals q)) nb), (k3, Zav f.regs.toNat (Zbl A f.regs.toNat b (Zaw b)))] [.bp k0 0, .rs k3 1 0 f.regs.toNat, iv x, iv y] (.tup [])
          [(k0, sBox f k1 k2 A.length nb), (k1, setR A A.length), (k2, rowX (fun q => .is (vals q)) nb), (k3, Zav f.regs.toNat (gPad A f.regs.toNat f b))] := fun x y e1 e2 => by
        have := c_mergeX f A (fun q => .is (vals q)) A.length nb f.regs.toNat (Zbl A f.regs.toNat b (Zaw b)) q y (by omega) (by omega)
        have e3 : gPad A f.regs.toNat f b = mgF (Zbl A f.regs.toNat b (Zaw b)) (A.getD q []) (f.blocks.getD b.fin.pad.toNat default).pad.dst f.regs.toNat := by
          unfold gPad; rw [if_pos h4, hq, Int.toNat_natCast]
        rw [e3, e1, hq]
        rw [hAq] at this
        rw [e2, hq] at this
        rw [e2, hq]; exact this
      have hfl : 0 ≤ b.fin.pad ∧ b.fin.pad < f.blocks.length := ⟨hp1, hp2⟩
      ((repeat' first | (refine Za2 tok mix (by rfl) ?_; conv => whnf) | (refine @And.intro (Zaa _ _ _ _) _ ?_ ?_; rotate_left; (conv => whnf); rotate_right)); all_goals (try ((guard_target = Zaa _ _ _ _); refine Zae ?_; (all_goals (try simp only [Zaa, kzz, kz11, kz12, maxL, Zac] at *)); all_goals omega)))
      refine .inr ⟨_, _, _, uG (QH.of (dead := []) [(k0, .old k0, sBox f k1 k2 A.length nb), (k1, .old k1, setR A A.length), (k2, .old k2, rowX (fun q => .is (vals q)) nb), (k3, .old (32, 0, 0), Zav f.regs.toNat (Zbl A f.regs.toNat b (Zaw b)))] (hcall b.fin.pad (f.blocks.getD b.fin.pad.toNat default).pad.dst rfl rfl) rfl (.old rfl (BLe.rowO rfl) (.old rfl (BLe.refl _) (.old rfl (BLe.refl _) (.old rfl (BLe.refl _) .nil)))) (.cons (.eq rfl) (.cons (.eq rfl) (.cons (.eq rfl) (.cons (.eq rfl) .nil)))) [(k0, k0), (k1, k1), (k2, k2), (k3, (32, 0, 0))] rfl (.cons rfl (BLe.rowO rfl) (.cons rfl (BLe.refl _) (.cons rfl (BLe.refl _) (.cons rfl (BLe.refl _) .nil)))) rfl), ?_⟩
      conv => whnf
      skip
      refine ⟨(), trivial, Weak.list [((1, 7, 0), .old (1, 7, 0), sBox f k1 k2 A.length nb), ((2, 7, 0), .old (2, 7, 0), setR A A.length), ((3, 7, 0), .old (3, 7, 0), rowX (fun q => .is (vals q)) nb), ((5, 0, 0), .old (5, 0, 0), .row true 14 1 (fun _ => Zax b)), ((6, 7, 0), .old (6, 7, 0), .row false 1 1 (fun _ => [.rs (32, 0, 0) 1 0 f.regs.toNat])), ((32, 0, 0), .old (32, 0, 0), Zav f.regs.toNat (gPad A f.regs.toNat f b))] rfl (by rfl) ?_ (.old rfl (BLe.rowO rfl) (.old rfl (BLe.refl _) (.old rfl (BLe.refl _) (.old rfl (BLe.refl _) (.old rfl (BLe.rowO rfl) (.old rfl (BLe.refl _) .nil))))))⟩
      ((repeat' first | exact TLes.nil | refine TLes.cons (TLe.eq rfl) ?_); skip)
    · have h4 : ¬ b.fin.kind = 4 := by simpa using hb
      clear hb
      (repeat' (refine Zai ?_; conv => whnf))
      refine ⟨(), trivial, Weak.list [((1, 7, 0), .old (1, 7, 0), sBox f k1 k2 A.length nb), ((2, 7, 0), .old (2, 7, 0), setR A A.length), ((3, 7, 0), .old (3, 7, 0), rowX (fun q => .is (vals q)) nb), ((5, 0, 0), .old (5, 0, 0), .row true 14 1 (fun _ => Zax b)), ((6, 7, 0), .old (6, 7, 0), .row false 1 1 (fun _ => [.rs (32, 0, 0) 1 0 f.regs.toNat])), ((32, 0, 0), .old (32, 0, 0), Zav f.regs.toNat (gPad A f.regs.toNat f b))] rfl (by rfl) ?_ (.old rfl (BLe.rowO rfl) (.old rfl (BLe.refl _) (.old rfl (BLe.refl _) (.old rfl (BLe.refl _) (.old rfl (BLe.rowO rfl) (.old rfl (BLe.rowW (Nat.le_refl _) (fun z hz => Wks.of (by unfold gPad; rw [if_neg h4]; rfl))) .nil))))))⟩
      ((repeat' first | exact TLes.nil | refine TLes.cons (TLe.eq rfl) ?_); skip)
  rintro ⟨⟩ - τ hw
  refine Zat hw ?_
  clear hw
  have hcl : FO Try.prog 35 [bools (Zek f.regs.toNat (gPad A f.regs.toNat f b))] 1 (Zek f.regs.toNat (gPad A f.regs.toNat f b)).length (fun i => [.bool ((Zek f.regs.toNat (gPad A f.regs.toNat f b)).getD i false)]) := c_CloneBools _
  have hli : ∀ q, q < f.regs.toNat → [AV.bool (gPad A f.regs.toNat f b q)] = [AV.bool ((Zek f.regs.toNat (gPad A f.regs.toNat f b)).getD q false)] := fun q hq => by rw [Zex hq]
  have hll := Zd2 f.regs.toNat (gPad A f.regs.toNat f b)
  have hgen : ∃ be, Zek f.regs.toNat (gPad A f.regs.toNat f b) = be := ⟨_, rfl⟩
  obtain ⟨be, hbe⟩ := hgen
  rw [hbe] at hcl hli hll ⊢
  (repeat' first | refine Zad ?_ | (refine Za2 tok mix (by rfl) ?_; conv => whnf))
  refine .inl ⟨_, _, _, uG (QC.fo (rd := [(32, 0, 0)]) hcl (.cons (.row rfl (.head _) rfl hll.symm hli) .nil) (.inr (fun _ _ => rfl)) rfl), ?_⟩
  conv => whnf
  ((repeat' ((fail_if_success (show AWp _ _ _ (Code.region 14 _ _) _ _)); first | refine Zad ?_ | (refine @And.intro (Zaa _ _ _ _) _ ?_ ?_; rotate_left; (conv => whnf); rotate_right))); all_goals (try ((guard_target = Zaa _ _ _ _); refine Zae ?_; (all_goals (try simp only [Zaa, kzz, kz11, kz12, maxL, Zac] at *)); all_goals omega)))
  have hLs : ∀ i ∈ [k0, k1, k2], srcL [(k5, some (81, 0, 0))] i = some i := fun i hi => by
    simp only [List.mem_cons, List.not_mem_nil, or_false] at hi
    rcases hi with rfl | rfl | rfl <;> rfl
  have hLp : ∀ (h : Zal), (h k0).isSome = true → (h k1).isSome = true → (h k2).isSome = true → ∀ i ∈ [k0, k1, k2], pinId i = true → (h i).isSome = true ∧ srcL [] i = some i := fun h h0 h1 h2 i hi _ => by
    simp only [List.mem_cons, List.not_mem_nil, or_false] at hi
    rcases hi with rfl | rfl | rfl
    · exact ⟨h0, rfl⟩
    · exact ⟨h1, rfl⟩
    · exact ⟨h2, rfl⟩
  refine Zat (Weak.fam (tl := [(0, .bp k0 0), (1, iv n), (5, .bp (5, 0, 0) 0), (6, .bp (6, 7, 0) 0)]) (hl := [((1, 7, 0), sBox f k1 k2 A.length nb), ((2, 7, 0), setR A A.length), ((3, 7, 0), rowS n nb f.regs.toNat vals), ((5, 0, 0), .row true 14 1 (fun _ => Zax b)), ((6, 7, 0), .row false 1 1 (fun _ => [.rs (32, 0, 0) 1 0 f.regs.toNat])), ((32, 0, 0), Zav f.regs.toNat (gPad A f.regs.toNat f b)), ((5, 7, 0), Zav f.regs.toNat (fun q => be.getD q false))]) (F := noH) [(k5, some (81, 0, 0))] rfl (fun c hc => by simp only [tgts, List.mem_singleton] at hc; subst hc; exact .inl rfl) ?_ ?_ noF (fun i hi hp => ⟨(hLp _ rfl rfl rfl i hi hp).1, hLs i hi⟩)) ?_
  · (repeat' first | exact TLg.nil | refine TLg.cons (GV.imm rfl) ?_ | refine TLg.cons (GV.bp rfl rfl) ?_)
    all_goals rfl
  · refine .old rfl rfl (GB.one (.cons (.imm rfl) (.cons (.imm rfl) (.cons (.imm rfl) (.cons (.rs rfl rfl rfl rfl) (.cons (.rs rfl rfl rfl rfl) .nil))))) (fun e => by cases e)) (.old rfl rfl (GB.rowI (Nat.le_refl _) (fun q hq => ⟨rfl, rfl⟩)) (.old rfl rfl (GB.row (Nat.le_refl _) (fun q hq => GVs.upd (fun e => ?_) (fun e => ?_)) (fun e => by cases e)) (.old rfl rfl (GB.one (GVs.imm rfl) (fun _ => rfl)) (.old rfl rfl (GB.one (.cons (.rs rfl rfl rfl rfl) .nil) (fun e => by cases e)) (.old rfl rfl (GB.rowI (Nat.le_refl _) (fun q hq => ⟨rfl, rfl⟩)) (.old rfl rfl (GB.rowI (Nat.le_of_eq hll.symm) (fun q hq => ⟨rfl, rfl⟩)) .nil))))))
    · rw [Nat.zero_add, Int.toNat_natCast] at e
      subst e
      exact .cons (.cc rfl (show (bif Nat.beq q q then _ else _) = _ by rw [show Nat.beq q q = true by simp]; rfl) (.rs rfl rfl rfl hll)) .nil
    · rw [Nat.zero_add, Int.toNat_natCast] at e
      have e' : Nat.beq q n = false := by rw [Bool.eq_false_iff]; intro h; exact e (Nat.eq_of_beq_eq_true h)
      exact .cons (.cc rfl (show (bif Nat.beq q n then _ else _) = _ by rw [e']; rfl) (.imm rfl)) .nil
  (repeat' (refine Zab tok (by rfl) ?_; conv => whnf))
  refine .inl ⟨_, _, _, uG (QC.fo (rd := []) (c_EndAsks b.fin) (Ress.imms rfl) (.inl rfl) rfl), ?_⟩
  conv => whnf
  (repeat' refine Zaf ?_)
  refine Zar 86 (fun hl => ?_)
  have hle : ((Zam b.fin).length : Int) ≤ 9223372036854775807 := hl.2
  clear hl
  refine Zap (fun j : Nat => mkS [(0, .bp k0 0), (1, iv n), (5, .bp (5, 0, 0) 0), (6, .bp (6, 7, 0) 0), (85, .rs (85, 0, 0) 1 0 (Zam b.fin).length), (86, iv (Zam b.fin).length), (87, iv j)] [((1, 7, 0), sBox f k1 k2 A.length nb), ((2, 7, 0), setR A A.length), ((3, 7, 0), rowS n nb f.regs.toNat vals), ((5, 0, 0), .row true 14 1 (fun _ => Zax b)), ((6, 7, 0), .row false 1 1 (fun _ => [.rs (32, 0, 0) 1 0 f.regs.toNat])), ((32, 0, 0), Zav f.regs.toNat (Zch (gPad A f.regs.toNat f b) ((Zam b.fin).take j))), ((5, 7, 0), Zav f.regs.toNat (fun q => be.getD q false)), ((85, 0, 0), .row true 1 (Zam b.fin).length (fun i => [iv ((Zam b.fin).getD i 0)]))]) (fun j => j ≤ (Zam b.fin).length) (fun j => (Zam b.fin).length - j) 0 (Nat.zero_le _) ?_ ?_
  · refine Weak.list [((1, 7, 0), .old (1, 7, 0), sBox f k1 k2 A.length nb), ((2, 7, 0), .old (2, 7, 0), setR A A.length), ((3, 7, 0), .old (3, 7, 0), rowS n nb f.regs.toNat vals), ((5, 0, 0), .old (5, 0, 0), .row true 14 1 (fun _ => Zax b)), ((6, 7, 0), .old (6, 7, 0), .row false 1 1 (fun _ => [.rs (32, 0, 0) 1 0 f.regs.toNat])), ((32, 0, 0), .old (32, 0, 0), Zav f.regs.toNat (Zch (gPad A f.regs.toNat f b) ((Zam b.fin).take 0))), ((5, 7, 0), .old (5, 7, 0), Zav f.regs.toNat (fun q => be.getD q false)), ((85, 0, 0), .old (85, 0, 0), .row true 1 (Zam b.fin).length (fun i => [iv ((Zam b.fin).getD i 0)]))] rfl (by rfl) ?_ (.old rfl (BLe.rowO rfl) (.old rfl (BLe.refl _) (.old rfl (BLe_S rfl) (.old rfl (BLe.refl _) (.old rfl (BLe.rowO rfl) (.old rfl (BLe.refl _) (.old rfl (BLe.refl _) (.old rfl (BLe.refl _) .nil))))))))
    ((repeat' first | exact TLes.nil | refine TLes.cons (TLe.eq rfl) ?_); skip)
  intro j hj
  (repeat' ((fail_if_success (show AWp _ _ _ (Code.region 16 _ _) _ _)); (fail_if_success (show AWp _ _ _ (Code.region 19 _ _) _ _)); first | refine Zad ?_ | (refine Zab tok (by rfl) ?_; conv => whnf) | refine Zaf ?_ | (refine Zai ?_; conv => whnf) | (refine Zan ?_; conv => whnf) | refine Zah rfl (fun hb => ?_) (fun hb => ?_)))
  · have hjl : j < (Zam b.fin).length := by simp only [decide_eq_true_eq] at hb; omega
    clear hb
    have hsucc := Zdu (g := gPad A f.regs.toNat f b) hjl
    have hpj := hok.ends _ (Zcq 0 hjl)
    have hji : (Zam b.fin).getD (0 + (j : Int).toNat) 0 = (Zam b.fin).getD j 0 := by simp
    have hji2 : (Zam b.fin).getD (j : Int).toNat 0 = (Zam b.fin).getD j 0 := by simp
    ((repeat' first | (refine Zab tok (by rfl) ?_; conv => whnf) | (refine @And.intro (Zaa _ _ _ _) _ ?_ ?_; rotate_left; (conv => whnf); rotate_right)); all_goals (try ((guard_target = Zaa _ _ _ _); refine Zae ?_; (all_goals (try simp only [Zaa, kzz, kz11, kz12, maxL, Zac] at *)); all_goals omega)))
    refine ⟨j + 1, hjl, by omega, ?_⟩
    refine Weak.list [((1, 7, 0), .old (1, 7, 0), sBox f k1 k2 A.length nb), ((2, 7, 0), .old (2, 7, 0), setR A A.length), ((3, 7, 0), .old (3, 7, 0), rowS n nb f.regs.toNat vals), ((5, 0, 0), .old (5, 0, 0), .row true 14 1 (fun _ => Zax b)), ((6, 7, 0), .old (6, 7, 0), .row false 1 1 (fun _ => [.rs (32, 0, 0) 1 0 f.regs.toNat])), ((32, 0, 0), .old (32, 0, 0), Zav f.regs.toNat (Zch (gPad A f.regs.toNat f b) ((Zam b.fin).take (j + 1)))), ((5, 7, 0), .old (5, 7, 0), Zav f.regs.toNat (fun q => be.getD q false)), ((85, 0, 0), .old (85, 0, 0), .row true 1 (Zam b.fin).length (fun i => [iv ((Zam b.fin).getD i 0)]))] rfl (by rfl) ?_ (.old rfl (BLe.rowO rfl) (.old rfl (BLe.refl _) (.old rfl (BLe_S rfl) (.old rfl (BLe.refl _) (.old rfl (BLe.rowO rfl) (.old rfl (BLe.rowW (Nat.le_refl _) (fun z hz => Wks.of ?_)) (.old rfl (BLe.refl _) (.old rfl (BLe.refl _) .nil))))))))
    · ((repeat' first | exact TLes.nil | refine TLes.cons (TLe.eq rfl) ?_ | refine TLes.cons (TLe.int ?_) ?_); (all_goals first | ((try (simp only [Zaa, kzz, kz11, kz12, maxL, Zac] at *)); exact wrap64 (by omega) (by omega)) | skip))
    · rw [hsucc]
      exact upRow (by rw [Nat.zero_add]; exact congrArg Int.toNat hji)
  have hjl : j = (Zam b.fin).length := by simp only [decide_eq_false_iff_not] at hb; omega
  clear hb
  subst hjl
  (repeat' (refine Zab tok (by rfl) ?_; conv => whnf))
  refine .inl ⟨_, _, _, uG (QC.fc (c_Backward b.ins) rfl), ?_⟩
  conv => whnf
  refine Zaf ?_
  have hgen : ∃ gB : Nat → Nat → Bool, gB = fun k => (b.ins.drop (b.ins.length - k)).foldr Zc0 (gEnd A f.regs.toNat f b) := ⟨_, rfl⟩
  obtain ⟨gB, hgB⟩ := hgen
  have hg0 : gB 0 = Zch (gPad A f.regs.toNat f b) ((Zam b.fin).take (Zam b.fin).length) := by rw [hgB, List.take_length]; simp only [Nat.sub_zero, List.drop_length, List.foldr_nil]; rfl
  have hgm : gB b.ins.length = gIns A f.regs.toNat f b := by rw [hgB]; simp only [Nat.sub_self, List.drop_zero]; rfl
  have hgs : ∀ k, k < b.ins.length → gB (k + 1) = Zc0 (b.ins.getD (b.ins.length - 1 - k) default) (gB k) := fun k hk => by
    rw [hgB]
    simp only
    have e1 : b.ins.length - (k + 1) = b.ins.length - 1 - k := by omega
    rw [e1, Zd3 default (show b.ins.length - 1 - k < b.ins.length by omega), List.foldr_cons, show b.ins.length - 1 - k + 1 = b.ins.length - k by omega]
  refine Zat (Weak.list (tl := [(0, .bp k0 0), (1, iv n), (6, .bp (6, 7, 0) 0), (97, .fn 37 [.ip [inss b.ins]])]) [((1, 7, 0), .old (1, 7, 0), sBox f k1 k2 A.length nb), ((2, 7, 0), .old (2, 7, 0), setR A A.length), ((3, 7, 0), .old (3, 7, 0), rowS n nb f.regs.toNat vals), ((6, 7, 0), .old (6, 7, 0), .row false 1 1 (fun _ => [.rs (32, 0, 0) 1 0 f.regs.toNat])), ((32, 0, 0), .old (32, 0, 0), Zav f.regs.toNat (gB 0)), ((5, 7, 0), .old (5, 7, 0), Zav f.regs.toNat (fun q => be.getD q false))] rfl (by rfl) ?_ (.old rfl (BLe.rowO rfl) (.old rfl (BLe.refl _) (.old rfl (BLe_S rfl) (.old rfl (BLe.rowO rfl) (.old rfl (BLe.rowW (Nat.le_refl _) (fun z hz => Wks.of (by rw [hg0]; rfl))) (.old rfl (BLe.refl _) .nil))))))) ?_
  · ((repeat' first | exact TLes.nil | refine TLes.cons (TLe.eq rfl) ?_); skip)
  refine AWp_back (gB := 37) (sz := 7) (m := b.ins.length) (f := fun i => Zaz (b.ins.getD i default)) [k0, k1, k2, (6, 7, 0), k5] (fun i hi => by simp only [List.mem_cons, List.not_mem_nil, or_false] at hi ⊢; rcases hi with h | h | h <;> simp [h]) (Zei [(0, .bp k0 0), (1, iv n), (6, .bp (6, 7, 0) 0), (97, .fn 37 [.ip [inss b.ins]])]) (fun k => Za9 [((1, 7, 0), sBox f k1 k2 A.length nb), ((2, 7, 0), setR A A.length), ((3, 7, 0), rowS n nb f.regs.toNat vals), ((6, 7, 0), .row false 1 1 (fun _ => [.rs (32, 0, 0) 1 0 f.regs.toNat])), ((32, 0, 0), Zav f.regs.toNat (gB k)), ((5, 7, 0), Zav f.regs.toNat (fun q => be.getD q false))]) c_back ⟨_, Try.func37, rfl, by decide +kernel⟩ rfl (by decide) (pinT_spec rfl) (fun k hk => ?_) ?_
  · have hs1 := hgs k hk
    have hmem := Zcq default (show b.ins.length - 1 - k < b.ins.length by omega)
    have hgen : ∃ x, b.ins.getD (b.ins.length - 1 - k) default = x := ⟨_, rfl⟩
    obtain ⟨x, hx⟩ := hgen
    rw [hx] at hs1 hmem
    have hxs := hok.sets x hmem
    have hxa := hok.asks x hmem
    have hgen : ∃ g, gB k = g := ⟨_, rfl⟩
    obtain ⟨g, hg⟩ := hgen
    rw [hg] at hs1
    simp only [hx, hg]
    have hsv : setsB x = true → setsV x = x.dst := fun h => by unfold setsV; rw [if_pos h]
    have hS := c_Sets x
    have hAk := c_Asks x
    have hgen : ∃ g1, (if setsB x = true then upT g (setsV x) false else g) = g1 := ⟨_, rfl⟩
    obtain ⟨g1, hg1⟩ := hgen
    have hst : Zc0 x g = Zch g1 (Zba x) := by unfold Zc0; rw [hg1]
    rw [hst] at hs1
    refine Zat (Weak.list (tl := [(6, .bp (6, 7, 0) 0), (99, .agg (Zaz x))]) [((1, 7, 0), .old (1, 7, 0), sBox f k1 k2 A.length nb), ((2, 7, 0), .old (2, 7, 0), setR A A.length), ((3, 7, 0), .old (3, 7, 0), rowS n nb f.regs.toNat vals), ((6, 7, 0), .old (6, 7, 0), .row false 1 1 (fun _ => [.rs (32, 0, 0) 1 0 f.regs.toNat])), ((32, 0, 0), .old (32, 0, 0), Zav f.regs.toNat g), ((5, 7, 0), .old (5, 7, 0), Zav f.regs.toNat (fun q => be.getD q false))] rfl (by rfl) ?_ (.old rfl (BLe.rowO rfl) (.old rfl (BLe.refl _) (.old rfl (BLe_S rfl) (.old rfl (BLe.rowO rfl) (.old rfl (BLe.refl _) (.old rfl (BLe.refl _) .nil))))))) ?_
    · ((repeat' first | exact TLes.nil | refine TLes.cons (TLe.eq rfl) ?_); skip)
    (repeat' ((fail_if_success (show AWp _ _ _ (Code.region 21 _ _) _ _)); first | refine Zad ?_ | (refine Zab tok (by rfl) ?_; conv => whnf) | refine Zaf ?_))
    refine Zat (Weak.list (tl := [(6, .bp (6, 7, 0) 0), (13, .bp (13, 0, 0) 0)]) [((1, 7, 0), .old (1, 7, 0), sBox f k1 k2 A.length nb), ((2, 7, 0), .old (2, 7, 0), setR A A.length), ((3, 7, 0), .old (3, 7, 0), rowS n nb f.regs.toNat vals), ((6, 7, 0), .old (6, 7, 0), .row false 1 1 (fun _ => [.rs (32, 0, 0) 1 0 f.regs.toNat])), ((32, 0, 0), .old (32, 0, 0), Zav f.regs.toNat g), ((5, 7, 0), .old (5, 7, 0), Zav f.regs.toNat (fun q => be.getD q false)), ((13, 0, 0), .old (13, 0, 0), .row true 7 1 (fun _ => Zaz x))] rfl (by rfl) ?_ (.old rfl (BLe.rowO rfl) (.old rfl (BLe.refl _) (.old rfl (BLe_S rfl) (.old rfl (BLe.rowO rfl) (.old rfl (BLe.refl _) (.old rfl (BLe.refl _) (.old rfl (BLe.rowW (Nat.le_refl _) (ltS (Wks.of rfl) lt0)) .nil)))))))) ?_
    · ((repeat' first | exact TLes.nil | refine TLes.cons (TLe.eq rfl) ?_); skip)
    (repeat' (refine Zab tok (by rfl) ?_; conv => whnf))
    refine .inl ⟨_, _, _, uG (QC.fc hS rfl), ?_⟩
    conv => whnf
    (repeat' ((fail_if_success (show AWp _ _ _ (Code.region 22 _ _) _ _)); refine Zad ?_))
    refine Zab tok (by rfl) ?_
    conv => whnf
    refine Zb7 (α := Unit) (fun _ => mkS [(6, .bp (6, 7, 0) 0), (13, .bp (13, 0, 0) 0)] [((1, 7, 0), sBox f k1 k2 A.length nb), ((2, 7, 0), setR A A.length), ((3, 7, 0), rowS n nb f.regs.toNat vals), ((6, 7, 0), .row false 1 1 (fun _ => [.rs (32, 0, 0) 1 0 f.regs.toNat])), ((32, 0, 0), Zav f.regs.toNat g1), ((5, 7, 0), Zav f.regs.toNat (fun q => be.getD q false)), ((13, 0, 0), .row true 7 1 (fun _ => Zaz x))]) (fun _ => True) ?_ ?_
    · refine Zah rfl (fun hb => ?_) (fun hb => ?_)
      · obtain ⟨hx1, hx2⟩ := hxs hb
        have hx3 := hsv hb
        rw [if_pos hb] at hg1
        ((repeat' first | (refine Zab tok (by rfl) ?_; conv => whnf) | (refine @And.intro (Zaa _ _ _ _) _ ?_ ?_; rotate_left; (conv => whnf); rotate_right)); all_goals (try ((guard_target = Zaa _ _ _ _); refine Zae ?_; (all_goals (try simp only [Zaa, kzz, kz11, kz12, maxL, Zac] at *)); all_goals omega)))
        refine ⟨(), trivial, Weak.list [((1, 7, 0), .old (1, 7, 0), sBox f k1 k2 A.length nb), ((2, 7, 0), .old (2, 7, 0), setR A A.length), ((3, 7, 0), .old (3, 7, 0), rowS n nb f.regs.toNat vals), ((6, 7, 0), .old (6, 7, 0), .row false 1 1 (fun _ => [.rs (32, 0, 0) 1 0 f.regs.toNat])), ((32, 0, 0), .old (32, 0, 0), Zav f.regs.toNat g1), ((5, 7, 0), .old (5, 7, 0), Zav f.regs.toNat (fun q => be.getD q false)), ((13, 0, 0), .old (13, 0, 0), .row true 7 1 (fun _ => Zaz x))] rfl (by rfl) ?_ (.old rfl (BLe.rowO rfl) (.old rfl (BLe.refl _) (.old rfl (BLe_S rfl) (.old rfl (BLe.rowO rfl) (.old rfl (BLe.rowW (Nat.le_refl _) (fun z hz => Wks.of (by rw [← hg1]; exact upRow (Nat.zero_add _)))) (.old rfl (BLe.refl _) (.old rfl (BLe.refl _) .nil)))))))⟩
        ((repeat' first | exact TLes.nil | refine TLes.cons (TLe.eq rfl) ?_); skip)
      · rw [if_neg (by rw [hb]; simp)] at hg1
        (repeat' (refine Zai ?_; conv => whnf))
        refine ⟨(), trivial, Weak.list [((1, 7, 0), .old (1, 7, 0), sBox f k1 k2 A.length nb), ((2, 7, 0), .old (2, 7, 0), setR A A.length), ((3, 7, 0), .old (3, 7, 0), rowS n nb f.regs.toNat vals), ((6, 7, 0), .old (6, 7, 0), .row false 1 1 (fun _ => [.rs (32, 0, 0) 1 0 f.regs.toNat])), ((32, 0, 0), .old (32, 0, 0), Zav f.regs.toNat g1), ((5, 7, 0), .old (5, 7, 0), Zav f.regs.toNat (fun q => be.getD q false)), ((13, 0, 0), .old (13, 0, 0), .row true 7 1 (fun _ => Zaz x))] rfl (by rfl) ?_ (.old rfl (BLe.rowO rfl) (.old rfl (BLe.refl _) (.old rfl (BLe_S rfl) (.old rfl (BLe.rowO rfl) (.old rfl (BLe.rowW (Nat.le_refl _) (fun z hz => Wks.of (by rw [← hg1]; rfl))) (.old rfl (BLe.refl _) (.old rfl (BLe.refl _) .nil)))))))⟩
        ((repeat' first | exact TLes.nil | refine TLes.cons (TLe.eq rfl) ?_); skip)
    rintro ⟨⟩ - τ hw
    refine Zat hw ?_
    clear hw
    (repeat' first | refine Zad ?_ | (refine Zab tok (by rfl) ?_; conv => whnf))
    refine .inl ⟨_, _, _, uG (QC.fo (rd := []) hAk (Ress.imms rfl) (.inl rfl) rfl), ?_⟩
    conv => whnf
    (repeat' ((fail_if_success (show AWp _ _ _ (Code.region 25 _ _) _ _)); refine Zaf ?_))
    refine Zar 111 (fun hl => ?_)
    have hle : ((Zba x).length : Int) ≤ 9223372036854775807 := hl.2
    clear hl
    refine Zap (fun j : Nat => mkS [(6, .bp (6, 7, 0) 0), (13, .bp (13, 0, 0) 0), (110, .rs (110, 0, 0) 1 0 (Zba x).length), (111, iv (Zba x).length), (112, iv j)] [((1, 7, 0), sBox f k1 k2 A.length nb), ((2, 7, 0), setR A A.length), ((3, 7, 0), rowS n nb f.regs.toNat vals), ((6, 7, 0), .row false 1 1 (fun _ => [.rs (32, 0, 0) 1 0 f.regs.toNat])), ((32, 0, 0), Zav f.regs.toNat (Zch g1 ((Zba x).take j))), ((5, 7, 0), Zav f.regs.toNat (fun q => be.getD q false)), ((13, 0, 0), .row true 7 1 (fun _ => Zaz x)), ((110, 0, 0), .row true 1 (Zba x).length (fun i => [iv ((Zba x).getD i 0)]))]) (fun j => j ≤ (Zba x).length) (fun j => (Zba x).length - j) 0 (Nat.zero_le _) ?_ ?_
    · refine Weak.list [((1, 7, 0), .old (1, 7, 0), sBox f k1 k2 A.length nb), ((2, 7, 0), .old (2, 7, 0), setR A A.length), ((3, 7, 0), .old (3, 7, 0), rowS n nb f.regs.toNat vals), ((6, 7, 0), .old (6, 7, 0), .row false 1 1 (fun _ => [.rs (32, 0, 0) 1 0 f.regs.toNat])), ((32, 0, 0), .old (32, 0, 0), Zav f.regs.toNat (Zch g1 ((Zba x).take 0))), ((5, 7, 0), .old (5, 7, 0), Zav f.regs.toNat (fun q => be.getD q false)), ((13, 0, 0), .old (13, 0, 0), .row true 7 1 (fun _ => Zaz x)), ((110, 0, 0), .old (110, 0, 0), .row true 1 (Zba x).length (fun i => [iv ((Zba x).getD i 0)]))] rfl (by rfl) ?_ (.old rfl (BLe.rowO rfl) (.old rfl (BLe.refl _) (.old rfl (BLe_S rfl) (.old rfl (BLe.rowO rfl) (.old rfl (BLe.refl _) (.old rfl (BLe.refl _) (.old rfl (BLe.refl _) (.old rfl (BLe.refl _) .nil))))))))
      ((repeat' first | exact TLes.nil | refine TLes.cons (TLe.eq rfl) ?_); skip)
    intro j hj
    (repeat' ((fail_if_success (show AWp _ _ _ (Code.region 26 _ _) _ _)); first | refine Zad ?_ | (refine Zab tok (by rfl) ?_; conv => whnf) | refine Zaf ?_ | (refine Zai ?_; conv => whnf) | (refine Zan ?_; conv => whnf) | refine Zah rfl (fun hb => ?_) (fun hb => ?_)))
    · have hjl : j < (Zba x).length := by simp only [decide_eq_true_eq] at hb; omega
      clear hb
      have hsucc := Zdu (g := g1) hjl
      have hpj := hxa _ (Zcq 0 hjl)
      have hji : (Zba x).getD (0 + (j : Int).toNat) 0 = (Zba x).getD j 0 := by simp
      ((repeat' first | (refine Zab tok (by rfl) ?_; conv => whnf) | (refine @And.intro (Zaa _ _ _ _) _ ?_ ?_; rotate_left; (conv => whnf); rotate_right)); all_goals (try ((guard_target = Zaa _ _ _ _); refine Zae ?_; (all_goals (try simp only [Zaa, kzz, kz11, kz12, maxL, Zac] at *)); all_goals omega)))
      refine ⟨j + 1, hjl, by omega, ?_⟩
      refine Weak.list [((1, 7, 0), .old (1, 7, 0), sBox f k1 k2 A.length nb), ((2, 7, 0), .old (2, 7, 0), setR A A.length), ((3, 7, 0), .old (3, 7, 0), rowS n nb f.regs.toNat vals), ((6, 7, 0), .old (6, 7, 0), .row false 1 1 (fun _ => [.rs (32, 0, 0) 1 0 f.regs.toNat])), ((32, 0, 0), .old (32, 0, 0), Zav f.regs.toNat (Zch g1 ((Zba x).take (j + 1)))), ((5, 7, 0), .old (5, 7, 0), Zav f.regs.toNat (fun q => be.getD q false)), ((13, 0, 0), .old (13, 0, 0), .row true 7 1 (fun _ => Zaz x)), ((110, 0, 0), .old (110, 0, 0), .row true 1 (Zba x).length (fun i => [iv ((Zba x).getD i 0)]))] rfl (by rfl) ?_ (.old rfl (BLe.rowO rfl) (.old rfl (BLe.refl _) (.old rfl (BLe_S rfl) (.old rfl (BLe.rowO rfl) (.old rfl (BLe.rowW (Nat.le_refl _) (fun z hz => Wks.of ?_)) (.old rfl (BLe.refl _) (.old rfl (BLe.refl _) (.old rfl (BLe.refl _) .nil))))))))
      · ((repeat' first | exact TLes.nil | refine TLes.cons (TLe.eq rfl) ?_ | refine TLes.cons (TLe.int ?_) ?_); (all_goals first | ((try (simp only [Zaa, kzz, kz11, kz12, maxL, Zac] at *)); exact wrap64 (by omega) (by omega)) | skip))
      · rw [hsucc]
        exact upRow (by rw [Nat.zero_add]; exact congrArg Int.toNat hji)
    · have hjl : j = (Zba x).length := by simp only [decide_eq_false_iff_not] at hb; omega
      clear hb
      subst hjl
      refine ⟨Zei [], Weak.list (tl := []) [((1, 7, 0), .old (1, 7, 0), sBox f k1 k2 A.length nb), ((2, 7, 0), .old (2, 7, 0), setR A A.length), ((3, 7, 0), .old (3, 7, 0), rowS n nb f.regs.toNat vals), ((6, 7, 0), .old (6, 7, 0), .row false 1 1 (fun _ => [.rs (32, 0, 0) 1 0 f.regs.toNat])), ((32, 0, 0), .old (32, 0, 0), Zav f.regs.toNat (gB (k + 1))), ((5, 7, 0), .old (5, 7, 0), Zav f.regs.toNat (fun q => be.getD q false))] rfl (by rfl) .nil (.old rfl (BLe.rowO rfl) (.old rfl (BLe.refl _) (.old rfl (BLe_S rfl) (.old rfl (BLe.rowO rfl) (.old rfl (BLe.rowW (Nat.le_refl _) (fun z hz => Wks.of (by rw [hs1, List.take_length]; rfl))) (.old rfl (BLe.refl _) .nil))))))⟩
  · conv => whnf
    have hli2 : ∀ q, q < f.regs.toNat → [AV.bool (gB b.ins.length q)] = [AV.bool ((Zek f.regs.toNat (gIns A f.regs.toNat f b)).getD q false)] := fun q hq => by rw [Zex hq, hgm]
    have hll2 := Zd2 f.regs.toNat (gIns A f.regs.toNat f b)
    have hgen : ∃ now, Zek f.regs.toNat (gIns A f.regs.toNat f b) = now := ⟨_, rfl⟩
    obtain ⟨now, hnow⟩ := hgen
    rw [hnow] at hli2 hll2 ⊢
    have hcall : ∀ y, y = A.getD n [] → FC Try.prog 36 [bools now, bools y] (.bool (decide (now = A.getD n []))) := fun y e => by rw [e]; exact c_EqualB _ _
    have hnA : n < A.length := by omega
    ((repeat' first | refine Zad ?_ | (refine Za2 tok mix (by rfl) ?_; conv => whnf) | (refine @And.intro (Zaa _ _ _ _) _ ?_ ?_; rotate_left; (conv => whnf); rotate_right)); all_goals (try ((guard_target = Zaa _ _ _ _); refine Zae ?_; (all_goals (try simp only [Zaa, kzz, kz11, kz12, maxL, Zac] at *)); all_goals omega)))
    refine .inl ⟨_, _, _, uG (QC.sc (rd := [(32, 0, 0)]) (hcall (A.getD (0 + (n : Int).toNat) []) (by simp)) (.cons (.row rfl (.head _) rfl hll2.symm hli2) (.cons (.imm rfl) .nil)) rfl), ?_⟩
    conv => whnf
    ((repeat' ((fail_if_success (show AWp _ _ _ (Code.region 31 _ _) _ _)); first | refine Zad ?_ | (refine Za2 tok mix (by rfl) ?_; conv => whnf) | (refine @And.intro (Zaa _ _ _ _) _ ?_ ?_; rotate_left; (conv => whnf); rotate_right))); all_goals (try ((guard_target = Zaa _ _ _ _); refine Zae ?_; (all_goals (try simp only [Zaa, kzz, kz11, kz12, maxL, Zac] at *)); all_goals omega)))
    refine Zat (Weak.fam (tl := [(18, .bool (decide (now ≠ A.getD n [])))]) (hl := [((1, 7, 0), sBox f k1 k2 A.length nb), ((2, 7, 0), setR (A.set n now) A.length), ((3, 7, 0), rowS n nb f.regs.toNat vals), ((5, 7, 0), Zav f.regs.toNat (fun q => be.getD q false))]) (F := noH) [] rfl (fun i hi => by cases hi) ?_ ?_ noF (hLp _ rfl rfl rfl)) ?_
    · exact .cons (.bool (by rw [decide_not])) .nil
    · refine .old rfl rfl (GB.one (.cons (.imm rfl) (.cons (.imm rfl) (.cons (.imm rfl) (.cons (.rs rfl rfl rfl rfl) (.cons (.rs rfl rfl rfl rfl) .nil))))) (fun e => by cases e)) (.old rfl rfl (GB.row (Nat.le_refl _) (fun q hq => GVs.upd (fun e => ?_) (fun e => ?_)) (fun _ _ _ => rfl)) (.old rfl rfl (GB.row (Nat.le_refl _) (fun q hq => .cons (GV_S rfl rfl) .nil) (fun e => by cases e)) (.old rfl rfl (GB.rowI (Nat.le_refl _) (fun q hq => ⟨rfl, rfl⟩)) .nil)))
      · rw [Nat.zero_add, Int.toNat_natCast] at e
        subst e
        rw [Zbn, if_pos ⟨rfl, hq⟩]
        exact .cons (.frz (hd_no rfl) rfl (Nat.le_of_eq (Nat.zero_add _)) hll2.symm (fun x hx => GVs.eqI rfl (by rw [Nat.zero_add]; exact hli2 x hx)) (fun _ _ => rfl)) .nil
      · rw [Nat.zero_add, Int.toNat_natCast] at e
        rw [Zbn, if_neg (fun h => e h.1.symm)]
        exact GVs.imm rfl
    (repeat' first | (refine Zab tok (by rfl) ?_; conv => whnf) | (refine Zaj ?_; conv => whnf))
    exact ⟨_, [(k0, .old k0, sBox f k1 k2 A.length nb), (k1, .old k1, setR (A.set n now) A.length), (k2, .old k2, rowS n nb f.regs.toNat vals), (k5, .old k5, Zav f.regs.toNat (fun q => be.getD q false))], rfl, rfl, rfl, rfl, .old rfl (BLe.rowO rfl) (.old rfl (BLe.refl _) (.old rfl (BLe_S rfl) (.old rfl (BLe.refl _) .nil))), .eq rfl⟩
end Go.Proofs.Ytbcocllokcimeaa
namespace Go.Proofs.Ytbcocllokcimeaa
open Go Dv
set_option maxRecDepth 10000
set_option linter.unusedSimpArgs false
abbrev SW := List (List Bool) × List (List Bool) × Bool
def sw1 (f : Func) (s : SW) (n : Nat) : SW := (s.1.set n (Zda s.1 f.regs.toNat f n), s.2.1.set n (newBe s.1 f.regs.toNat f n), decide (Zda s.1 f.regs.toNat f n ≠ s.1.getD n []) || s.2.2)
def swD (f : Func) (s : SW) : Nat → SW
  | 0 => s
  | m + 1 => sw1 f (swD f s m) (f.blocks.length - 1 - m)
def Zcu (f : Func) : List (List Bool) := List.replicate f.blocks.length (List.replicate f.regs.toNat false)
def itS (f : Func) : Nat → SW
  | 0 => (Zcu f, Zcu f, true)
  | j + 1 => swD f ((itS f j).1, (itS f j).2.1, false) f.blocks.length
def gle (g g' : Nat → Bool) : Prop := ∀ q, g q = true → g' q = true
theorem gle_up {g g' : Nat → Bool} (h : gle g g') (p : Int) (v : Bool) : gle (upT g p v) (upT g' p v) := fun q e => by
  unfold upT at e ⊢
  split
  · rename_i hq; rw [if_pos hq] at e; exact e
  · rename_i hq; rw [if_neg hq] at e; exact h q e
theorem gle_all {l : List Int} : ∀ {g g' : Nat → Bool}, gle g g' → gle (Zch g l) (Zch g' l) := by
  induction l with
  | nil => intro g g' h; exact h
  | cons x r ih => intro g g' h; exact ih (gle_up h x true)
theorem gle_step {x : Ins} {g g' : Nat → Bool} (h : gle g g') : gle (Zc0 x g) (Zc0 x g') := by
  unfold Zc0
  refine gle_all ?_
  split
  · exact gle_up h _ _
  · exact h
theorem gle_mg {g g' : Nat → Bool} {a a' : List Bool} (h : gle g g') (k : leL a a') (but : Int) (p : Nat) : gle (mgF g a but p) (mgF g' a' but p) := fun q e => by
  unfold mgF at e ⊢
  split
  · rename_i hq
    rw [if_pos hq, Bool.or_eq_true, Bool.and_eq_true] at e
    rw [Bool.or_eq_true, Bool.and_eq_true]
    rcases e with e | ⟨e1, e2⟩
    · exact .inl (h q e)
    · exact .inr ⟨k q e1, e2⟩
  · rename_i hq; rw [if_neg hq] at e; exact h q e
def leA (A A' : List (List Bool)) : Prop := ∀ k, leL (A.getD k []) (A'.getD k [])
theorem gle_goals {A A' : List (List Bool)} (h : leA A A') (R : Nat) (b : Zb0) (l : List Int) : gle (Zbl A R b l) (Zbl A' R b l) := by
  unfold Zbl
  have : ∀ (l : List Int) (g g' : Nat → Bool), gle g g' → gle (l.foldl (fun g k => mgF g (A.getD k.toNat []) (butOf b) R) g) (l.foldl (fun g k => mgF g (A'.getD k.toNat []) (butOf b) R) g') := by
    intro l
    induction l with
    | nil => intro g g' h; exact h
    | cons x r ih => intro g g' hg; exact ih _ _ (gle_mg hg (h _) _ _)
  exact this l _ _ (fun _ h => h)
theorem gle_pad {A A' : List (List Bool)} (h : leA A A') (R : Nat) (f : Func) (b : Zb0) : gle (gPad A R f b) (gPad A' R f b) := by
  unfold gPad
  split
  · exact gle_mg (gle_goals h R b _) (h _) _ _
  · exact gle_goals h R b _
theorem gle_ins {A A' : List (List Bool)} (h : leA A A') (R : Nat) (f : Func) (b : Zb0) : gle (gIns A R f b) (gIns A' R f b) := by
  unfold gIns
  have : ∀ (l : List Ins) (g g' : Nat → Bool), gle g g' → gle (l.foldr Zc0 g) (l.foldr Zc0 g') := by
    intro l
    induction l with
    | nil => intro g g' h; exact h
    | cons x r ih => intro g g' hg; exact gle_step (ih _ _ hg)
  exact this _ _ _ (gle_all (gle_pad h R f b))
theorem le_new {A A' : List (List Bool)} (h : leA A A') (R : Nat) (f : Func) (n : Nat) : leL (Zda A R f n) (Zda A' R f n) := fun q e => by
  have hq : q < R := by
    refine Classical.byContradiction fun hc => ?_
    rw [getD_ge (by unfold Zda; rw [Zd2]; omega)] at e; cases e
  unfold Zda at e ⊢
  rw [Zex hq] at e ⊢
  exact gle_ins h R f _ q e
def cntA (A : List (List Bool)) : Nat := (A.map cnt).sum
theorem cntA_le {R : Nat} : ∀ {A : List (List Bool)}, (∀ a ∈ A, a.length = R) → cntA A ≤ A.length * R
  | [], _ => by simp [cntA]
  | a :: r, h => by
      have h1 := cntA_le (A := r) (R := R) (fun x hx => h x (List.mem_cons_of_mem _ hx))
      have h2 := cnt_le (a := a)
      have h3 := h a (List.mem_cons_self ..)
      have h4 : cntA (a :: r) = cnt a + cntA r := by simp [cntA]
      rw [h4, List.length_cons, Nat.succ_mul]; omega
theorem cntA_set : ∀ {A : List (List Bool)} {n : Nat} {a : List Bool}, n < A.length → (A.getD n []).length = a.length → leL (A.getD n []) a → cntA A ≤ cntA (A.set n a) ∧ (cntA (A.set n a) ≤ cntA A → a = A.getD n [])
  | [], n, a, h, _, _ => by simp at h
  | x :: r, 0, a, _, hl, hle => by
      have hx : (x :: r).getD 0 [] = x := rfl
      rw [hx] at hl hle
      have := cnt_mono hl hle
      have e1 : cntA (x :: r) = cnt x + cntA r := by simp [cntA]
      have e2 : cntA ((x :: r).set 0 a) = cnt a + cntA r := by simp [cntA]
      rw [e1, e2]
      exact ⟨by omega, fun h => by rw [hx]; exact (this.2 (by omega)).symm⟩
  | x :: r, n + 1, a, h, hl, hle => by
      have hx : (x :: r).getD (n + 1) [] = r.getD n [] := by simp
      rw [hx] at hl hle
      have := cntA_set (A := r) (n := n) (a := a) (by simpa using h) hl hle
      have e1 : cntA (x :: r) = cnt x + cntA r := by simp [cntA]
      have e2 : cntA ((x :: r).set (n + 1) a) = cnt x + cntA (r.set n a) := by simp [cntA]
      rw [e1, e2]
      exact ⟨by omega, fun h => by rw [hx]; exact this.2 (by omega)⟩
structure GoodS (f : Func) (s : SW) : Prop where
  l1 : s.1.length = f.blocks.length
  l2 : s.2.1.length = f.blocks.length
  e1 : ∀ i, i < f.blocks.length → (s.1.getD i []).length = f.regs.toNat
  e2 : ∀ i, i < f.blocks.length → (s.2.1.getD i []).length = f.regs.toNat
  le : ∀ i, i < f.blocks.length → leL (s.1.getD i []) (Zda s.1 f.regs.toNat f i)
theorem leA_set {A : List (List Bool)} {n : Nat} {a : List Bool} (h : leL (A.getD n []) a) : leA A (A.set n a) := fun k => by
  rw [Zbn]
  split
  · rename_i hk; rw [hk.1] at h; exact h
  · exact leL.refl _
theorem newAt_len (A : List (List Bool)) (R : Nat) (f : Func) (n : Nat) : (Zda A R f n).length = R := Zd2 _ _
theorem newBe_len (A : List (List Bool)) (R : Nat) (f : Func) (n : Nat) : (newBe A R f n).length = R := Zd2 _ _
theorem sw1_good {f : Func} {s : SW} (h : GoodS f s) {n : Nat} (hn : n < f.blocks.length) : GoodS f (sw1 f s n) ∧ cntA s.1 ≤ cntA (sw1 f s n).1 ∧ ((sw1 f s n).2.2 = true → s.2.2 = true ∨ cntA s.1 < cntA (sw1 f s n).1) := by
  have hn1 : n < s.1.length := by rw [h.l1]; exact hn
  have hn2 : n < s.2.1.length := by rw [h.l2]; exact hn
  have hle := h.le n hn
  have hA := leA_set hle
  have hc := cntA_set hn1 (by rw [h.e1 n hn, newAt_len]) hle
  refine ⟨⟨?_, ?_, fun i hi => ?_, fun i hi => ?_, fun i hi => ?_⟩, hc.1, fun e => ?_⟩
  · simp only [sw1, List.length_set]; exact h.l1
  · simp only [sw1, List.length_set]; exact h.l2
  · simp only [sw1]; rw [Zbn]; split
    · exact newAt_len ..
    · exact h.e1 i hi
  · simp only [sw1]; rw [Zbn]; split
    · exact newBe_len ..
    · exact h.e2 i hi
  · simp only [sw1]
    refine leL.trans ?_ (le_new hA f.regs.toNat f i)
    rw [Zbn]; split
    · rename_i hk; rw [← hk.1]; exact leL.refl _
    · exact h.le i hi
  · simp only [sw1, Bool.or_eq_true, decide_eq_true_eq] at e ⊢
    rcases e with e | e
    · refine .inr ?_
      refine Nat.lt_of_not_le fun hc2 => e (hc.2 hc2)
    · exact .inl e
theorem swD_good {f : Func} {s : SW} (h : GoodS f s) : ∀ {m : Nat}, m ≤ f.blocks.length → GoodS f (swD f s m) ∧ cntA s.1 ≤ cntA (swD f s m).1 ∧ ((swD f s m).2.2 = true → s.2.2 = true ∨ cntA s.1 < cntA (swD f s m).1)
  | 0, _ => ⟨h, Nat.le_refl _, fun e => .inl e⟩
  | m + 1, hm => by
      obtain ⟨h1, h2, h3⟩ := swD_good h (m := m) (by omega)
      obtain ⟨k1, k2, k3⟩ := sw1_good h1 (n := f.blocks.length - 1 - m) (by omega)
      refine ⟨k1, Nat.le_trans h2 k2, fun e => ?_⟩
      rcases k3 e with e | e
      · rcases h3 e with e | e
        · exact .inl e
        · exact .inr (Nat.lt_of_lt_of_le e k2)
      · exact .inr (Nat.lt_of_le_of_lt h2 e)
theorem Zdj (f : Func) {i : Nat} (hi : i < f.blocks.length) : (Zcu f).getD i [] = List.replicate f.regs.toNat false := by
  unfold Zcu; rw [List.getD_eq_getElem?_getD, List.getElem?_replicate, if_pos hi]; rfl
theorem init_good (f : Func) : GoodS f (Zcu f, Zcu f, true) := by
  refine ⟨by simp [Zcu], by simp [Zcu], fun i hi => ?_, fun i hi => ?_, fun i hi q e => ?_⟩
  · simp only; rw [Zdj f hi]; simp
  · simp only; rw [Zdj f hi]; simp
  · simp only at e; rw [Zdj f hi, List.getD_eq_getElem?_getD, List.getElem?_replicate] at e
    split at e <;> cases e
theorem GoodS.more {f : Func} {s : SW} (h : GoodS f s) (b : Bool) : GoodS f (s.1, s.2.1, b) := ⟨h.l1, h.l2, h.e1, h.e2, h.le⟩
theorem Zdf (f : Func) : ∀ j, GoodS f (itS f j) ∧ ((itS f j).2.2 = true → (∀ i, i < j → (itS f i).2.2 = true) → j ≤ cntA (itS f j).1)
  | 0 => ⟨init_good f, fun _ _ => Nat.zero_le _⟩
  | j + 1 => by
      obtain ⟨h1, h2⟩ := Zdf f j
      obtain ⟨k1, k2, k3⟩ := swD_good (h1.more false) (Nat.le_refl _)
      refine ⟨k1, fun e hi => ?_⟩
      have h3 := h2 (hi j (Nat.lt_succ_self j)) (fun i hij => hi i (by omega))
      rcases k3 e with e | e
      · cases e
      · exact Nat.lt_of_le_of_lt h3 e
theorem least_ex {p : Nat → Bool} : ∀ n, p n = false → ∃ J, p J = false ∧ ∀ j, j < J → p j = true := by
  intro n
  induction n using Nat.strongRecOn with
  | ind n ih =>
    intro h
    by_cases hc : ∃ j, j < n ∧ p j = false
    · obtain ⟨j, hj, e⟩ := hc
      exact ih j hj e
    · refine ⟨n, h, fun j hj => ?_⟩
      cases e : p j with
      | true => rfl
      | false => exact absurd ⟨j, hj, e⟩ hc
theorem it_stops (f : Func) : ∃ J, (itS f J).2.2 = false ∧ ∀ j, j < J → (itS f j).2.2 = true := by
  have : ∃ n, (itS f n).2.2 = false := by
    refine Classical.byContradiction fun hc => ?_
    have hall : ∀ n, (itS f n).2.2 = true := fun n => by
      cases e : (itS f n).2.2 with
      | true => rfl
      | false => exact absurd ⟨n, e⟩ hc
    have h1 := Zdf f (f.blocks.length * f.regs.toNat + 1)
    have h2 := h1.2 (hall _) (fun i _ => hall i)
    have h3 := cntA_le (R := f.regs.toNat) (A := (itS f (f.blocks.length * f.regs.toNat + 1)).1) (fun a ha => by
      obtain ⟨i, hi, e⟩ := List.getElem_of_mem ha
      have := h1.1.e1 i (by rw [← h1.1.l1]; exact hi)
      rw [Zbz [] hi, e] at this; exact this)
    rw [h1.1.l1] at h3
    omega
  obtain ⟨n, hn⟩ := this
  exact least_ex (p := fun n => (itS f n).2.2) n hn
noncomputable def Zcp (f : Func) : Nat := Classical.choose (it_stops f)
theorem foundJ_no (f : Func) : (itS f (Zcp f)).2.2 = false := (Classical.choose_spec (it_stops f)).1
theorem foundJ_lt (f : Func) {j : Nat} (h : j < Zcp f) : (itS f j).2.2 = true := (Classical.choose_spec (it_stops f)).2 j h
noncomputable def Zbm (f : Func) : List (List Bool) := if Zb8 f = true then (itS f (Zcp f)).1 else []
noncomputable def Zbi (f : Func) : List (List Bool) := if Zb8 f = true then (itS f (Zcp f)).2.1 else []
theorem set_same {A : List (List Bool)} {n : Nat} : A.set n (A.getD n []) = A := by
  induction A generalizing n with
  | nil => rfl
  | cons x r ih => cases n with
    | zero => rfl
    | succ n => simp only [List.set_cons_succ, List.getD_cons_succ]; rw [ih]
theorem swD_fix {f : Func} {s : SW} (h : GoodS f s) : ∀ {m : Nat}, m ≤ f.blocks.length → (swD f s m).2.2 = false → (swD f s m).1 = s.1 ∧ s.2.2 = false ∧ ∀ n, f.blocks.length - m ≤ n → n < f.blocks.length → Zda s.1 f.regs.toNat f n = s.1.getD n [] ∧ (swD f s m).2.1.getD n [] = newBe s.1 f.regs.toNat f n
  | 0, _, e => ⟨rfl, e, fun n h1 h2 => by omega⟩
  | m + 1, hm, e => by
      have hg := (swD_good h (m := m) (by omega)).1
      simp only [swD, sw1, Bool.or_eq_false_iff, decide_eq_false_iff_not, Decidable.not_not] at e ⊢
      obtain ⟨e1, e2⟩ := e
      obtain ⟨h1, h2, h3⟩ := swD_fix h (m := m) (by omega) e2
      rw [e1, set_same, h1]
      rw [h1] at e1
      refine ⟨rfl, h2, fun n hn1 hn2 => ?_⟩
      rw [Zbn]
      by_cases hc : f.blocks.length - 1 - m = n
      · subst hc
        refine ⟨e1, ?_⟩
        rw [if_pos ⟨rfl, by rw [hg.l2]; omega⟩]
      · rw [if_neg (fun h => hc h.1)]
        exact h3 n (by omega) hn2
structure FixP (f : Func) (A B : List (List Bool)) : Prop where
  l1 : A.length = f.blocks.length
  l2 : B.length = f.blocks.length
  e1 : ∀ i, i < f.blocks.length → (A.getD i []).length = f.regs.toNat
  e2 : ∀ i, i < f.blocks.length → (B.getD i []).length = f.regs.toNat
  at_ : ∀ n, n < f.blocks.length → Zda A f.regs.toNat f n = A.getD n []
  be : ∀ n, n < f.blocks.length → B.getD n [] = newBe A f.regs.toNat f n
theorem found_fix {f : Func} (h : Zb8 f = true) : FixP f (Zbm f) (Zbi f) := by
  unfold Zbm Zbi
  rw [if_pos h, if_pos h]
  have hno := foundJ_no f
  have hg := (Zdf f (Zcp f)).1
  cases hj : Zcp f with
  | zero => rw [hj] at hno; cases hno
  | succ j =>
    rw [hj] at hno hg
    have hgj := (Zdf f j).1.more false
    obtain ⟨h1, _, h3⟩ := swD_fix hgj (Nat.le_refl _) hno
    refine ⟨hg.l1, hg.l2, hg.e1, hg.e2, fun n hn => ?_, fun n hn => ?_⟩
    · have := (h3 n (by omega) hn).1
      have e : (itS f (j + 1)).1 = (itS f j).1 := h1
      rw [e]; exact this
    · have := (h3 n (by omega) hn).2
      have e : (itS f (j + 1)).1 = (itS f j).1 := h1
      rw [e]; exact this
theorem found_no {f : Func} (h : Zb8 f = false) : Zbm f = [] ∧ Zbi f = [] := by
  unfold Zbm Zbi; rw [if_neg (by rw [h]; simp), if_neg (by rw [h]; simp)]; exact ⟨rfl, rfl⟩
end Go.Proofs.Ytbcocllokcimeaa
namespace Go.Proofs.Ytbcocllokcimeaa
open Go Dv
set_option maxRecDepth 10000
set_option linter.unusedSimpArgs false
theorem whole_ok {f : Func} (h : Zb8 f = true) : ∃ ps : List Int, funcB (parM ps) f = true := by
  unfold Zb8 at h
  split at h
  · cases h
  · exact ⟨_, h⟩
theorem whole_fun {f : Func} (h : Zb8 f = true) : 0 ≤ f.regs ∧ f.regs ≤ 256 ∧ f.blocks.length ≤ 64 := by
  obtain ⟨ps, hp⟩ := whole_ok h
  unfold funcB at hp
  rw [Bool.and_eq_true, decide_eq_true_eq] at hp
  have := hp.1
  unfold FunP at this
  omega
abbrev falR (f : Func) (n : Nat) : Zak := .row true 1 n (fun _ => [bools (List.replicate f.regs.toNat false)])
theorem GVs_appK {src : Dv.Id → Option Dv.Id} {h h' : Zal} {k q : Nat} {f g : Nat → List AV} {ys : List AV} {K : List AV → List AV} (hq : q < k + 1) (h1 : q < k → GVs src h h' (K (f q)) ys) (h2 : q = k → GVs src h h' (K (g 0)) ys) : GVs src h h' (K (appR k f g q)) ys := by
  by_cases e : q < k
  · have : appR k f g q = f q := by unfold appR; rw [show Nat.blt q k = true from by rw [Nat.blt_eq]; exact e]; rfl
    rw [this]; exact h1 e
  · have e2 : q = k := by omega
    subst e2
    have : appR q f g q = g 0 := by unfold appR; rw [show Nat.blt q q = false from by rw [Bool.eq_false_iff]; intro h; rw [Nat.blt_eq] at h; omega, Nat.sub_self]; rfl
    rw [this]; exact h2 rfl
set_option maxHeartbeats 4000000 in
theorem c_found (f : Func) : HC Try.prog [] 11 [] [.agg (Zau f)] (.bp k0 0)
      [(k0, sBox f k1 k2 (Zbm f).length (Zbi f).length), (k1, setR (Zbm f) (Zbm f).length), (k2, setR (Zbi f) (Zbi f).length)] := by
  refine Zbf tok Try.func11 rfl (by decide +kernel) (Nat.le_of_ble_eq_true rfl) ?_
  have hmx : maxL = 4294967296 := rfl
  (repeat' ((fail_if_success (show AWp _ _ _ (Code.region 2 _ _) _ _)); first | refine Zad ?_ | (refine Zab tok (by rfl) ?_; conv => whnf)))
  refine Zab tok (by rfl) ?_
  conv => whnf
  refine .inl ⟨_, _, _, uG (QC.fc (c_whole f) rfl), ?_⟩
  conv => whnf
  refine Zah rfl (fun hb => ?_) (fun hb => ?_)
  · have hw : Zb8 f = false := by simpa using hb
    obtain ⟨e1, e2⟩ := found_no hw
    rw [e1, e2]
    (repeat' first | refine Zad ?_ | (refine Zab tok (by rfl) ?_; conv => whnf) | (refine Zaj ?_; conv => whnf))
    exact ⟨_, [(k0, .old (8, 0, 0), sBox f k1 k2 0 0), (k1, .nil, setR [] 0), (k2, .nil, setR [] 0)], rfl, rfl, rfl, rfl, .oldR rfl (BLeR.cells rfl (fun x hx => .cons .eq (.cons .eq (.cons .eq (.cons (.nil rfl) (.cons (.nil rfl) .nil)))))) (.new (.new .nil)), .eq rfl⟩
  have hw : Zb8 f = true := by simpa using hb
  clear hb
  obtain ⟨hr0, hr2, hfb⟩ := whole_fun hw
  refine (Zai ?_)
  conv => whnf
  (repeat' ((fail_if_success (show AWp _ _ _ (Code.region 5 _ _) _ _)); first | refine Zad ?_ | (refine Zab tok (by rfl) ?_; conv => whnf) | refine Zaf ?_))
  have falAt : ∀ x, [AV.bool false] = [AV.bool ((List.replicate f.regs.toNat false).getD x false)] := fun x => by
    rw [List.getD_eq_getElem?_getD, List.getElem?_replicate]; split <;> rfl
  refine Zap (fun k : Nat => mkS [(1, .bp (1, 0, 0) 0), (2, .np), (3, .bp (8, 0, 0) 0), (15, iv f.blocks.length), (16, iv k)] [((1, 0, 0), Za6 (Zau f)), ((8, 0, 0), sBox f (101, 0, 0) (102, 0, 0) k k), ((101, 0, 0), falR f k), ((102, 0, 0), falR f k)]) (fun k => k ≤ f.blocks.length) (fun k => f.blocks.length - k) 0 (Nat.zero_le _) ?_ ?_
  · refine Weak.list [((1, 0, 0), .old (1, 0, 0), Za6 (Zau f)), ((8, 0, 0), .old (8, 0, 0), sBox f (101, 0, 0) (102, 0, 0) 0 0), ((101, 0, 0), .nil, falR f 0), ((102, 0, 0), .nil, falR f 0)] rfl (by rfl) ?_ (.old rfl (BLe.refl _) (.oldR rfl (BLeR.cells rfl (fun x hx => .cons .eq (.cons .eq (.cons .eq (.cons (.nil rfl) (.cons (.nil rfl) .nil)))))) (.new (.new .nil))))
    ((repeat' first | exact TLes.nil | refine TLes.cons (TLe.eq rfl) ?_); skip)
  intro k hk
  (repeat' ((fail_if_success (show AWp _ _ _ (Code.region 6 _ _) _ _)); first | refine Zad ?_ | (refine Zab tok (by rfl) ?_; conv => whnf) | refine Zaf ?_ | (refine Zai ?_; conv => whnf) | (refine Zan ?_; conv => whnf) | refine Zah rfl (fun hb => ?_) (fun hb => ?_)))
  refine AWp_soft tok mix (by rfl) [0, 1, 2, 3, 4, 5, 6, 7, 11, 12, 13, 14, 15, 16] 20 (by rfl) (by rfl) (by rfl) ?_
  conv => whnf
  repeat' first
    | (refine @And.intro (Zaa _ _ _ _) _ ?_ ?_; rotate_left; (conv => whnf); rotate_right)
    | (guard_target = And _ _; refine @And.intro (gOp _ _ _ _ _ _ _ _ _) _ (by (conv => whnf); exact ⟨rfl, rfl⟩) ?_; conv => whnf)
    | (guard_target = And _ _; refine And.intro ?_ ?_ <;> (conv => whnf))
  all_goals (try ((guard_target = Zaa _ _ _ _); refine Zae ?_; (first | refine And.intro (srcObl_rs rfl ?_) ?_ | skip); (all_goals (try simp only [Zaa, kzz, kz11, kz12, maxL, Zac] at *)); all_goals omega))
  rotate_right
  · have hkl : k = f.blocks.length := by simp only [decide_eq_false_iff_not] at hb; omega
    clear hb
    subst hkl
    obtain ⟨ps, hfun⟩ := whole_ok hw
    skip
    refine Zap (fun j : Nat => mkS [(1, .bp (1, 0, 0) 0), (2, .np), (3, .bp (8, 0, 0) 0), (4, .bool (itS f j).2.2)] [((1, 0, 0), Za6 (Zau f)), ((8, 0, 0), sBox f (101, 0, 0) (102, 0, 0) f.blocks.length f.blocks.length), ((101, 0, 0), setR (itS f j).1 f.blocks.length), ((102, 0, 0), setR (itS f j).2.1 f.blocks.length)]) (fun j => j ≤ Zcp f) (fun j => Zcp f - j) 0 (Nat.zero_le _) ?_ ?_
    · refine Weak.list [((1, 0, 0), .old (1, 0, 0), Za6 (Zau f)), ((8, 0, 0), .old (8, 0, 0), sBox f (101, 0, 0) (102, 0, 0) f.blocks.length f.blocks.length), ((101, 0, 0), .old (101, 0, 0), setR (itS f 0).1 f.blocks.length), ((102, 0, 0), .old (102, 0, 0), setR (itS f 0).2.1 f.blocks.length)] rfl (by rfl) ?_ (.old rfl (BLe.refl _) (.old rfl (BLe.refl _) (.old rfl (BLe.rowW (Nat.le_refl _) (fun z hz => Wks.of (by rw [show (itS f 0).1 = Zcu f from rfl, Zdj f hz]; rfl))) (.old rfl (BLe.rowW (Nat.le_refl _) (fun z hz => Wks.of (by rw [show (itS f 0).2.1 = Zcu f from rfl, Zdj f hz]; rfl))) .nil))))
      ((repeat' first | exact TLes.nil | refine TLes.cons (TLe.eq rfl) ?_); skip)
    intro j hj
    (repeat' ((fail_if_success (show AWp _ _ _ (Code.region 10 _ _) _ _)); first | refine Zad ?_ | (refine Zab tok (by rfl) ?_; conv => whnf) | refine Zaf ?_ | (refine Zai ?_; conv => whnf) | (refine Zan ?_; conv => whnf) | (refine Zaj ?_; conv => whnf) | refine Zah rfl (fun hb => ?_) (fun hb => ?_)))
    · have hjl : j < Zcp f := by
        rcases Nat.lt_or_ge j (Zcp f) with h | h
        · exact h
        · have : j = Zcp f := by omega
          rw [this, foundJ_no] at hb; cases hb
      clear hb
      have hg := (Zdf f j).1.more false
      (repeat' ((fail_if_success (show AWp _ _ _ (Code.region 12 _ _) _ _)); first | refine Zad ?_ | (refine Zab tok (by rfl) ?_; conv => whnf) | refine Zaf ?_))
      refine Zap (fun m : Nat => mkS [(1, .bp (1, 0, 0) 0), (2, .np), (3, .bp (8, 0, 0) 0), (4, .bool (Prod.snd (Prod.snd (swD f ((itS f j).1, (itS f j).2.1, false) m)))), (5, iv ((f.blocks.length : Int) - 1 - ((m : Nat) : Int)))] [((1, 0, 0), Za6 (Zau f)), ((8, 0, 0), sBox f (101, 0, 0) (102, 0, 0) f.blocks.length f.blocks.length), ((101, 0, 0), setR (Prod.fst (swD f ((itS f j).1, (itS f j).2.1, false) m)) f.blocks.length), ((102, 0, 0), setR (Prod.fst (Prod.snd (swD f ((itS f j).1, (itS f j).2.1, false) m))) f.blocks.length)]) (fun m => m ≤ f.blocks.length) (fun m => f.blocks.length - m) 0 (Nat.zero_le _) ?_ ?_
      · refine Weak.list [((1, 0, 0), .old (1, 0, 0), Za6 (Zau f)), ((8, 0, 0), .old (8, 0, 0), sBox f (101, 0, 0) (102, 0, 0) f.blocks.length f.blocks.length), ((101, 0, 0), .old (101, 0, 0), setR (Prod.fst (swD f ((itS f j).1, (itS f j).2.1, false) 0)) f.blocks.length), ((102, 0, 0), .old (102, 0, 0), setR (Prod.fst (Prod.snd (swD f ((itS f j).1, (itS f j).2.1, false) 0))) f.blocks.length)] rfl (by rfl) ?_ (.old rfl (BLe.refl _) (.old rfl (BLe.refl _) (.old rfl (BLe.refl _) (.old rfl (BLe.refl _) .nil))))
        ((repeat' first | exact TLes.nil | refine TLes.cons (TLe.eq rfl) ?_ | refine TLes.cons (TLe.int ?_) ?_); (all_goals first | ((try (simp only [Zaa, kzz, kz11, kz12, maxL, Zac] at *)); (simp (disch := omega) only [wrap64]; omega)) | skip))
      intro m hm
      (repeat' ((fail_if_success (show AWp _ _ _ (Code.region 14 _ _) _ _)); first | refine Zad ?_ | (refine Zab tok (by rfl) ?_; conv => whnf) | refine Zaf ?_ | (refine Zai ?_; conv => whnf) | (refine Zan ?_; conv => whnf) | refine Zah rfl (fun hb => ?_) (fun hb => ?_)))
      · have hml : m < f.blocks.length := by simp only [decide_eq_true_eq] at hb; omega
        clear hb
        have hgen : ∃ n : Nat, n = f.blocks.length - 1 - m := ⟨_, rfl⟩
        obtain ⟨n, hn⟩ := hgen
        have hni : (f.blocks.length : Int) - 1 - (m : Int) = (n : Int) := by omega
        have hg2 := (swD_good hg (m := m) (by omega)).1
        have hsucc : swD f ((itS f j).1, (itS f j).2.1, false) (m + 1) = sw1 f (swD f ((itS f j).1, (itS f j).2.1, false) m) n := by rw [hn]; rfl
        have hgen : ∃ s : SW, swD f ((itS f j).1, (itS f j).2.1, false) m = s := ⟨_, rfl⟩
        obtain ⟨s, hs⟩ := hgen
        simp only [hs] at hg2 hsucc ⊢
        have hcall : ∀ y, y = (n : Int) → HC Try.prog [k0, k1, k2] 18 [(k0, sBox f k1 k2 f.blocks.length f.blocks.length), (k1, setR s.1 f.blocks.length), (k2, setR s.2.1 f.blocks.length)] [.bp k0 0, iv y] (.bool (decide (Zda s.1 f.regs.toNat f n ≠ s.1.getD n [])))
            [(k0, sBox f k1 k2 f.blocks.length f.blocks.length), (k1, setR (s.1.set n (Zda s.1 f.regs.toNat f n)) f.blocks.length), (k2, setR (s.2.1.set n (newBe s.1 f.regs.toNat f n)) f.blocks.length)] := fun y e => by
          have := c_over f n s.1 s.2.1 hr0 hr2 ⟨hg2.l1, fun i hi => by rw [hg2.e1 i (by rw [← hg2.l1]; exact hi)]; omega⟩ hg2.l2 (by omega) hfb (okL hfun (by omega))
          rw [hg2.l1, hg2.l2] at this
          rw [e]; exact this
        by_cases hc : Zda s.1 f.regs.toNat f n = s.1.getD n []
        · refine Zd8 tok (fun j => bif Nat.beq j 3 then some false else none) (by rfl) ?_
          conv => whnf
          refine .inr ⟨_, _, _, uG (QH.of (dead := []) [(k0, .old (8, 0, 0), sBox f k1 k2 f.blocks.length f.blocks.length), (k1, .old (101, 0, 0), setR s.1 f.blocks.length), (k2, .old (102, 0, 0), setR s.2.1 f.blocks.length)] (hcall _ hni) rfl (.old rfl (BLe.rowO rfl) (.old rfl (BLe.refl _) (.old rfl (BLe.refl _) .nil))) (.cons (.eq rfl) (.cons (.eq rfl) .nil)) [(k0, (8, 0, 0)), (k1, (101, 0, 0)), (k2, (102, 0, 0))] rfl (.cons rfl (BLe.rowO rfl) (.cons rfl (BLe.refl _) (.cons rfl (BLe.refl _) .nil))) rfl), ?_⟩
          conv => whnf
          refine ⟨by rw [decide_eq_false (fun h => h hc)], ?_⟩
          conv => whnf
          (repeat' (refine Zab tok (by rfl) ?_; conv => whnf))
          refine ⟨m + 1, hml, by omega, ?_⟩
          show Weak _ _ _ (mkS [(1, .bp (1, 0, 0) 0), (2, .np), (3, .bp (8, 0, 0) 0), (4, .bool (Prod.snd (Prod.snd (swD f ((itS f j).1, (itS f j).2.1, false) (m + 1))))), (5, iv ((f.blocks.length : Int) - 1 - (((m + 1) : Nat) : Int)))] [((1, 0, 0), Za6 (Zau f)), ((8, 0, 0), sBox f (101, 0, 0) (102, 0, 0) f.blocks.length f.blocks.length), ((101, 0, 0), setR (Prod.fst (swD f ((itS f j).1, (itS f j).2.1, false) (m + 1))) f.blocks.length), ((102, 0, 0), setR (Prod.fst (Prod.snd (swD f ((itS f j).1, (itS f j).2.1, false) (m + 1)))) f.blocks.length)])
          rw [hsucc]
          refine Weak.list [((1, 0, 0), .old (1, 0, 0), Za6 (Zau f)), ((8, 0, 0), .old (8, 0, 0), sBox f (101, 0, 0) (102, 0, 0) f.blocks.length f.blocks.length), ((101, 0, 0), .old (101, 0, 0), setR (Prod.fst (sw1 f s n)) f.blocks.length), ((102, 0, 0), .old (102, 0, 0), setR (Prod.fst (Prod.snd (sw1 f s n))) f.blocks.length)] rfl (by rfl) ?_ (.old rfl (BLe.refl _) (.old rfl (BLe.refl _) (.old rfl (BLe.rowW (Nat.le_refl _) (fun z hz => Wks.of (by unfold sw1; rfl))) (.old rfl (BLe.rowW (Nat.le_refl _) (fun z hz => Wks.of (by unfold sw1; rfl))) .nil))))
          ((repeat' first | exact TLes.nil | refine TLes.cons (TLe.eq rfl) ?_ | refine TLes.cons (TLe.int ?_) ?_ | refine TLes.cons (TLe.bool ?_) ?_); (all_goals first | ((try (simp only [Zaa, kzz, kz11, kz12, maxL, Zac] at *)); (simp (disch := omega) only [wrap64]; omega)) | skip))
          simp only [sw1, cond_false]
          rw [decide_eq_false (fun h => h hc)]; rfl
        · refine Zd8 tok (fun j => bif Nat.beq j 3 then some true else none) (by rfl) ?_
          conv => whnf
          refine .inr ⟨_, _, _, uG (QH.of (dead := []) [(k0, .old (8, 0, 0), sBox f k1 k2 f.blocks.length f.blocks.length), (k1, .old (101, 0, 0), setR s.1 f.blocks.length), (k2, .old (102, 0, 0), setR s.2.1 f.blocks.length)] (hcall _ hni) rfl (.old rfl (BLe.rowO rfl) (.old rfl (BLe.refl _) (.old rfl (BLe.refl _) .nil))) (.cons (.eq rfl) (.cons (.eq rfl) .nil)) [(k0, (8, 0, 0)), (k1, (101, 0, 0)), (k2, (102, 0, 0))] rfl (.cons rfl (BLe.rowO rfl) (.cons rfl (BLe.refl _) (.cons rfl (BLe.refl _) .nil))) rfl), ?_⟩
          conv => whnf
          refine ⟨by rw [decide_eq_true hc], ?_⟩
          conv => whnf
          (repeat' (refine Zab tok (by rfl) ?_; conv => whnf))
          refine ⟨m + 1, hml, by omega, ?_⟩
          show Weak _ _ _ (mkS [(1, .bp (1, 0, 0) 0), (2, .np), (3, .bp (8, 0, 0) 0), (4, .bool (Prod.snd (Prod.snd (swD f ((itS f j).1, (itS f j).2.1, false) (m + 1))))), (5, iv ((f.blocks.length : Int) - 1 - (((m + 1) : Nat) : Int)))] [((1, 0, 0), Za6 (Zau f)), ((8, 0, 0), sBox f (101, 0, 0) (102, 0, 0) f.blocks.length f.blocks.length), ((101, 0, 0), setR (Prod.fst (swD f ((itS f j).1, (itS f j).2.1, false) (m + 1))) f.blocks.length), ((102, 0, 0), setR (Prod.fst (Prod.snd (swD f ((itS f j).1, (itS f j).2.1, false) (m + 1)))) f.blocks.length)])
          rw [hsucc]
          refine Weak.list [((1, 0, 0), .old (1, 0, 0), Za6 (Zau f)), ((8, 0, 0), .old (8, 0, 0), sBox f (101, 0, 0) (102, 0, 0) f.blocks.length f.blocks.length), ((101, 0, 0), .old (101, 0, 0), setR (Prod.fst (sw1 f s n)) f.blocks.length), ((102, 0, 0), .old (102, 0, 0), setR (Prod.fst (Prod.snd (sw1 f s n))) f.blocks.length)] rfl (by rfl) ?_ (.old rfl (BLe.refl _) (.old rfl (BLe.refl _) (.old rfl (BLe.rowW (Nat.le_refl _) (fun z hz => Wks.of (by unfold sw1; rfl))) (.old rfl (BLe.rowW (Nat.le_refl _) (fun z hz => Wks.of (by unfold sw1; rfl))) .nil))))
          ((repeat' first | exact TLes.nil | refine TLes.cons (TLe.eq rfl) ?_ | refine TLes.cons (TLe.int ?_) ?_ | refine TLes.cons (TLe.bool ?_) ?_); (all_goals first | ((try (simp only [Zaa, kzz, kz11, kz12, maxL, Zac] at *)); (simp (disch := omega) only [wrap64]; omega)) | skip))
          simp only [sw1, decide_eq_true hc, Bool.true_or, cond_true]
      have hml : m = f.blocks.length := by simp only [decide_eq_false_iff_not] at hb; omega
      clear hb
      subst hml
      refine ⟨j + 1, hjl, by omega, ?_⟩
      refine Weak.list [((1, 0, 0), .old (1, 0, 0), Za6 (Zau f)), ((8, 0, 0), .old (8, 0, 0), sBox f (101, 0, 0) (102, 0, 0) f.blocks.length f.blocks.length), ((101, 0, 0), .old (101, 0, 0), setR (itS f (j + 1)).1 f.blocks.length), ((102, 0, 0), .old (102, 0, 0), setR (itS f (j + 1)).2.1 f.blocks.length)] rfl (by rfl) ?_ (.old rfl (BLe.refl _) (.old rfl (BLe.refl _) (.old rfl (BLe.refl _) (.old rfl (BLe.refl _) .nil))))
      ((repeat' first | exact TLes.nil | refine TLes.cons (TLe.eq rfl) ?_); skip)
    have hjl : j = Zcp f := by
      rcases Nat.lt_or_ge j (Zcp f) with h | h
      · rw [foundJ_lt f h] at hb; cases hb
      · omega
    clear hb
    have hA : Zbm f = (itS f j).1 := by unfold Zbm; rw [if_pos hw, hjl]
    have hB : Zbi f = (itS f j).2.1 := by unfold Zbi; rw [if_pos hw, hjl]
    have hg := (Zdf f j).1
    rw [hA, hB, hg.l1, hg.l2]
    skip
    exact ⟨_, [(k0, .old (8, 0, 0), sBox f k1 k2 f.blocks.length f.blocks.length), (k1, .old (101, 0, 0), setR (itS f j).1 f.blocks.length), (k2, .old (102, 0, 0), setR (itS f j).2.1 f.blocks.length)], rfl, rfl, rfl, rfl, .old rfl (BLe.rowO rfl) (.old rfl (BLe.refl _) (.old rfl (BLe.refl _) .nil)), .eq rfl⟩
  all_goals
    have hkl : k < f.blocks.length := by simp only [decide_eq_true_eq] at hb; omega
    refine Zat (Weak.fam (tl := [(1, .bp (1, 0, 0) 0), (2, .np), (3, .bp (8, 0, 0) 0), (15, iv f.blocks.length), (16, iv k)]) (hl := [((1, 0, 0), Za6 (Zau f)), ((8, 0, 0), sBox f (101, 0, 0) (102, 0, 0) (k + 1) (k + 1)), ((101, 0, 0), falR f (k + 1)), ((102, 0, 0), falR f (k + 1))]) (F := noH) [((101, 0, 0), some (28, 0, 0)), ((102, 0, 0), some (37, 0, 0))] rfl (fun c hc => by simp only [tgts, List.mem_cons, List.not_mem_nil, or_false] at hc; rcases hc with rfl | rfl <;> exact .inl rfl) ?_ ?_ noF (fun i hi => by cases hi)) ?_
    · (repeat' first | exact TLg.nil | refine TLg.cons (GV.imm rfl) ?_ | refine TLg.cons (GV.bp rfl rfl) ?_)
    · refine .old rfl rfl (GB.one (GVs.imm rfl) (fun _ => rfl)) (.old rfl rfl (GB.one (.cons (.imm rfl) (.cons (.imm rfl) (.cons (.imm rfl) (.cons (.rs rfl rfl rfl rfl) (.cons (.rs rfl rfl rfl rfl) .nil))))) (fun e => by cases e)) (.old rfl rfl (GB.row (Nat.le_refl _) (fun q hq => ?_) (fun _ _ _ => rfl)) (.old rfl rfl (GB.row (Nat.le_refl _) (fun q hq => ?_) (fun _ _ _ => rfl)) .nil)))
      · exact GVs_appK (K := fun l => Zbj (kill (102, 0, 0)) (Zbj (kill (101, 0, 0)) l)) hq (fun _ => GVs.imm rfl) (fun _ => .cons (.frz (hd_no rfl) rfl (Nat.le_of_eq (Nat.zero_add _)) (List.length_replicate).symm (fun x hx => GVs.eqI rfl (falAt x)) (fun _ _ => rfl)) .nil)
      · exact GVs_appK (K := fun l => Zbj (kill (102, 0, 0)) l) hq (fun _ => GVs.imm rfl) (fun _ => .cons (.frz (hd_no rfl) rfl (Nat.le_of_eq (Nat.zero_add _)) (List.length_replicate).symm (fun x hx => GVs.eqI rfl (falAt x)) (fun _ _ => rfl)) .nil)
    · (repeat' (refine Zab tok (by rfl) ?_; conv => whnf))
      refine ⟨k + 1, hkl, by omega, ?_⟩
      refine Weak.list [((1, 0, 0), .old (1, 0, 0), Za6 (Zau f)), ((8, 0, 0), .old (8, 0, 0), sBox f (101, 0, 0) (102, 0, 0) (k+1) (k+1)), ((101, 0, 0), .old (101, 0, 0), falR f (k+1)), ((102, 0, 0), .old (102, 0, 0), falR f (k+1))] rfl (by rfl) ?_ (.old rfl (BLe.refl _) (.old rfl (BLe.refl _) (.old rfl (BLe.refl _) (.old rfl (BLe.refl _) .nil))))
      ((repeat' first | exact TLes.nil | refine TLes.cons (TLe.eq rfl) ?_ | refine TLes.cons (TLe.int ?_) ?_); (all_goals first | ((try (simp only [Zaa, kzz, kz11, kz12, maxL, Zac] at *)); exact wrap64 (by omega) (by omega)) | skip))
end Go.Proofs.Ytbcocllokcimeaa
namespace Go.Proofs.Ytbcocllokcimeaa
open Go Dv
set_option maxRecDepth 10000
set_option linter.unusedSimpArgs false
def famB (n R : Nat) (g : Nat → Nat → Bool) : Zal := famC 1002 (fun p q => bif Nat.blt p n && Nat.beq q 0 then some (Zav R (g p)) else none)
abbrev rowB (n R : Nat) : Zak := .row false 1 n (fun q => [.rs (1002, q, 0) 1 0 R])
def atB (B : List (List Bool)) (p x : Nat) : Bool := (B.getD p []).getD x false
theorem famB_some {n R : Nat} {g : Nat → Nat → Bool} {j : Dv.Id} {b : Zak} (h : famB n R g j = some b) : ∃ p, j = (1002, p, 0) ∧ p < n ∧ b = Zav R (g p) := by
  obtain ⟨p, q, rfl, h2⟩ := famC_some h
  cases e : (Nat.blt p n && Nat.beq q 0) with
  | false => rw [e] at h2; cases h2
  | true =>
    rw [e] at h2
    rw [Bool.and_eq_true, Nat.blt_eq] at e
    have := Nat.eq_of_beq_eq_true e.2
    subst this
    exact ⟨p, rfl, e.1, (Option.some.inj h2).symm⟩
theorem Zb6 {n R p : Nat} {g : Nat → Nat → Bool} (h : p < n) : famB n R g (1002, p, 0) = some (Zav R (g p)) := by
  show (bif Nat.blt p n && Nat.beq 0 0 then _ else none) = _
  rw [show Nat.blt p n = true from by rw [Nat.blt_eq]; exact h]; rfl
theorem keepB {src : Dv.Id → Option Dv.Id} {h h' : Zal} {n R : Nat} {g : Nat → Nat → Bool} (h1 : ∀ p, p < n → ∃ i imm m f0, src (1002, p, 0) = some i ∧ h i = some (.row imm 1 m f0) ∧ R ≤ m ∧ ∀ x, x < R → Zby (f0 x) = true ∧ f0 x = [.bool (g p x)]) : ∀ j b, famB n R g j = some b → HOk src h h' j b := by
  intro j b e
  obtain ⟨p, rfl, hp, rfl⟩ := famB_some e
  obtain ⟨i, imm, m, f0, e1, e2, e3, e4⟩ := h1 p hp
  exact HOk.mk e1 e2 (GB.rowI e3 e4)
theorem keepB0 {src : Dv.Id → Option Dv.Id} {h h' : Zal} {n R : Nat} {g : Nat → Nat → Bool} (hs : ∀ p, src (1002, p, 0) = some (1002, p, 0)) (hh : ∀ p, h (1002, p, 0) = famB n R g (1002, p, 0)) : ∀ j b, famB n R g j = some b → HOk src h h' j b :=
  keepB (fun p hp => ⟨(1002, p, 0), _, _, _, hs p, (hh p).trans (Zb6 hp), Nat.le_refl _, fun _ _ => ⟨rfl, rfl⟩⟩)
theorem srcK_eq {k : Nat} {o : Option Dv.Id} : srcL [((1002, k, 0), o)] (1002, k, 0) = o := by
  show (bif idEq (1002, k, 0) (1002, k, 0) then _ else _) = _
  rw [Za5.2 rfl]; rfl
theorem srcK_ne {k q : Nat} {o : Option Dv.Id} (h : q ≠ k) : srcL [((1002, k, 0), o)] (1002, q, 0) = some (1002, q, 0) := by
  show (bif idEq (1002, k, 0) (1002, q, 0) then _ else _) = _
  rw [Zbc.2 (fun e => h (congrArg (fun x => x.2.1) e).symm)]; rfl
theorem leaveL {h : Zal} {hl : List (Dv.Id × Zak)} {F : Zal} (S : List (Dv.Id × Option Dv.Id)) (hn : Zcg (tgts S) = true) (hf : ∀ i ∈ tgts S, orH (Za9 hl) F i = none ∨ i ∈ S.map (·.1)) (hh : HLs (srcL S) h (orH (Za9 hl) F) hl)
    (hF : ∀ j b, F j = some b → HOk (srcL S) h (orH (Za9 hl) F) j b) :
    (∀ j j' i, (orH (Za9 hl) F j).isSome = true → (orH (Za9 hl) F j').isSome = true → srcL S j = some i → srcL S j' = some i → j = j') ∧ ∀ j b, orH (Za9 hl) F j = some b → HOk (srcL S) h (orH (Za9 hl) F) j b :=
  ⟨srcL_inj hn hf, fun j b e => by
    rcases orH_some e with e1 | ⟨_, e1⟩
    · exact hh.spec e1
    · exact hF j b e1⟩
theorem look_pull {a b : Dv.Id × Zak} {r : List (Dv.Id × Zak)} {i : Dv.Id} {X : Zak} (ha : idEq a.1 i = false) (hb : idEq b.1 i = false) : Za9 (a :: b :: (i, X) :: r) = updH (Za9 (a :: b :: r)) i (some X) := by
  funext j
  simp only [Za9, updH]
  by_cases e : j = i
  · subst e
    rw [ha, hb, Za5.2 rfl]; rfl
  · rw [Zbc.2 e, Zbc.2 (Ne.symm e)]; rfl
theorem QH.cast {P : Program} {h : Zal} {f : FuncId} {args : List AV} {dead : List Dv.Id} {u u' : Zal} {r : AV} (e : u = u') (hq : QH P h f args dead u r) : QH P h f args dead u' r := e ▸ hq
theorem ng_box {X : Nat → Prop} {ι : Zag} {w : World} {h : Zal} {vals : List Value} {y : AV} {i ia ib : Dv.Id} {na nb : Nat} {f : Func} (s : Sim X h ι w) (hb : h i = some (sBox f ia ib na nb)) (hV : Vs w (Own X ι) [.bp i 0, y] ι vals) : ι ib ≠ some .ghost := by
  simp only [Vs] at hV
  obtain ⟨v, r, _, h1, _⟩ := hV
  simp only [V] at h1
  cases e : ι i with
  | none => rw [e] at h1; exact h1.elim
  | some l =>
    cases l with
    | nil => rw [e] at h1; exact h1.elim
    | ghost => rw [e] at h1; exact h1.elim
    | «at» b c =>
      have := s.rel _ _ _ hb e
      simp only [BRel] at this
      obtain ⟨arr, T, _, _, _, h4⟩ := this
      have h5 := (h4 0 Nat.zero_lt_one).2
      simp only [sCells, Vc, cond_false] at h5
      obtain ⟨_, _, _, _, ⟨v, _, _, h6⟩, _⟩ := h5
      simp only [V] at h6
      intro e2; rw [e2] at h6; exact h6
abbrev u3 : Dv.Id := (903, 0, 0)
abbrev u4 : Dv.Id := (904, 0, 0)
abbrev u5 : Dv.Id := (905, 0, 0)
noncomputable abbrev fndH (f : Func) : Zal := orH (Za9 [(u5, sBox f u4 u3 (Zbm f).length (Zbi f).length), (u4, setR (Zbm f) (Zbm f).length), (u3, rowB (Zbi f).length f.regs.toNat)]) (famB (Zbi f).length f.regs.toNat (atB (Zbi f)))
theorem bigH_atX {dead : List Dv.Id} {u h : Zal} {j : Dv.Id} {b : Zak} (e : u j = some b) : bigH dead u h j = some b := by unfold bigH; rw [e]
theorem lookNX {hl : List (Dv.Id × Zak)} {F : Zal} {i : Dv.Id} (h : (orH (Za9 hl) F i).isSome = true) : i ∈ hl.map (·.1) ∨ (F i).isSome = true := by
  unfold orH at h
  induction hl with
  | nil => exact .inr h
  | cons p r ih =>
    obtain ⟨k, b⟩ := p
    simp only [Za9] at h
    cases e : idEq k i with
    | true => have := Za5.1 e; subst this; exact .inl (by simp)
    | false =>
      rw [e] at h
      rcases ih h with h1 | h1
      · exact .inl (by simp only [List.map_cons, List.mem_cons]; exact .inr h1)
      · exact .inr h1
theorem BLe_S2 {ρ : Dv.Id → Option Dv.Id} (n nb m : Nat) (vals : Nat → Value) {i : Dv.Id} (h : ρ k5 = some i) : BLe (Dv.mapB ρ (rowS n nb m vals)) (.row false 1 nb (fun q => [bif Nat.beq q n then .rs i 1 0 m else .is (vals q)])) := by
  have : Dv.mapB ρ (rowS n nb m vals) = .row false 1 nb (fun q => [bif Nat.beq q n then .rs i 1 0 m else .is (vals q)]) := by
    unfold rowS Dv.mapB
    simp only [cond_false]
    congr 1
    funext q
    show [Zbb ρ (bif Nat.beq q n then .rs k5 1 0 m else .is (vals q))] = _
    cases Nat.beq q n
    · rfl
    · show [Zbb ρ (.rs k5 1 0 m)] = _
      simp only [Zbb, h]; rfl
  rw [this]; exact BLe.refl _
set_option maxHeartbeats 4000000 in
theorem c_foundX (f : Func) : HF Try.prog 11 [.agg (Zau f)] (.bp u5 0) (fndH f) := by
  refine HF_intro tok Try.func11 rfl (by decide +kernel) (Nat.le_of_ble_eq_true rfl) ?_
  have hmx : maxL = 4294967296 := rfl
  (repeat' ((fail_if_success (show AWp _ _ _ (Code.region 2 _ _) _ _)); first | refine Zad ?_ | (refine Zab tok (by rfl) ?_; conv => whnf)))
  refine Zab tok (by rfl) ?_
  conv => whnf
  refine .inl ⟨_, _, _, uG (QC.fc (c_whole f) rfl), ?_⟩
  conv => whnf
  refine Zah rfl (fun hb => ?_) (fun hb => ?_)
  · have hw : Zb8 f = false := by simpa using hb
    obtain ⟨e1, e2⟩ := found_no hw
    (repeat' first | refine Zad ?_ | (refine Zab tok (by rfl) ?_; conv => whnf) | (refine Zaj ?_; conv => whnf))
    unfold fndH
    rw [e1, e2]
    refine ⟨_, srcL [(u5, some (8, 0, 0)), (u4, none), (u3, none)], rfl, ?_⟩
    rw [← and_assoc]
    exact ⟨leaveL [(u5, some (8, 0, 0)), (u4, none), (u3, none)] rfl (fun c hc => by simp only [tgts, List.mem_singleton] at hc; subst hc; exact .inl rfl)
      (.old rfl rfl (GB.one (.cons (.imm rfl) (.cons (.imm rfl) (.cons (.imm rfl) (.cons (.nil rfl rfl rfl) (.cons (.nil rfl rfl rfl) .nil))))) (fun e => by cases e)) (.new rfl (.new rfl .nil))) (keepB (fun p hp => absurd hp (Nat.not_lt_zero p))), .bp rfl rfl⟩
  have hw : Zb8 f = true := by simpa using hb
  clear hb
  obtain ⟨hr0, hr2, hfb⟩ := whole_fun hw
  refine (Zai ?_)
  conv => whnf
  (repeat' ((fail_if_success (show AWp _ _ _ (Code.region 5 _ _) _ _)); first | refine Zad ?_ | (refine Zab tok (by rfl) ?_; conv => whnf) | refine Zaf ?_))
  have falAt : ∀ x, [AV.bool false] = [AV.bool ((List.replicate f.regs.toNat false).getD x false)] := fun x => by
    rw [List.getD_eq_getElem?_getD, List.getElem?_replicate]; split <;> rfl
  refine Zap (fun k : Nat => mkF [(1, .bp (1, 0, 0) 0), (2, .np), (3, .bp (8, 0, 0) 0), (15, iv f.blocks.length), (16, iv k)] [((1, 0, 0), Za6 (Zau f)), ((8, 0, 0), sBox f (101, 0, 0) (102, 0, 0) k k), ((101, 0, 0), falR f k), ((102, 0, 0), rowB k f.regs.toNat)] (famB k f.regs.toNat (fun _ _ => false))) (fun k => k ≤ f.blocks.length) (fun k => f.blocks.length - k) 0 (Nat.zero_le _) ?_ ?_
  · refine Weak.fam [((101, 0, 0), none), ((102, 0, 0), none)] rfl (fun i hi => by cases hi) ?_ ?_ (keepB (fun p hp => absurd hp (Nat.not_lt_zero p))) (fun i hi => by cases hi)
    · (repeat' first | exact TLg.nil | refine TLg.cons (GV.imm rfl) ?_ | refine TLg.cons (GV.bp rfl rfl) ?_)
      all_goals rfl
    · exact .old rfl rfl (GB.one (GVs.imm rfl) (fun _ => rfl)) (.old rfl rfl (GB.one (.cons (.imm rfl) (.cons (.imm rfl) (.cons (.imm rfl) (.cons (.nil rfl rfl rfl) (.cons (.nil rfl rfl rfl) .nil))))) (fun e => by cases e)) (.new rfl (.new rfl .nil)))
  intro k hk
  (repeat' ((fail_if_success (show AWp _ _ _ (Code.region 6 _ _) _ _)); first | refine Zad ?_ | (refine Zab tok (by rfl) ?_; conv => whnf) | refine Zaf ?_ | (refine Zai ?_; conv => whnf) | (refine Zan ?_; conv => whnf) | refine Zah rfl (fun hb => ?_) (fun hb => ?_)))
  refine AWp_soft tok mix (by rfl) [0, 1, 2, 3, 4, 5, 6, 7, 11, 12, 13, 14, 15, 16] 20 (by rfl) (by rfl) (by rfl) ?_
  conv => whnf
  repeat' first
    | (refine @And.intro (Zaa _ _ _ _) _ ?_ ?_; rotate_left; (conv => whnf); rotate_right)
    | (guard_target = And _ _; refine @And.intro (gOp _ _ _ _ _ _ _ _ _) _ (by (conv => whnf); exact ⟨rfl, rfl⟩) ?_; conv => whnf)
    | (guard_target = And _ _; refine And.intro ?_ ?_ <;> (conv => whnf))
  all_goals (try ((guard_target = Zaa _ _ _ _); refine Zae ?_; (first | refine And.intro (srcObl_rs rfl ?_) ?_ | skip); (all_goals (try simp only [Zaa, kzz, kz11, kz12, maxL, Zac] at *)); all_goals omega))
  rotate_right
  · have hkl : k = f.blocks.length := by simp only [decide_eq_false_iff_not] at hb; omega
    clear hb
    subst hkl
    obtain ⟨ps, hfun⟩ := whole_ok hw
    skip
    refine Zap (fun j : Nat => mkF [(1, .bp (1, 0, 0) 0), (2, .np), (3, .bp (8, 0, 0) 0), (4, .bool (itS f j).2.2)] [((1, 0, 0), Za6 (Zau f)), ((8, 0, 0), sBox f (101, 0, 0) (102, 0, 0) f.blocks.length f.blocks.length), ((101, 0, 0), setR (itS f j).1 f.blocks.length), ((102, 0, 0), rowB f.blocks.length f.regs.toNat)] (famB f.blocks.length f.regs.toNat (atB (itS f j).2.1))) (fun j => j ≤ Zcp f) (fun j => Zcp f - j) 0 (Nat.zero_le _) ?_ ?_
    · refine Weak.fam [] rfl (fun i hi => by cases hi) ?_ ?_ (keepB (fun p hp => ⟨(1002, p, 0), true, f.regs.toNat, fun x => [.bool false], rfl, (show famB f.blocks.length f.regs.toNat (fun _ _ => false) (1002, p, 0) = _ from Zb6 hp), Nat.le_refl _, fun x hx => ⟨rfl, ?_⟩⟩)) (fun i hi => by cases hi)
      · (repeat' first | exact TLg.nil | refine TLg.cons (GV.imm rfl) ?_ | refine TLg.cons (GV.bp rfl rfl) ?_)
        all_goals rfl
      · refine .old rfl rfl (GB.one (GVs.imm rfl) (fun _ => rfl)) (.old rfl rfl (GB.one (.cons (.imm rfl) (.cons (.imm rfl) (.cons (.imm rfl) (.cons (.rs rfl rfl rfl rfl) (.cons (.rs rfl rfl rfl rfl) .nil))))) (fun e => by cases e)) (.old rfl rfl (GB.rowI (Nat.le_refl _) (fun q hq => ⟨rfl, ?_⟩)) (.old rfl rfl (GB.row (Nat.le_refl _) (fun q hq => .cons (.rs (Zb6 hq) rfl rfl rfl) .nil) (fun e => by cases e)) .nil)))
        rw [show (itS f 0).1 = Zcu f from rfl, Zdj f hq]
      · unfold atB; rw [show (itS f 0).2.1 = Zcu f from rfl, Zdj f hp]
        exact falAt x
    intro j hj
    (repeat' ((fail_if_success (show AWp _ _ _ (Code.region 10 _ _) _ _)); first | refine Zad ?_ | (refine Zab tok (by rfl) ?_; conv => whnf) | refine Zaf ?_ | (refine Zai ?_; conv => whnf) | (refine Zan ?_; conv => whnf) | (refine Zaj ?_; conv => whnf) | refine Zah rfl (fun hb => ?_) (fun hb => ?_)))
    · have hjl : j < Zcp f := by
        rcases Nat.lt_or_ge j (Zcp f) with h | h
        · exact h
        · have : j = Zcp f := by omega
          rw [this, foundJ_no] at hb; cases hb
      clear hb
      have hg := (Zdf f j).1.more false
      (repeat' ((fail_if_success (show AWp _ _ _ (Code.region 12 _ _) _ _)); first | refine Zad ?_ | (refine Zab tok (by rfl) ?_; conv => whnf) | refine Zaf ?_))
      refine Zap (fun m : Nat => mkF [(1, .bp (1, 0, 0) 0), (2, .np), (3, .bp (8, 0, 0) 0), (4, .bool (Prod.snd (Prod.snd (swD f ((itS f j).1, (itS f j).2.1, false) m)))), (5, iv ((f.blocks.length : Int) - 1 - ((m : Nat) : Int)))] [((1, 0, 0), Za6 (Zau f)), ((8, 0, 0), sBox f (101, 0, 0) (102, 0, 0) f.blocks.length f.blocks.length), ((101, 0, 0), setR (Prod.fst (swD f ((itS f j).1, (itS f j).2.1, false) m)) f.blocks.length), ((102, 0, 0), rowB f.blocks.length f.regs.toNat)] (famB f.blocks.length f.regs.toNat (atB (Prod.fst (Prod.snd (swD f ((itS f j).1, (itS f j).2.1, false) m)))))) (fun m => m ≤ f.blocks.length) (fun m => f.blocks.length - m) 0 (Nat.zero_le _) ?_ ?_
      · refine Weak.fam [] rfl (fun i hi => by cases hi) ?_ ?_ (keepB0 (fun _ => rfl) (fun _ => rfl)) (fun i hi => by cases hi)
        · (repeat' first | exact TLg.nil | refine TLg.cons (GV.imm rfl) ?_ | refine TLg.cons (GV.bp rfl rfl) ?_ | refine TLg.cons (GV.int ?_) ?_)
          all_goals first | rfl | (simp (disch := omega) only [wrap64]; omega)
        · exact .old rfl rfl (GB.one (GVs.imm rfl) (fun _ => rfl)) (.old rfl rfl (GB.one (.cons (.imm rfl) (.cons (.imm rfl) (.cons (.imm rfl) (.cons (.rs rfl rfl rfl rfl) (.cons (.rs rfl rfl rfl rfl) .nil))))) (fun e => by cases e)) (.old rfl rfl (GB.rowI (Nat.le_refl _) (fun q hq => ⟨rfl, rfl⟩)) (.old rfl rfl (GB.row (Nat.le_refl _) (fun q hq => .cons (.rs (Zb6 hq) rfl rfl rfl) .nil) (fun e => by cases e)) .nil)))
      intro m hm
      (repeat' ((fail_if_success (show AWp _ _ _ (Code.region 14 _ _) _ _)); first | refine Zad ?_ | (refine Zab tok (by rfl) ?_; conv => whnf) | refine Zaf ?_ | (refine Zai ?_; conv => whnf) | (refine Zan ?_; conv => whnf) | refine Zah rfl (fun hb => ?_) (fun hb => ?_)))
      · have hml : m < f.blocks.length := by simp only [decide_eq_true_eq] at hb; omega
        clear hb
        have hgen : ∃ n : Nat, n = f.blocks.length - 1 - m := ⟨_, rfl⟩
        obtain ⟨n, hn⟩ := hgen
        have hni : (f.blocks.length : Int) - 1 - (m : Int) = (n : Int) := by omega
        have hg2 := (swD_good hg (m := m) (by omega)).1
        have hsucc : swD f ((itS f j).1, (itS f j).2.1, false) (m + 1) = sw1 f (swD f ((itS f j).1, (itS f j).2.1, false) m) n := by rw [hn]; rfl
        have hgen : ∃ s : SW, swD f ((itS f j).1, (itS f j).2.1, false) m = s := ⟨_, rfl⟩
        obtain ⟨s, hs⟩ := hgen
        simp only [hs] at hg2 hsucc ⊢
        have hgen : ∃ be, newBe s.1 f.regs.toNat f n = be := ⟨_, rfl⟩
        obtain ⟨be, hbe⟩ := hgen
        have hcall : ∀ (vals : Nat → Value) y, y = (n : Int) → HC Try.prog [k0, k1, k2] 18 [(k0, sBox f k1 k2 f.blocks.length f.blocks.length), (k1, setR s.1 f.blocks.length), (k2, rowX (fun q => .is (vals q)) f.blocks.length)] [.bp k0 0, iv y] (.bool (decide (Zda s.1 f.regs.toNat f n ≠ s.1.getD n [])))
            [(k0, sBox f k1 k2 f.blocks.length f.blocks.length), (k1, setR (s.1.set n (Zda s.1 f.regs.toNat f n)) f.blocks.length), (k2, rowS n f.blocks.length f.regs.toNat vals), (k5, Zav f.regs.toNat (fun q => be.getD q false))] := fun vals y e => by
          have := c_overX f n s.1 vals f.blocks.length hr0 hr2 ⟨hg2.l1, fun i hi => by rw [hg2.e1 i (by rw [← hg2.l1]; exact hi)]; omega⟩ rfl (by omega) hfb (okL hfun (by omega))
          rw [hg2.l1, hbe] at this
          rw [e]; exact this
        have hnB : n < s.2.1.length := by have := hg2.l2; omega
        have hB1 : ∀ x, atB (sw1 f s n).2.1 n x = be.getD x false := fun x => by
          have e : (sw1 f s n).2.1 = s.2.1.set n be := by rw [← hbe]; rfl
          unfold atB; rw [e, Zbn, if_pos ⟨rfl, hnB⟩]
        have hB2 : ∀ p x, p ≠ n → atB (sw1 f s n).2.1 p x = atB s.2.1 p x := fun p x hp => by
          have e : (sw1 f s n).2.1 = s.2.1.set n be := by rw [← hbe]; rfl
          unfold atB; rw [e, Zbn, if_neg (fun h => hp h.1.symm)]
        by_cases hc : Zda s.1 f.regs.toNat f n = s.1.getD n []
        · refine Zd8 tok (fun j => bif Nat.beq j 3 then some false else none) (by rfl) ?_
          conv => whnf
          refine .inr ⟨_, _, _, uG (QH.opq (i := (102, 0, 0)) (imm := false) (n := f.blocks.length) (n' := f.blocks.length) (imm' := false) (y := fun q => .rs (1002, q, 0) 1 0 f.regs.toNat) (z := fun _ => .rs (54, 0, 0) 1 0 f.regs.toNat) (sel := fun q => Nat.beq q n) (ups0 := Za9 [((8, 0, 0), sBox f (101, 0, 0) (102, 0, 0) f.blocks.length f.blocks.length), ((101, 0, 0), setR (s.1.set n (Zda s.1 f.regs.toNat f n)) f.blocks.length), ((54, 0, 0), Zav f.regs.toNat (fun q => be.getD q false))]) rfl (fun X ι w vals hs hV => ng_box hs rfl hV)
            (fun vals => QH.cast (look_pull rfl rfl) (QH.of (dead := []) [(k0, .old (8, 0, 0), sBox f k1 k2 f.blocks.length f.blocks.length), (k1, .old (101, 0, 0), setR s.1 f.blocks.length), (k2, .old (102, 0, 0), rowX (fun q => .is (vals q)) f.blocks.length)] (hcall vals _ hni) rfl (.old rfl (BLe.rowO rfl) (.old rfl (BLe.refl _) (.old rfl (BLe.refl _) .nil))) (.cons (.eq rfl) (.cons (.eq rfl) .nil)) [(k0, (8, 0, 0)), (k1, (101, 0, 0)), (k2, (102, 0, 0)), (k5, (54, 0, 0))] rfl (.cons rfl (BLe.rowO rfl) (.cons rfl (BLe.refl _) (.cons rfl (BLe_S2 n _ f.regs.toNat vals rfl) (.cons rfl (BLe.refl _) .nil)))) rfl)) (Nat.le_refl _)), ?_⟩
          conv => whnf
          refine ⟨by rw [decide_eq_false (fun h => h hc)], ?_⟩
          conv => whnf
          (repeat' (refine Zab tok (by rfl) ?_; conv => whnf))
          refine ⟨m + 1, hml, by omega, ?_⟩
          show Weak _ _ _ (mkF [(1, .bp (1, 0, 0) 0), (2, .np), (3, .bp (8, 0, 0) 0), (4, .bool (Prod.snd (Prod.snd (swD f ((itS f j).1, (itS f j).2.1, false) (m + 1))))), (5, iv ((f.blocks.length : Int) - 1 - (((m + 1) : Nat) : Int)))] [((1, 0, 0), Za6 (Zau f)), ((8, 0, 0), sBox f (101, 0, 0) (102, 0, 0) f.blocks.length f.blocks.length), ((101, 0, 0), setR (Prod.fst (swD f ((itS f j).1, (itS f j).2.1, false) (m + 1))) f.blocks.length), ((102, 0, 0), rowB f.blocks.length f.regs.toNat)] (famB f.blocks.length f.regs.toNat (atB (Prod.fst (Prod.snd (swD f ((itS f j).1, (itS f j).2.1, false) (m + 1)))))))
          rw [hsucc]
          refine Weak.fam [((1002, n, 0), some (54, 0, 0))] rfl (fun c hc => by simp only [tgts, List.mem_singleton] at hc; subst hc; exact .inl rfl) ?_ ?_ (keepB (fun p hp => ?_)) (fun i hi => by cases hi)
          · (repeat' first | exact TLg.nil | refine TLg.cons (GV.imm rfl) ?_ | refine TLg.cons (GV.bp rfl rfl) ?_ | refine TLg.cons (GV.int ?_) ?_ | refine TLg.cons (GV.bool ?_) ?_)
            all_goals first | rfl | (simp (disch := omega) only [wrap64]; omega) | skip
            · simp only [sw1, cond_false]; rw [decide_eq_false (fun h => h hc)]; rfl
          · refine .old rfl rfl (GB.one (GVs.imm rfl) (fun _ => rfl)) (.old rfl rfl (GB.one (.cons (.imm rfl) (.cons (.imm rfl) (.cons (.imm rfl) (.cons (.rs rfl rfl rfl rfl) (.cons (.rs rfl rfl rfl rfl) .nil))))) (fun e => by cases e)) (.old rfl rfl (GB.rowI (Nat.le_refl _) (fun q hq => ⟨rfl, by unfold sw1; rfl⟩)) (.old rfl rfl (GB.row (Nat.le_refl _) (fun q hq => ?_) (fun e => by cases e)) .nil)))
            by_cases e : q = n
            · subst e
              exact .cons (.cc (x' := .rs (54, 0, 0) 1 0 f.regs.toNat) (show (bif Nat.beq q q then _ else _) = _ by rw [show Nat.beq q q = true by simp]; rfl) rfl (.rs (Zb6 hq) srcK_eq rfl rfl)) .nil
            · have e' : Nat.beq q n = false := by rw [Bool.eq_false_iff]; intro h; exact e (Nat.eq_of_beq_eq_true h)
              exact .cons (.cc (x' := .rs (1002, q, 0) 1 0 f.regs.toNat) (show (bif Nat.beq q n then _ else _) = _ by rw [e']; rfl) rfl (.rs (Zb6 hq) (srcK_ne e) rfl rfl)) .nil
          · by_cases e : p = n
            · subst e
              exact ⟨(54, 0, 0), _, _, _, srcK_eq, rfl, Nat.le_refl _, fun x hx => ⟨rfl, by rw [hB1 x]⟩⟩
            · refine ⟨(1002, p, 0), true, f.regs.toNat, fun x => [.bool (atB s.2.1 p x)], srcK_ne e, ?_, Nat.le_refl _, fun x hx => ⟨rfl, by rw [hB2 p x e]⟩⟩
              show Option.map _ (famB f.blocks.length f.regs.toNat (atB s.2.1) (1002, p, 0)) = _
              rw [Zb6 hp]; rfl
        · refine Zd8 tok (fun j => bif Nat.beq j 3 then some true else none) (by rfl) ?_
          conv => whnf
          refine .inr ⟨_, _, _, uG (QH.opq (i := (102, 0, 0)) (imm := false) (n := f.blocks.length) (n' := f.blocks.length) (imm' := false) (y := fun q => .rs (1002, q, 0) 1 0 f.regs.toNat) (z := fun _ => .rs (54, 0, 0) 1 0 f.regs.toNat) (sel := fun q => Nat.beq q n) (ups0 := Za9 [((8, 0, 0), sBox f (101, 0, 0) (102, 0, 0) f.blocks.length f.blocks.length), ((101, 0, 0), setR (s.1.set n (Zda s.1 f.regs.toNat f n)) f.blocks.length), ((54, 0, 0), Zav f.regs.toNat (fun q => be.getD q false))]) rfl (fun X ι w vals hs hV => ng_box hs rfl hV)
            (fun vals => QH.cast (look_pull rfl rfl) (QH.of (dead := []) [(k0, .old (8, 0, 0), sBox f k1 k2 f.blocks.length f.blocks.length), (k1, .old (101, 0, 0), setR s.1 f.blocks.length), (k2, .old (102, 0, 0), rowX (fun q => .is (vals q)) f.blocks.length)] (hcall vals _ hni) rfl (.old rfl (BLe.rowO rfl) (.old rfl (BLe.refl _) (.old rfl (BLe.refl _) .nil))) (.cons (.eq rfl) (.cons (.eq rfl) .nil)) [(k0, (8, 0, 0)), (k1, (101, 0, 0)), (k2, (102, 0, 0)), (k5, (54, 0, 0))] rfl (.cons rfl (BLe.rowO rfl) (.cons rfl (BLe.refl _) (.cons rfl (BLe_S2 n _ f.regs.toNat vals rfl) (.cons rfl (BLe.refl _) .nil)))) rfl)) (Nat.le_refl _)), ?_⟩
          conv => whnf
          refine ⟨by rw [decide_eq_true hc], ?_⟩
          conv => whnf
          (repeat' (refine Zab tok (by rfl) ?_; conv => whnf))
          refine ⟨m + 1, hml, by omega, ?_⟩
          show Weak _ _ _ (mkF [(1, .bp (1, 0, 0) 0), (2, .np), (3, .bp (8, 0, 0) 0), (4, .bool (Prod.snd (Prod.snd (swD f ((itS f j).1, (itS f j).2.1, false) (m + 1))))), (5, iv ((f.blocks.length : Int) - 1 - (((m + 1) : Nat) : Int)))] [((1, 0, 0), Za6 (Zau f)), ((8, 0, 0), sBox f (101, 0, 0) (102, 0, 0) f.blocks.length f.blocks.length), ((101, 0, 0), setR (Prod.fst (swD f ((itS f j).1, (itS f j).2.1, false) (m + 1))) f.blocks.length), ((102, 0, 0), rowB f.blocks.length f.regs.toNat)] (famB f.blocks.length f.regs.toNat (atB (Prod.fst (Prod.snd (swD f ((itS f j).1, (itS f j).2.1, false) (m + 1)))))))
          rw [hsucc]
          refine Weak.fam [((1002, n, 0), some (54, 0, 0))] rfl (fun c hc => by simp only [tgts, List.mem_singleton] at hc; subst hc; exact .inl rfl) ?_ ?_ (keepB (fun p hp => ?_)) (fun i hi => by cases hi)
          · (repeat' first | exact TLg.nil | refine TLg.cons (GV.imm rfl) ?_ | refine TLg.cons (GV.bp rfl rfl) ?_ | refine TLg.cons (GV.int ?_) ?_ | refine TLg.cons (GV.bool ?_) ?_)
            all_goals first | rfl | (simp (disch := omega) only [wrap64]; omega) | skip
            · simp only [sw1, decide_eq_true hc, Bool.true_or, cond_true]
          · refine .old rfl rfl (GB.one (GVs.imm rfl) (fun _ => rfl)) (.old rfl rfl (GB.one (.cons (.imm rfl) (.cons (.imm rfl) (.cons (.imm rfl) (.cons (.rs rfl rfl rfl rfl) (.cons (.rs rfl rfl rfl rfl) .nil))))) (fun e => by cases e)) (.old rfl rfl (GB.rowI (Nat.le_refl _) (fun q hq => ⟨rfl, by unfold sw1; rfl⟩)) (.old rfl rfl (GB.row (Nat.le_refl _) (fun q hq => ?_) (fun e => by cases e)) .nil)))
            by_cases e : q = n
            · subst e
              exact .cons (.cc (x' := .rs (54, 0, 0) 1 0 f.regs.toNat) (show (bif Nat.beq q q then _ else _) = _ by rw [show Nat.beq q q = true by simp]; rfl) rfl (.rs (Zb6 hq) srcK_eq rfl rfl)) .nil
            · have e' : Nat.beq q n = false := by rw [Bool.eq_false_iff]; intro h; exact e (Nat.eq_of_beq_eq_true h)
              exact .cons (.cc (x' := .rs (1002, q, 0) 1 0 f.regs.toNat) (show (bif Nat.beq q n then _ else _) = _ by rw [e']; rfl) rfl (.rs (Zb6 hq) (srcK_ne e) rfl rfl)) .nil
          · by_cases e : p = n
            · subst e
              exact ⟨(54, 0, 0), _, _, _, srcK_eq, rfl, Nat.le_refl _, fun x hx => ⟨rfl, by rw [hB1 x]⟩⟩
            · refine ⟨(1002, p, 0), true, f.regs.toNat, fun x => [.bool (atB s.2.1 p x)], srcK_ne e, ?_, Nat.le_refl _, fun x hx => ⟨rfl, by rw [hB2 p x e]⟩⟩
              show Option.map _ (famB f.blocks.length f.regs.toNat (atB s.2.1) (1002, p, 0)) = _
              rw [Zb6 hp]; rfl
      have hml : m = f.blocks.length := by simp only [decide_eq_false_iff_not] at hb; omega
      clear hb
      subst hml
      refine ⟨j + 1, hjl, by omega, ?_⟩
      refine Weak.fam [] rfl (fun i hi => by cases hi) ?_ ?_ (keepB0 (fun _ => rfl) (fun _ => rfl)) (fun i hi => by cases hi)
      · (repeat' first | exact TLg.nil | refine TLg.cons (GV.imm rfl) ?_ | refine TLg.cons (GV.bp rfl rfl) ?_)
        all_goals rfl
      · exact .old rfl rfl (GB.one (GVs.imm rfl) (fun _ => rfl)) (.old rfl rfl (GB.one (.cons (.imm rfl) (.cons (.imm rfl) (.cons (.imm rfl) (.cons (.rs rfl rfl rfl rfl) (.cons (.rs rfl rfl rfl rfl) .nil))))) (fun e => by cases e)) (.old rfl rfl (GB.rowI (Nat.le_refl _) (fun q hq => ⟨rfl, rfl⟩)) (.old rfl rfl (GB.row (Nat.le_refl _) (fun q hq => .cons (.rs (Zb6 hq) rfl rfl rfl) .nil) (fun e => by cases e)) .nil)))
    have hjl : j = Zcp f := by
      rcases Nat.lt_or_ge j (Zcp f) with h | h
      · rw [foundJ_lt f h] at hb; cases hb
      · omega
    clear hb
    have hA : Zbm f = (itS f j).1 := by unfold Zbm; rw [if_pos hw, hjl]
    have hB : Zbi f = (itS f j).2.1 := by unfold Zbi; rw [if_pos hw, hjl]
    have hg := (Zdf f j).1
    skip
    unfold fndH
    rw [hA, hB, hg.l1, hg.l2]
    refine ⟨_, srcL [(u5, some (8, 0, 0)), (u4, some (101, 0, 0)), (u3, some (102, 0, 0))], rfl, ?_⟩
    rw [← and_assoc]
    refine ⟨leaveL [(u5, some (8, 0, 0)), (u4, some (101, 0, 0)), (u3, some (102, 0, 0))] rfl (fun c hc => ?_) ?_ (keepB0 (fun _ => rfl) (fun _ => rfl)), .bp rfl rfl⟩
    · simp only [tgts, List.mem_cons, List.not_mem_nil, or_false] at hc
      rcases hc with rfl | rfl | rfl <;> exact .inl rfl
    · exact .old rfl rfl (GB.one (.cons (.imm rfl) (.cons (.imm rfl) (.cons (.imm rfl) (.cons (.rs rfl rfl rfl rfl) (.cons (.rs rfl rfl rfl rfl) .nil))))) (fun e => by cases e)) (.old rfl rfl (GB.rowI (Nat.le_refl _) (fun q hq => ⟨rfl, rfl⟩)) (.old rfl rfl (GB.row (Nat.le_refl _) (fun q hq => .cons (.rs (Zb6 hq) rfl rfl rfl) .nil) (fun e => by cases e)) .nil))
  all_goals
    have hkl : k < f.blocks.length := by simp only [decide_eq_true_eq] at hb; omega
    refine Zat (Weak.fam (tl := [(1, .bp (1, 0, 0) 0), (2, .np), (3, .bp (8, 0, 0) 0), (15, iv f.blocks.length), (16, iv k)]) (hl := [((1, 0, 0), Za6 (Zau f)), ((8, 0, 0), sBox f (101, 0, 0) (102, 0, 0) (k + 1) (k + 1)), ((101, 0, 0), falR f (k + 1)), ((102, 0, 0), rowB (k + 1) f.regs.toNat)]) (F := (famB (k + 1) f.regs.toNat (fun _ _ => false))) [((101, 0, 0), some (28, 0, 0)), ((102, 0, 0), some (37, 0, 0)), ((1002, k, 0), some (35, 0, 0))] rfl (fun c hc => by simp only [tgts, List.mem_cons, List.not_mem_nil, or_false] at hc; rcases hc with rfl | rfl | rfl <;> exact .inl rfl) ?_ ?_ (keepB (fun p hp => ?_)) (fun i hi => by cases hi)) ?_
    · (repeat' first | exact TLg.nil | refine TLg.cons (GV.imm rfl) ?_ | refine TLg.cons (GV.bp rfl rfl) ?_)
    · refine .old rfl rfl (GB.one (GVs.imm rfl) (fun _ => rfl)) (.old rfl rfl (GB.one (.cons (.imm rfl) (.cons (.imm rfl) (.cons (.imm rfl) (.cons (.rs rfl rfl rfl rfl) (.cons (.rs rfl rfl rfl rfl) .nil))))) (fun e => by cases e)) (.old rfl rfl (GB.row (Nat.le_refl _) (fun q hq => ?_) (fun _ _ _ => rfl)) (.old rfl rfl (GB.row (Nat.le_refl _) (fun q hq => ?_) (fun e => by cases e)) .nil)))
      · exact GVs_appK (K := fun l => Zbj (kill (102, 0, 0)) (Zbj (kill (101, 0, 0)) l)) hq (fun _ => GVs.imm rfl) (fun _ => .cons (.frz (hd_of rfl (fun j hj => by obtain ⟨b, hb⟩ := Option.isSome_iff_exists.1 hj; obtain ⟨p, rfl, hp, _⟩ := famB_some hb; by_cases e : p = k; (subst e; exact fun h => by cases (show srcL [((1002, p, 0), some (35, 0, 0))] (1002, p, 0) = _ from h).symm.trans srcK_eq); (exact fun h => by cases (show srcL [((1002, k, 0), some (35, 0, 0))] (1002, p, 0) = _ from h).symm.trans (srcK_ne e)))) rfl (Nat.le_of_eq (Nat.zero_add _)) (List.length_replicate).symm (fun x hx => GVs.eqI rfl (falAt x)) (fun _ _ => rfl)) .nil)
      · exact GVs_appK (K := fun l => Zbj (kill (102, 0, 0)) l) hq (fun e => .cons (.rs (Zb6 hq) (show srcL [((1002, k, 0), some (35, 0, 0))] (1002, q, 0) = _ from srcK_ne (by omega)) rfl rfl) .nil) (fun e => .cons (.rs (Zb6 hq) (show srcL [((1002, k, 0), some (35, 0, 0))] (1002, q, 0) = some (35, 0, 0) from by rw [e]; exact srcK_eq) rfl rfl) .nil)
    · by_cases e : p = k
      · subst e
        exact ⟨(35, 0, 0), _, _, _, show srcL [((1002, p, 0), some (35, 0, 0))] (1002, p, 0) = _ from srcK_eq, rfl, Nat.le_refl _, fun x hx => ⟨rfl, rfl⟩⟩
      · refine ⟨(1002, p, 0), true, f.regs.toNat, fun x => [.bool false], show srcL [((1002, k, 0), some (35, 0, 0))] (1002, p, 0) = _ from srcK_ne e, ?_, Nat.le_refl _, fun x hx => ⟨rfl, rfl⟩⟩
        show Option.map _ (Option.map _ (famB k f.regs.toNat (fun _ _ => false) (1002, p, 0))) = _
        rw [Zb6 (by omega)]; rfl
    · (repeat' (refine Zab tok (by rfl) ?_; conv => whnf))
      refine ⟨k + 1, hkl, by omega, ?_⟩
      refine Weak.fam [] rfl (fun i hi => by cases hi) ?_ ?_ (keepB0 (fun _ => rfl) (fun _ => rfl)) (fun i hi => by cases hi)
      · (repeat' first | exact TLg.nil | refine TLg.cons (GV.imm rfl) ?_ | refine TLg.cons (GV.bp rfl rfl) ?_ | refine TLg.cons (GV.int ?_) ?_)
        all_goals first | rfl | (simp (disch := omega) only [wrap64]; omega)
      · exact .old rfl rfl (GB.one (GVs.imm rfl) (fun _ => rfl)) (.old rfl rfl (GB.one (.cons (.imm rfl) (.cons (.imm rfl) (.cons (.imm rfl) (.cons (.rs rfl rfl rfl rfl) (.cons (.rs rfl rfl rfl rfl) .nil))))) (fun e => by cases e)) (.old rfl rfl (GB.rowI (Nat.le_refl _) (fun q hq => ⟨rfl, rfl⟩)) (.old rfl rfl (GB.row (Nat.le_refl _) (fun q hq => .cons (.rs (Zb6 hq) rfl rfl rfl) .nil) (fun e => by cases e)) .nil)))
theorem c_BehindX (f : Func) : HF Try.prog 13 [.agg (Zau f)] (.rs u3 1 0 (Zbi f).length) (orH (Za9 [(u3, rowB (Zbi f).length f.regs.toNat)]) (famB (Zbi f).length f.regs.toNat (atB (Zbi f)))) := by
  refine HF_intro tok Try.func13 rfl (by decide +kernel) (Nat.le_of_ble_eq_true rfl) ?_
  (repeat' first | refine Zad ?_ | (refine Zab tok (by rfl) ?_; conv => whnf))
  refine .inr ⟨_, _, _, uG (QH.ofF (c_foundX f) rfl (fun i hi => ?_)), ?_⟩
  · rcases lookNX hi with h | h
    · simp only [List.map_cons, List.map_nil, List.mem_cons, List.not_mem_nil, or_false] at h
      rcases h with rfl | rfl | rfl <;> rfl
    · obtain ⟨b, hb⟩ := Option.isSome_iff_exists.1 h
      obtain ⟨p, rfl, _⟩ := famB_some hb
      rfl
  conv => whnf
  (repeat' (refine Zaj ?_; conv => whnf))
  refine ⟨_, srcL [], rfl, ?_⟩
  rw [← and_assoc]
  exact ⟨leaveL [] rfl (fun c hc => by cases hc) (.old rfl rfl (GB.row (Nat.le_refl _) (fun q hq => .cons (.rs (Zb6 hq) rfl rfl rfl) .nil) (fun e => by cases e)) .nil) (keepB (fun p hp => ⟨(1002, p, 0), true, f.regs.toNat, fun x => [.bool (atB (Zbi f) p x)], rfl, bigH_atX (u := fndH f) (Zb6 hp), Nat.le_refl _, fun x hx => ⟨rfl, rfl⟩⟩)), .rs rfl rfl rfl rfl⟩
end Go.Proofs.Ytbcocllokcimeaa
namespace Go.Proofs.Ytbcocllokcimeaa
open Go Dv
set_option maxRecDepth 10000
set_option linter.unusedSimpArgs false
def mayB (x : Ins) : Bool := decide (x.op = 1 ∨ x.op = 2 ∨ x.op = 3 ∨ x.op = 4 ∨ x.op = 5 ∨ x.op = 7 ∨ x.op = 8)
theorem c_may (x : Ins) : FC Try.prog 25 [.agg (Zaz x)] (.bool (mayB x)) := by
  refine Za1 tok Try.func25 rfl (by decide +kernel) (Nat.le_of_ble_eq_true rfl) ?_
  (repeat' first | refine Zad ?_ | (refine Zab tok (by rfl) ?_; conv => whnf) | refine Zaf ?_ | (refine Zai ?_; conv => whnf) | (refine Zaj ?_; conv => whnf) | refine Zah rfl (fun hb => ?_) (fun hb => ?_))
  all_goals (refine ⟨_, rfl, Rel.bool ?_⟩; symm; unfold mayB)
  all_goals (simp only [decide_eq_true_eq, decide_eq_false_iff_not] at * <;> omega)
structure RvI {α : Type} (d : α) (l : List α) (i : Nat) (r : List α) : Prop where
  len : r.length = l.length
  hi : 2 * i ≤ l.length + 1
  out : ∀ x, (x < i ∨ l.length - i ≤ x) → x < l.length → r.getD x d = l.getD (l.length - 1 - x) d
  mid : ∀ x, i ≤ x → x < l.length - i → r.getD x d = l.getD x d
theorem RvI.step {α : Type} {d : α} {l : List α} {i : Nat} {r : List α} (h : RvI d l i r) (hi : 2 * i + 1 < l.length) :
    RvI d l (i + 1) ((r.set i (r.getD (l.length - 1 - i) d)).set (l.length - 1 - i) (r.getD i d)) := by
  have hl := h.len
  refine ⟨by simp [hl], by omega, fun x hx hxl => ?_, fun x h1 h2 => ?_⟩
  · rw [Zbn, Zbn]
    simp only [List.length_set]
    by_cases e1 : l.length - 1 - i = x
    · rw [if_pos ⟨e1, by omega⟩, h.mid i (by omega) (by omega)]; congr 1; omega
    · rw [if_neg (fun h => e1 h.1)]
      by_cases e2 : i = x
      · rw [if_pos ⟨e2, by omega⟩, h.mid _ (by omega) (by omega), e2]
      · rw [if_neg (fun h => e2 h.1)]
        exact h.out x (by omega) hxl
  · rw [Zbn, Zbn]
    rw [if_neg (by omega), if_neg (by omega)]
    exact h.mid x (by omega) (by omega)
theorem RvI.done {α : Type} {d : α} {l : List α} {i : Nat} {r : List α} (h : RvI d l i r) (hi : l.length ≤ 2 * i + 1) : r = l.reverse := by
  apply List.ext_getElem
  · simp [h.len]
  · intro x h1 h2
    have hx : x < l.length := by rw [← h.len]; exact h1
    have e : r.getD x d = l.getD (l.length - 1 - x) d := by
      by_cases c : x < i ∨ l.length - i ≤ x
      · exact h.out x c hx
      · rw [h.mid x (by omega) (by omega)]; congr 1; omega
    rw [List.getElem_reverse]
    simpa [List.getD_eq_getElem?_getD, h1, show l.length - 1 - x < l.length by omega] using e
theorem upIns {r : List Ins} {K J : Nat} {X Y : Ins} {i j z : Nat} (hK : K = i) (hJ : J = j) (hi : i < r.length) (hj : j < r.length) : updR (updR (fun q => Zaz (r.getD q default)) K (Zaz X)) J (Zaz Y) z = Zaz (((r.set i X).set j Y).getD z default) := by
  subst hK; subst hJ
  rw [Zbn, Zbn]
  simp only [List.length_set]
  by_cases e1 : J = z
  · subst e1; rw [if_pos ⟨rfl, hj⟩]; exact updR_hit
  · rw [if_neg (fun h => e1 h.1)]
    refine (Zeb e1).trans ?_
    by_cases e2 : K = z
    · subst e2; rw [if_pos ⟨rfl, hi⟩]; exact updR_hit
    · rw [if_neg (fun h => e2 h.1)]; exact Zeb e2
theorem c_ReverseI (l : List Ins) : HC Try.prog [k0] 28 [(k0, insR l)] [.rs k0 7 0 l.length] (.tup []) [(k0, insR l.reverse)] := by
  refine Zbf tok Try.func28 rfl (by decide +kernel) (Nat.le_of_ble_eq_true rfl) ?_
  refine Zar 0 (fun hl => ?_)
  have hmx : maxL = 4294967296 := rfl
  have hl0 : l.length ≤ maxL := hl
  clear hl
  (repeat' first | refine Zad ?_ | (refine Zab tok (by rfl) ?_; conv => whnf) | refine Zaf ?_)
  refine Zap (fun s : Nat × List Ins => mkS [(0, .rs k0 7 0 l.length), (2, iv s.1), (3, iv ((l.length : Int) - 1 - ((s.1 : Nat) : Int)))] [((1, 7, 0), .row true 7 l.length (fun j => Zaz (List.getD s.2 j default)))]) (fun s => RvI default l s.1 s.2) (fun s => l.length - s.1) (0, l) ⟨rfl, by simp, fun x hx h => by omega, fun x _ _ => rfl⟩ ?_ ?_
  · refine Weak.list [((1, 7, 0), .old (1, 7, 0), .row true 7 l.length (fun j => Zaz (List.getD l j default)))] rfl (by rfl) ?_ (.old rfl (BLe.refl _) .nil)
    ((repeat' first | exact TLes.nil | refine TLes.cons (TLe.eq rfl) ?_ | refine TLes.cons (TLe.int ?_) ?_); (all_goals first | ((try (simp only [Zaa, kzz, kz11, kz12, maxL, Zac] at *)); (simp (disch := omega) only [wrap64]; omega)) | skip))
  rintro ⟨i, r⟩ hI
  replace hI : RvI default l i r := hI
  have hIl := hI.len
  have hIh := hI.hi
  simp only
  (repeat' ((fail_if_success (show AWp _ _ _ (Code.region 3 _ _) _ _)); first | refine Zad ?_ | (refine Zab tok (by rfl) ?_; conv => whnf) | refine Zaf ?_ | (refine Zai ?_; conv => whnf) | (refine Zan ?_; conv => whnf) | refine Zah rfl (fun hb => ?_) (fun hb => ?_)))
  · have hil : 2 * i + 1 < l.length := by simp only [decide_eq_true_eq] at hb; omega
    clear hb
    have hj : ((l.length : Int) - 1 - i).toNat = l.length - 1 - i := by omega
    ((repeat' first | (refine Zab tok (by rfl) ?_; conv => whnf) | (refine Za2 tok mix (by rfl) ?_; conv => whnf) | (refine @And.intro (Zaa _ _ _ _) _ ?_ ?_; rotate_left; (conv => whnf); rotate_right)); all_goals (try ((guard_target = Zaa _ _ _ _); refine Zae ?_; (all_goals (try simp only [Zaa, kzz, kz11, kz12, maxL, Zac] at *)); all_goals omega)))
    refine ⟨(i + 1, (r.set i (r.getD (l.length - 1 - i) default)).set (l.length - 1 - i) (r.getD i default)), hI.step (by omega), (show l.length - (i + 1) < l.length - i by omega), ?_⟩
    refine Weak.list [((1, 7, 0), .old (1, 7, 0), .row true 7 l.length (fun j => Zaz (List.getD ((r.set i (r.getD (l.length - 1 - i) default)).set (l.length - 1 - i) (r.getD i default)) j default)))] rfl (by rfl) ?_ (.old rfl (BLe.rowW (Nat.le_refl _) (fun z hz => Wks.of ?_)) .nil)
    · ((repeat' first | exact TLes.nil | refine TLes.cons (TLe.eq rfl) ?_ | refine TLes.cons (TLe.int ?_) ?_); (all_goals first | ((try (simp only [Zaa, kzz, kz11, kz12, maxL, Zac] at *)); first | exact wrap64 (by omega) (by omega) | (simp (disch := omega) only [wrap64]; omega)) | skip))
    · have e1 : r.getD (0 + ((l.length : Int) - 1 - i).toNat) default = r.getD (l.length - 1 - i) default := by rw [hj, Nat.zero_add]
      have e2 : r.getD (0 + (i : Int).toNat) default = r.getD i default := by rw [Int.toNat_natCast, Nat.zero_add]
      rw [← e1, ← e2]
      exact upIns (by rw [Int.toNat_natCast, Nat.zero_add]) (by rw [hj, Nat.zero_add]) (by omega) (by omega)
  · have hil : ¬ (2 * i + 1 < l.length) := by simp only [decide_eq_false_iff_not] at hb; omega
    clear hb
    have e := hI.done (by omega)
    subst e
    exact ⟨_, [(k0, .old k0, insR l.reverse)], rfl, rfl, rfl, rfl, .old rfl (BLe.rowW (by simp) (fun z hz => Wks.of rfl)) .nil, .eq rfl⟩
end Go.Proofs.Ytbcocllokcimeaa
namespace Go.Proofs.Ytbcocllokcimeaa
open Go Dv
set_option maxRecDepth 10000
set_option linter.unusedSimpArgs false
def idleX (x : Ins) (g : Nat → Bool) : Bool := decide (x.op = 2 ∧ x.a = x.dst) || (mayB x && !(g x.dst.toNat))
def stepC (x : Ins) (s : List Ins × (Nat → Bool)) : List Ins × (Nat → Bool) := if idleX x s.2 = true then s else (s.1 ++ [x], Zc0 x s.2)
def cleanS (l : List Ins) (g : Nat → Bool) : List Ins × (Nat → Bool) := l.foldr stepC ([], g)
def cleanL (l : List Ins) (g : Nat → Bool) : List Ins := (cleanS l g).1.reverse
def cleanG (l : List Ins) (g : Nat → Bool) : Nat → Bool := (cleanS l g).2
theorem may_sets {x : Ins} (h : mayB x = true) : setsB x = true := by
  unfold mayB at h; unfold setsB
  simp only [decide_eq_true_eq] at h ⊢
  omega
set_option maxHeartbeats 4000000 in
theorem c_cleaned (l : List Ins) (n : Nat) (g : Nat → Bool) (hA : ∀ x ∈ l, ∀ p ∈ Zba x, 0 ≤ p ∧ p < (n : Int)) (hS : ∀ x ∈ l, setsB x = true → 0 ≤ x.dst ∧ x.dst < (n : Int)) :
    HC Try.prog [k0] 15 [(k0, Zav n g)] [inss l, .rs k0 1 0 n] (.rs k5 7 0 (cleanL l g).length) [(k0, Zav n (cleanG l g)), (k5, insR (cleanL l g))] := by
  refine Zbf tok Try.func15 rfl (by decide +kernel) (Nat.le_of_ble_eq_true rfl) ?_
  have hmx : maxL = 4294967296 := rfl
  refine Zar 0 (fun hl => ?_)
  have hl0 : l.length ≤ maxL := hl.1
  clear hl
  (repeat' first | refine Zad ?_ | (refine Zab tok (by rfl) ?_; conv => whnf))
  refine .inl ⟨_, _, _, uG (QC.fc (c_Backward l) rfl), ?_⟩
  conv => whnf
  refine Zaf ?_
  have hgen : ∃ cl : Nat → List Ins × (Nat → Bool), cl = fun k => (l.drop (l.length - k)).foldr stepC ([], g) := ⟨_, rfl⟩
  obtain ⟨cl, hcl⟩ := hgen
  have hc0 : cl 0 = ([], g) := by rw [hcl]; simp only [Nat.sub_zero, List.drop_length, List.foldr_nil]
  have hcm : cl l.length = cleanS l g := by rw [hcl]; simp only [Nat.sub_self, List.drop_zero]; rfl
  have hcs : ∀ k, k < l.length → cl (k + 1) = stepC (l.getD (l.length - 1 - k) default) (cl k) := fun k hk => by
    rw [hcl]
    simp only
    have e1 : l.length - (k + 1) = l.length - 1 - k := by omega
    rw [e1, Zd3 default (show l.length - 1 - k < l.length by omega), List.foldr_cons, show l.length - 1 - k + 1 = l.length - k by omega]
  have hlen : ∀ k, (cl k).1.length ≤ k := fun k => by
    induction k with
    | zero => rw [hc0]; exact Nat.le_refl _
    | succ k ih =>
      by_cases hk : k < l.length
      · rw [hcs k hk]; unfold stepC
        split
        · omega
        · simp only [List.length_append, List.length_cons, List.length_nil]; omega
      · have : cl (k + 1) = cl k := by rw [hcl]; simp only; rw [show l.length - (k + 1) = l.length - k by omega]
        rw [this]; omega
  refine Zat (Weak.list (tl := [(3, .bp k2 0), (5, .bp k5 0), (13, .fn 37 [.ip [inss l]])]) [((1, 7, 0), .old (1, 7, 0), Zav n (cl 0).2), ((3, 7, 0), .old (3, 0, 0), .row false 1 1 (fun _ => [.rs k0 1 0 n])), ((5, 7, 0), .old (5, 0, 0), .row false 1 1 (fun _ => [.rs (109, 0, 0) 7 0 (cl 0).1.length])), ((109, 0, 0), .nil, insR (cl 0).1)] rfl (by rfl) ?_ ?_) ?_
  · ((repeat' first | exact TLes.nil | refine TLes.cons (TLe.eq rfl) ?_); skip)
  · rw [hc0]
    exact .old rfl (BLe.refl _) (.oldR rfl (BLeR.cells rfl (fun x hx => .cons .eq .nil)) (.oldR rfl (BLeR.cells rfl (fun x hx => .cons (.nil rfl) .nil)) (.new .nil)))
  refine AWp_back (gB := 37) (sz := 7) (m := l.length) (f := fun i => Zaz (l.getD i default)) [k0, k2, k5] (fun i hi => by simp only [List.mem_cons, List.not_mem_nil, or_false] at hi ⊢; simp [hi]) (Zei [(3, .bp k2 0), (5, .bp k5 0), (13, .fn 37 [.ip [inss l]])]) (fun k => Za9 [((1, 7, 0), Zav n (Prod.snd (cl k))), ((3, 7, 0), .row false 1 1 (fun _ => [.rs k0 1 0 n])), ((5, 7, 0), .row false 1 1 (fun _ => [.rs (109, 0, 0) 7 0 (List.length (Prod.fst (cl k)))])), ((109, 0, 0), insR (Prod.fst (cl k)))]) c_back ⟨_, Try.func37, rfl, by decide +kernel⟩ rfl (by decide) (pinT_spec rfl) (fun k hk => ?_) ?_
  · have hs1 := hcs k hk
    have hkl := hlen k
    have hmem := Zcq default (show l.length - 1 - k < l.length by omega)
    have hgen : ∃ x, l.getD (l.length - 1 - k) default = x := ⟨_, rfl⟩
    obtain ⟨x, hx⟩ := hgen
    rw [hx] at hs1 hmem
    have hxs := hS x hmem
    have hxa := hA x hmem
    have hgen : ∃ s, cl k = s := ⟨_, rfl⟩
    obtain ⟨s, hs⟩ := hgen
    rw [hs] at hs1 hkl
    simp only [hx, hs]
    have hms := fun h => hxs (may_sets (x := x) h)
    have hM := c_may x
    refine Zat (Weak.list (tl := [(3, .bp k2 0), (5, .bp k5 0), (15, .agg (Zaz x))]) [((1, 7, 0), .old (1, 7, 0), Zav n (Prod.snd s)), ((3, 7, 0), .old (3, 7, 0), .row false 1 1 (fun _ => [.rs k0 1 0 n])), ((5, 7, 0), .old (5, 7, 0), .row false 1 1 (fun _ => [.rs (109, 0, 0) 7 0 (List.length (Prod.fst s))])), ((109, 0, 0), .old (109, 0, 0), insR (Prod.fst s))] rfl (by rfl) ?_ (.old rfl (BLe.refl _) (.old rfl (BLe.rowO rfl) (.old rfl (BLe.rowO rfl) (.old rfl (BLe.refl _) .nil))))) ?_
    · ((repeat' first | exact TLes.nil | refine TLes.cons (TLe.eq rfl) ?_); skip)
    have hid : (bif bif decide (x.op = 2) then decide (x.a = x.dst) else false then true else bif mayB x then !s.2 (0 + x.dst.toNat) else false) = idleX x s.2 := by
      unfold idleX
      rw [Nat.zero_add]
      by_cases e1 : x.op = 2 <;> by_cases e2 : x.a = x.dst <;> cases mayB x <;> simp [e1, e2]
    (repeat' ((fail_if_success (show AWp _ _ _ (Code.region 5 _ _) _ _)); first | refine Zad ?_ | (refine Zab tok (by rfl) ?_; conv => whnf) | refine Zaf ?_))
    refine .inl ⟨_, _, _, uG (QC.fc hM rfl), ?_⟩
    conv => whnf
    (repeat' ((fail_if_success (show AWp _ _ _ (Code.region 5 _ _) _ _)); first | refine Zad ?_ | (refine Zai ?_; conv => whnf) | (refine Zan ?_; conv => whnf) | refine Zah rfl (fun hb => ?_) (fun hb => ?_) | (refine @And.intro (Zaa _ _ _ _) _ ?_ ?_; rotate_left; (conv => whnf); rotate_right)))
    iterate 2 (refine Za8 ?_; intro hgd; (conv at hgd => whnf); have hgd2 := hms hgd.1; omega)
    all_goals rw [hid] at hb
    · rw [hs1, show stepC x s = s from if_pos hb]
      refine ⟨Zei [], Weak.list (tl := []) [((1, 7, 0), .old (1, 7, 0), Zav n (Prod.snd s)), ((3, 7, 0), .old (3, 7, 0), .row false 1 1 (fun _ => [.rs k0 1 0 n])), ((5, 7, 0), .old (5, 7, 0), .row false 1 1 (fun _ => [.rs (109, 0, 0) 7 0 (List.length (Prod.fst s))])), ((109, 0, 0), .old (109, 0, 0), insR (Prod.fst s))] rfl (by rfl) ?_ (.old rfl (BLe.refl _) (.old rfl (BLe.rowO rfl) (.old rfl (BLe.rowO rfl) (.old rfl (BLe.refl _) .nil))))⟩
      exact .nil
    have hst : stepC x s = (s.1 ++ [x], Zc0 x s.2) := if_neg (by rw [hb]; simp)
    have hSc := c_Sets x
    have hAk := c_Asks x
    have hsv : setsB x = true → setsV x = x.dst := fun h => by unfold setsV; rw [if_pos h]
    have hgen : ∃ g1, (if setsB x = true then upT s.2 (setsV x) false else s.2) = g1 := ⟨_, rfl⟩
    obtain ⟨g1, hg1⟩ := hgen
    have hstX : Zc0 x s.2 = Zch g1 (Zba x) := by unfold Zc0; rw [hg1]
    have hgen : ∃ o, s.1 ++ [x] = o := ⟨_, rfl⟩
    obtain ⟨o, ho⟩ := hgen
    have hol : o.length = s.1.length + 1 := by rw [← ho]; simp
    rw [hst, hstX, ho] at hs1
    ((repeat' ((fail_if_success (show AWp _ _ _ (Code.region 6 _ _) _ _)); first | refine Zad ?_ | (refine Zab tok (by rfl) ?_; conv => whnf) | (refine @And.intro (Zaa _ _ _ _) _ ?_ ?_; rotate_left; (conv => whnf); rotate_right))); all_goals (try ((guard_target = Zaa _ _ _ _); refine Zae ?_; (first | refine And.intro (srcObl_rs rfl ?_) ?_ | skip); (all_goals (try simp only [Zaa, kzz, kz11, kz12, maxL, Zac] at *)); all_goals omega)))
    refine Zat (Weak.list (tl := [(3, .bp k2 0), (5, .bp k5 0), (7, .bp (7, 0, 0) 0)]) [((1, 7, 0), .old (1, 7, 0), Zav n s.2), ((3, 7, 0), .old (3, 7, 0), .row false 1 1 (fun _ => [.rs k0 1 0 n])), ((5, 7, 0), .old (5, 7, 0), .row false 1 1 (fun _ => [.rs (109, 0, 0) 7 0 o.length])), ((109, 0, 0), .old (41, 0, 0), insR o), ((7, 0, 0), .old (7, 0, 0), .row true 7 1 (fun _ => Zaz x))] rfl (by rfl) ?_ (.old rfl (BLe.refl _) (.old rfl (BLe.rowO rfl) (.old rfl (BLe.rowW (Nat.le_refl _) (ltS (Wks.of (by rw [hol]; rfl)) lt0)) (.old rfl (BLe.rowW (Nat.le_of_eq hol) (fun z hz => Wks.of (by simp only [allB, Zcl, Bool.true_and, Bool.and_true, Bool.and_self, cond_true]; exact app_fnW (sz := 7) (g := fun q => Zaz (o.getD q default)) (fun i hi => by rw [← ho]; simp [List.getD_eq_getElem?_getD, List.getElem?_append_left hi]) (congrArg Zaz (show x = o.getD s.1.length default from by rw [← ho]; simp [List.getD_eq_getElem?_getD])) rfl (by omega)))) (.old rfl (BLe.rowW (Nat.le_refl _) (ltS (Wks.of rfl) lt0)) .nil)))))) ?_
    · ((repeat' first | exact TLes.nil | refine TLes.cons (TLe.eq rfl) ?_); skip)
    (repeat' (refine Zab tok (by rfl) ?_; conv => whnf))
    refine .inl ⟨_, _, _, uG (QC.fc hSc rfl), ?_⟩
    conv => whnf
    (repeat' ((fail_if_success (show AWp _ _ _ (Code.region 7 _ _) _ _)); refine Zad ?_))
    refine Zab tok (by rfl) ?_
    conv => whnf
    refine Zb7 (α := Unit) (fun _ => mkS [(3, .bp k2 0), (5, .bp k5 0), (7, .bp (7, 0, 0) 0)] [((1, 7, 0), Zav n g1), ((3, 7, 0), .row false 1 1 (fun _ => [.rs k0 1 0 n])), ((5, 7, 0), .row false 1 1 (fun _ => [.rs (109, 0, 0) 7 0 o.length])), ((109, 0, 0), insR o), ((7, 0, 0), .row true 7 1 (fun _ => Zaz x))]) (fun _ => True) ?_ ?_
    · refine Zah rfl (fun hb => ?_) (fun hb => ?_)
      · obtain ⟨hx1, hx2⟩ := hxs hb
        have hx3 := hsv hb
        rw [if_pos hb] at hg1
        ((repeat' first | (refine Zab tok (by rfl) ?_; conv => whnf) | (refine @And.intro (Zaa _ _ _ _) _ ?_ ?_; rotate_left; (conv => whnf); rotate_right)); all_goals (try ((guard_target = Zaa _ _ _ _); refine Zae ?_; (all_goals (try simp only [Zaa, kzz, kz11, kz12, maxL, Zac] at *)); all_goals omega)))
        refine ⟨(), trivial, Weak.list [((1, 7, 0), .old (1, 7, 0), Zav n g1), ((3, 7, 0), .old (3, 7, 0), .row false 1 1 (fun _ => [.rs k0 1 0 n])), ((5, 7, 0), .old (5, 7, 0), .row false 1 1 (fun _ => [.rs (109, 0, 0) 7 0 o.length])), ((109, 0, 0), .old (109, 0, 0), insR o), ((7, 0, 0), .old (7, 0, 0), .row true 7 1 (fun _ => Zaz x))] rfl (by rfl) ?_ (.old rfl (BLe.rowW (Nat.le_refl _) (fun z hz => Wks.of (by rw [← hg1]; exact upRow (Nat.zero_add _)))) (.old rfl (BLe.rowO rfl) (.old rfl (BLe.rowO rfl) (.old rfl (BLe.refl _) (.old rfl (BLe.refl _) .nil)))))⟩
        ((repeat' first | exact TLes.nil | refine TLes.cons (TLe.eq rfl) ?_); skip)
      · rw [if_neg (by rw [hb]; simp)] at hg1
        (repeat' (refine Zai ?_; conv => whnf))
        refine ⟨(), trivial, Weak.list [((1, 7, 0), .old (1, 7, 0), Zav n g1), ((3, 7, 0), .old (3, 7, 0), .row false 1 1 (fun _ => [.rs k0 1 0 n])), ((5, 7, 0), .old (5, 7, 0), .row false 1 1 (fun _ => [.rs (109, 0, 0) 7 0 o.length])), ((109, 0, 0), .old (109, 0, 0), insR o), ((7, 0, 0), .old (7, 0, 0), .row true 7 1 (fun _ => Zaz x))] rfl (by rfl) ?_ (.old rfl (BLe.rowW (Nat.le_refl _) (fun z hz => Wks.of (by rw [← hg1]; rfl))) (.old rfl (BLe.rowO rfl) (.old rfl (BLe.rowO rfl) (.old rfl (BLe.refl _) (.old rfl (BLe.refl _) .nil)))))⟩
        ((repeat' first | exact TLes.nil | refine TLes.cons (TLe.eq rfl) ?_); skip)
    rintro ⟨⟩ - τ hw
    refine Zat hw ?_
    clear hw
    (repeat' first | refine Zad ?_ | (refine Zab tok (by rfl) ?_; conv => whnf))
    refine .inl ⟨_, _, _, uG (QC.fo (rd := []) hAk (Ress.imms rfl) (.inl rfl) rfl), ?_⟩
    conv => whnf
    (repeat' ((fail_if_success (show AWp _ _ _ (Code.region 10 _ _) _ _)); refine Zaf ?_))
    refine Zar 53 (fun hl => ?_)
    have hle : ((Zba x).length : Int) ≤ 9223372036854775807 := hl.2
    clear hl
    refine Zap (fun j : Nat => mkS [(3, .bp k2 0), (5, .bp k5 0), (7, .bp (7, 0, 0) 0), (52, .rs (52, 0, 0) 1 0 (Zba x).length), (53, iv (Zba x).length), (54, iv j)] [((1, 7, 0), Zav n (Zch g1 ((Zba x).take j))), ((3, 7, 0), .row false 1 1 (fun _ => [.rs k0 1 0 n])), ((5, 7, 0), .row false 1 1 (fun _ => [.rs (109, 0, 0) 7 0 o.length])), ((109, 0, 0), insR o), ((7, 0, 0), .row true 7 1 (fun _ => Zaz x)), ((52, 0, 0), .row true 1 (Zba x).length (fun i => [iv ((Zba x).getD i 0)]))]) (fun j => j ≤ (Zba x).length) (fun j => (Zba x).length - j) 0 (Nat.zero_le _) ?_ ?_
    · refine Weak.list [((1, 7, 0), .old (1, 7, 0), Zav n (Zch g1 ((Zba x).take 0))), ((3, 7, 0), .old (3, 7, 0), .row false 1 1 (fun _ => [.rs k0 1 0 n])), ((5, 7, 0), .old (5, 7, 0), .row false 1 1 (fun _ => [.rs (109, 0, 0) 7 0 o.length])), ((109, 0, 0), .old (109, 0, 0), insR o), ((7, 0, 0), .old (7, 0, 0), .row true 7 1 (fun _ => Zaz x)), ((52, 0, 0), .old (52, 0, 0), .row true 1 (Zba x).length (fun i => [iv ((Zba x).getD i 0)]))] rfl (by rfl) ?_ (.old rfl (BLe.refl _) (.old rfl (BLe.rowO rfl) (.old rfl (BLe.rowO rfl) (.old rfl (BLe.refl _) (.old rfl (BLe.refl _) (.old rfl (BLe.refl _) .nil))))))
      ((repeat' first | exact TLes.nil | refine TLes.cons (TLe.eq rfl) ?_); skip)
    intro j hj
    (repeat' ((fail_if_success (show AWp _ _ _ (Code.region 11 _ _) _ _)); first | refine Zad ?_ | (refine Zab tok (by rfl) ?_; conv => whnf) | refine Zaf ?_ | (refine Zai ?_; conv => whnf) | (refine Zan ?_; conv => whnf) | refine Zah rfl (fun hb => ?_) (fun hb => ?_)))
    · have hjl : j < (Zba x).length := by simp only [decide_eq_true_eq] at hb; omega
      clear hb
      have hsucc := Zdu (g := g1) hjl
      have hpj := hxa _ (Zcq 0 hjl)
      have hji : (Zba x).getD (0 + (j : Int).toNat) 0 = (Zba x).getD j 0 := by simp
      ((repeat' first | (refine Zab tok (by rfl) ?_; conv => whnf) | (refine @And.intro (Zaa _ _ _ _) _ ?_ ?_; rotate_left; (conv => whnf); rotate_right)); all_goals (try ((guard_target = Zaa _ _ _ _); refine Zae ?_; (all_goals (try simp only [Zaa, kzz, kz11, kz12, maxL, Zac] at *)); all_goals omega)))
      refine ⟨j + 1, hjl, by omega, ?_⟩
      refine Weak.list [((1, 7, 0), .old (1, 7, 0), Zav n (Zch g1 ((Zba x).take (j + 1)))), ((3, 7, 0), .old (3, 7, 0), .row false 1 1 (fun _ => [.rs k0 1 0 n])), ((5, 7, 0), .old (5, 7, 0), .row false 1 1 (fun _ => [.rs (109, 0, 0) 7 0 o.length])), ((109, 0, 0), .old (109, 0, 0), insR o), ((7, 0, 0), .old (7, 0, 0), .row true 7 1 (fun _ => Zaz x)), ((52, 0, 0), .old (52, 0, 0), .row true 1 (Zba x).length (fun i => [iv ((Zba x).getD i 0)]))] rfl (by rfl) ?_ (.old rfl (BLe.rowW (Nat.le_refl _) (fun z hz => Wks.of ?_)) (.old rfl (BLe.rowO rfl) (.old rfl (BLe.rowO rfl) (.old rfl (BLe.refl _) (.old rfl (BLe.refl _) (.old rfl (BLe.refl _) .nil))))))
      · ((repeat' first | exact TLes.nil | refine TLes.cons (TLe.eq rfl) ?_ | refine TLes.cons (TLe.int ?_) ?_); (all_goals first | ((try (simp only [Zaa, kzz, kz11, kz12, maxL, Zac] at *)); exact wrap64 (by omega) (by omega)) | skip))
      · rw [hsucc]
        exact upRow (by rw [Nat.zero_add]; exact congrArg Int.toNat hji)
    · have hjl : j = (Zba x).length := by simp only [decide_eq_false_iff_not] at hb; omega
      clear hb
      subst hjl
      rw [hs1]
      refine ⟨Zei [], Weak.list (tl := []) [((1, 7, 0), .old (1, 7, 0), Zav n (Prod.snd (o, Zch g1 (Zba x)))), ((3, 7, 0), .old (3, 7, 0), .row false 1 1 (fun _ => [.rs k0 1 0 n])), ((5, 7, 0), .old (5, 7, 0), .row false 1 1 (fun _ => [.rs (109, 0, 0) 7 0 (List.length (Prod.fst (o, Zch g1 (Zba x))))])), ((109, 0, 0), .old (109, 0, 0), insR (Prod.fst (o, Zch g1 (Zba x))))] rfl (by rfl) ?_ (.old rfl (BLe.rowW (Nat.le_refl _) (fun z hz => Wks.of (by rw [List.take_length]; rfl))) (.old rfl (BLe.rowO rfl) (.old rfl (BLe.rowO rfl) (.old rfl (BLe.refl _) .nil))))⟩
      exact .nil
  · conv => whnf
    have hgen : ∃ L, (cleanS l g).1 = L := ⟨_, rfl⟩
    obtain ⟨L, hL⟩ := hgen
    unfold cleanL cleanG
    rw [← hcm] at hL ⊢
    have hLl := hlen l.length
    rw [hL] at hLl ⊢
    (repeat' first | refine Zad ?_ | (refine Zab tok (by rfl) ?_; conv => whnf))
    refine .inr ⟨_, _, _, uG (QH.of (dead := []) [(k0, .old (109, 0, 0), insR L)] (c_ReverseI L) rfl (.old rfl (BLe.refl _) .nil) (.cons (.eq rfl) .nil) [(k0, (109, 0, 0))] rfl (.cons rfl (BLe.refl _) .nil) rfl), ?_⟩
    conv => whnf
    (repeat' first | refine Zad ?_ | (refine Zab tok (by rfl) ?_; conv => whnf) | (refine Zaj ?_; conv => whnf))
    exact ⟨_, [(k0, .old k0, Zav n (cl l.length).2), (k5, .old (109, 0, 0), insR L.reverse)], rfl, rfl, rfl, rfl, .old rfl (BLe.refl _) (.old rfl (BLe.refl _) .nil), .eq (by rw [List.length_reverse]; rfl)⟩
end Go.Proofs.Ytbcocllokcimeaa
namespace Go.Proofs.Ytbcocllokcimeaa
open Go Dv
set_option maxRecDepth 10000
set_option linter.unusedSimpArgs false
def blkR1 (l : List Zb0) : Zak := .row true 14 l.length (fun q => Zax (l.getD q default))
def funR1 (l : List Func) (c : Nat → AV) : Zak := .row false 3 l.length (fun j => [iv (l.getD j default).params, iv (l.getD j default).regs, c j])
def blkF1 (l : List Func) (p : Nat → Bool) : Zal := famC 1000 (fun j z => bif Nat.beq z 0 && (Nat.blt j l.length && p j) then some (blkR1 (l.getD j default).blocks) else none)
def mem1 (l : List Func) (j : Nat) : AV := .rs (1000, j, 0) 14 0 (l.getD j default).blocks.length
def modH1 (l : List Func) : Zal := orH (Za9 [((900, 0, 0), funR1 l (mem1 l))]) (blkF1 l (fun _ => true))
theorem blkF1_some {l : List Func} {p : Nat → Bool} {j : Dv.Id} {b : Zak} (h : blkF1 l p j = some b) : ∃ i, j = (1000, i, 0) ∧ i < l.length ∧ p i = true ∧ b = blkR1 (l.getD i default).blocks := by
  obtain ⟨a, z, rfl, h3⟩ := famC_some h
  cases e : (Nat.beq z 0 && (Nat.blt a l.length && p a)) with
  | false => rw [e] at h3; cases h3
  | true =>
    rw [e] at h3
    rw [Bool.and_eq_true, Bool.and_eq_true, Nat.blt_eq] at e
    have := Nat.eq_of_beq_eq_true e.1
    subst this
    exact ⟨a, rfl, e.2.1, e.2.2, (Option.some.inj h3).symm⟩
theorem blkF1_at {l : List Func} {p : Nat → Bool} {i : Nat} (h : i < l.length) (hp : p i = true) : blkF1 l p (1000, i, 0) = some (blkR1 (l.getD i default).blocks) := by
  show (bif (Nat.beq 0 0 && (Nat.blt i l.length && p i)) then _ else none) = _
  have : (Nat.beq 0 0 && (Nat.blt i l.length && p i)) = true := by
    rw [Bool.and_eq_true, Bool.and_eq_true, Nat.blt_eq]; exact ⟨rfl, h, hp⟩
  rw [this]; rfl
theorem GB_blk1 {src : Dv.Id → Option Dv.Id} {h h' : Zal} (l : List Zb0) : GB src h h' (blkR1 l) (blkR1 l) := GB.rowI (Nat.le_refl _) (fun _ _ => ⟨rfl, rfl⟩)
theorem copyH_sub (fs : List Func) (j : Dv.Id) (b : Zak) (e : modH1 fs j = some b) : (j = (900, 0, 0) ∧ b = funR1 fs (mem1 fs)) ∨ ∃ i, j = (1000, i, 0) ∧ i < fs.length ∧ b = blkR1 (fs.getD i default).blocks := by
  rcases orH_some e with e | ⟨_, e⟩
  · simp only [Za9] at e
    cases e2 : idEq (900, 0, 0) j with
    | false => rw [e2] at e; cases e
    | true => have := Za5.1 e2; subst this; rw [e2] at e; cases e; exact .inl ⟨rfl, rfl⟩
  · obtain ⟨i, rfl, h1, _, h2⟩ := blkF1_some e
    exact .inr ⟨i, rfl, h1, h2⟩
theorem modH1_at {l : List Func} {i : Nat} (h : i < l.length) : modH1 l (1000, i, 0) = some (blkR1 (l.getD i default).blocks) := (show blkF1 l (fun _ => true) (1000, i, 0) = _ from blkF1_at h rfl)
theorem c_Copy1 (fs : List Func) : HF Try.prog 12 [.agg (Zb4 ⟨fs⟩)] (.agg [.rs (900, 0, 0) 3 0 fs.length]) (modH1 fs) := by
  refine (c_Copy fs).weak (fun j => some j) (fun j j' i _ _ h1 h2 => some_inj j j' i h1 h2) (fun j b e => ?_) (.agg (.cons (.rs (b := funR1 fs (mem1 fs)) rfl rfl rfl rfl) .nil))
  rcases copyH_sub fs j b e with ⟨rfl, rfl⟩ | ⟨i, rfl, hi, rfl⟩
  · refine HOk.mk rfl (b0 := funR fs fs.length (fun _ => .any)) rfl (GB.row (Nat.le_refl _) (fun j hj => .cons (.imm rfl) (.cons (.imm rfl) (.cons ?_ .nil))) (fun e => by cases e))
    exact .cc (Zbg hj) rfl (.rs (modH1_at hj) rfl rfl rfl)
  · refine HOk.mk rfl (b0 := blkR i (fs.getD i default).blocks (fs.getD i default).blocks.length (fun _ => .any)) (show treeF fs fs.length 0 (1000, i, 0) = _ from Zbd hi) (GB.row (Nat.le_refl _) (fun q hq => ?_) (fun _ _ _ => rfl))
    refine .cons (.imm rfl) (.cons (.imm rfl) (.cons (.imm rfl) (.cons (.imm rfl) (.cons (.imm rfl) (.cons ?_ (GVs.imm rfl))))))
    refine .cc (Zbg hq) rfl (.frz (k := ((fs.getD i default).blocks.getD q default).ins.length) (f := fun j => Zaz (((fs.getD i default).blocks.getD q default).ins.getD j default)) (imm := true) (fun j hj e => ?_) (show treeF fs fs.length 0 (1001, i, q) = _ from Za7 (.inl ⟨hi, hq⟩)) (Nat.le_of_eq (Nat.zero_add _)) rfl (fun x hx => GVs.eqI rfl (by rw [Nat.zero_add])) (fun _ _ => rfl))
    cases e
    cases hj
end Go.Proofs.Ytbcocllokcimeaa
