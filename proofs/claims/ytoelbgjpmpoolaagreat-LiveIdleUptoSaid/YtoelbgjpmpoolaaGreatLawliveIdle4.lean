/- Whatever a module, the words told to it, the steps, and what is put in places of the top frame not live at its block's beginning: mach.Step then does and tells the same, step by step. -/
import Derived.Test.YtoelbgjpmpoolaaGreatDvc3
import Derived.Test.YtoelbgjpmpoolaaGreatLawliveIdle3
set_option linter.unusedVariables false
set_option linter.unusedSimpArgs false
set_option linter.unnecessarySimpa false
namespace Go.Proofs.YtoelbgjpmpoolaaGreat
open Go Dv Lv
set_option maxRecDepth 10000
set_option linter.unusedSimpArgs false
set_option linter.unusedVariables false
theorem GVs_frzT {src : Dv.Id → Option Dv.Id} {h h' : Zal} {s : Mach} {F : Dv.Id} (hd : ∀ j i, (h' j).isSome = true → src j = some i → i ≠ F ∧ i ≠ jE ∧ i ≠ jT ∧ ∀ q, i ≠ (945, 0, q)) (h1 : h F = some (Zch s.stack)) (h2 : h jE = some (evB s.events)) (h3 : h jT = some (regB (topF s).regs)) (h4 : ∀ q, q < s.stack.length - 1 → h (945, 0, q) = some (regB (s.stack.getD q default).regs)) :
  GVs src h h' (cpB F jE s) (Zbk s) := by
 refine .cons ?_ (.i (.i (.i (.i (.i (.i (.i (.i (.i (.i (.i (.i (.i (.i (.i (.i (.i (.cons (GV.frz (fun j hj e => (hd j _ hj e).2.1 rfl) h2 (by omega) rfl (fun z hz => by rw [Nat.zero_add z]; exact .i .nil) (fun z hz => rfl)) (.i (.i .nil))))))))))))))))))))
 refine frz_frs (R := regN' s.stack) (fun j hj e => (hd j _ hj e).1 rfl) (fun q hq j hj e => ?_) h1 (fun q hq => ⟨_, rfl, ?_, ?_⟩)
 ·have := hd j _ hj e
  unfold regN' at this
  cases e2 : Nat.blt q (s.stack.length - 1) with
  | true => rw [e2] at this; exact this.2.2.2 q rfl
  | false => rw [e2] at this; exact this.2.2.1 rfl
 ·unfold Zbi regN'
  by_cases e : q < s.stack.length - 1
  ·rw [Zcg e, blt_t e]; rfl
  ·rw [Zdc (by omega), blt_f (by omega)]; rfl
 ·unfold regN'
  by_cases e : q < s.stack.length - 1
  ·rw [blt_t e]
   exact h4 q e
  ·rw [blt_f (by omega)]
   show h jT = _
   rw [h3]; unfold topF; rw [show s.stack.length - 1 = q by omega]
set_option maxHeartbeats 4000000 in
theorem c_LiveIdle (m : Zai) (inputs : List Int) (fuel more : Int) (words : List Int) : FC Tryz.prog 10 [.agg (Zbf m), u16s inputs, .int .u8 fuel, .int .u8 more, u16s words] (.bool true) := by
 refine Zav tok Tryz.func10 rfl (by decide +kernel) (nB rfl) ?_
 refine Zaw 1 (fun hl => ?_)
 have hwords : ∀ x ∈ inputs, 0 ≤ x ∧ x ≤ 65535 := fun x hx => by
  obtain ⟨i, hi, rfl⟩ := List.getElem_of_mem hx
  have := (hl.2 i hi).1
  rw [Zca 0 hi] at this; exact this
 clear hl
 refine Zaw 2 (fun hl => ?_)
 have hf0 : 0 ≤ fuel ∧ fuel ≤ 255 := hl
 clear hl
 refine Zaw 3 (fun hl => ?_)
 have hm0 : 0 ≤ more ∧ more ≤ 255 := hl
 clear hl
 refine Zaw 4 (fun hl => ?_)
 have hwl : words.length ≤ mL := hl.1
 clear hl
 have hmx : mL = 4294967296 := rfl
 (repeat' first | refine Zab ?_ | (refine Zaa tok (by rfl) ?_; conv => whnf))
 refine .inl ⟨_, _, _, uG (QC.fc c_awake10 rfl), ?_⟩
 conv => whnf
 (repeat' first | refine Zab ?_ | (refine Zaa tok (by rfl) ?_; conv => whnf) | (refine Zag ?_; conv => whnf) | (refine Zak ?_; conv => whnf) | refine Zaf rfl (fun hb => ?_) (fun hb => ?_))
 ·cases hb
 clear hb
 refine .inl ⟨_, _, _, uG (QC.fc (c_r6Small m inputs) rfl), ?_⟩
 conv => whnf
 (repeat' ((fail_if_success (show Rg 4)); (fail_if_success (show Rg 5)); first | refine Zab ?_ | (refine Zag ?_; conv => whnf) | refine Zaf rfl (fun hb => ?_) (fun hb => ?_)))
 ·(repeat' first | (refine Zaa tok (by rfl) ?_; conv => whnf) | (refine Zak ?_; conv => whnf))
  exact ⟨_, rfl, Rel.bool rfl⟩
 have hsm : smallB m inputs = true ∧ 0 < words.length := by
  cases h1 : smallB m inputs with
  | false => rw [h1] at hb; cases hb
  | true =>
   refine ⟨rfl, ?_⟩
   rw [h1] at hb
   rcases Nat.eq_zero_or_pos words.length with h | h
   ·rw [h] at hb; cases hb
   ·exact h
 clear hb
 obtain ⟨hsm, hw0⟩ := hsm
 unfold smallB at hsm
 rw [Bool.and_eq_true, decide_eq_true_eq] at hsm
 have hi : (∀ x ∈ inputs, 0 ≤ x ∧ x ≤ 65535) ∧ inputs.length < 1000000 := ⟨hwords, by omega⟩
 have hrem : 0 ≤ fuel.tmod 150 ∧ fuel.tmod 150 < 150 := by
  rw [Int.tmod_eq_emod_of_nonneg hf0.1]; omega
 ((repeat' first | (refine Zaa tok (by rfl) ?_; conv => whnf) | (refine uA ?_ ?_; rotate_left; (conv => whnf); rotate_right)); all_goals (try ((guard_target = Zac _ _ _ _); refine Zae ?_; (all_goals (try simp only [Zac, kZ, kA, kB, mL, Zad] at *)); all_goals omega)))
 cases hr : Zbd m with
 | false =>
  refine .inl ⟨_, _, _, uG (QC.fc (c_mRunBad m inputs _ hr) rfl), ?_⟩
  conv => whnf
  (repeat' ((fail_if_success (show Rg 7)); (fail_if_success (show Rg 8)); first | refine Zab ?_ | (refine Zaa tok (by rfl) ?_; conv => whnf) | (refine Zag ?_; conv => whnf) | refine Zaf rfl (fun hb => ?_) (fun hb => ?_)))
  ·(repeat' first | (refine Zaa tok (by rfl) ?_; conv => whnf) | (refine Zak ?_; conv => whnf))
   exact ⟨_, rfl, Rel.bool rfl⟩
  ·exfalso; cases hb
 | true =>
  have h8 := Zdh .u8 (fuel.tmod 150)
  rw [show IntKind.u8.min = 0 from rfl, show IntKind.u8.max = 255 from rfl] at h8
  have hN : IntKind.i64.wrap (IntKind.u8.wrap (fuel.tmod 150)) ≤ 255 := by rw [wrap64 (by omega) (by omega)]; omega
  have hN0 : 0 ≤ IntKind.i64.wrap (IntKind.u8.wrap (fuel.tmod 150)) := by rw [wrap64 (by omega) (by omega)]; omega
  have hgen : ∃ N, IntKind.i64.wrap (IntKind.u8.wrap (fuel.tmod 150)) = N := ⟨_, rfl⟩
  obtain ⟨N, hNe⟩ := hgen
  rw [hNe] at hN hN0
  have hRun := c_mRun m inputs N hr hi (by omega)
  have hS := okS_run hr hi N.toNat
  have hE := ev_run (m := m) (inputs := inputs) N.toNat
  generalize runM m inputs N.toNat = s at hRun hS hE
  rw [← hNe] at hRun
  refine .inl ⟨_, _, _, uG (QC.fc hRun rfl), ?_⟩
  conv => whnf
  (repeat' ((fail_if_success (show Rg 7)); (fail_if_success (show Rg 8)); first | refine Zab ?_ | (refine Zaa tok (by rfl) ?_; conv => whnf) | (refine Zag ?_; conv => whnf) | refine Zaf rfl (fun hb => ?_) (fun hb => ?_)))
  ·(repeat' first | (refine Zaa tok (by rfl) ?_; conv => whnf) | (refine Zak ?_; conv => whnf))
   exact ⟨_, rfl, Rel.bool rfl⟩
  have hd : s.done = 0 := by simpa using hb
  clear hb
  have hp := hS.ok.pos hd
  have h32 := hS.ok.len
  have hF := hS.ok.fr _ (Zge hp)
  have f0 := hF.f0
  have f1 := hF.f1
  have hidx : IntKind.i64.wrap ((s.stack.length : Int) - 1) = ((s.stack.length - 1 : Nat) : Int) := by rw [wrap64 (by omega) (by omega)]; omega
  have htop : s.stack.getD (s.stack.length - 1) default = topF s := rfl
  ((repeat' ((fail_if_success (show Rg 10)); first | refine Zab ?_ | (refine Zaa tok (by rfl) ?_; conv => whnf) | (refine uA ?_ ?_; rotate_left; (conv => whnf); rotate_right))); all_goals (try ((guard_target = Zac _ _ _ _); refine Zae ?_; (all_goals (try simp only [Zac, kZ, kA, kB, mL, Zad] at *)); (all_goals (try (simp (disch := omega) only [wrap64]))); all_goals omega)))
  refine Zar (τ := mkS [(3, .int .u8 more), (4, u16s words), (5, .bp (5, 0, 0) 0), (11, .bp (11, 0, 0) 0), (13, iv (s.stack.length - 1 : Nat)), (14, .bp (14, 0, 0) 0)] [((5, 0, 0), Za2 (Zbf m)), ((11, 0, 0), .row true 21 1 (fun _ => Zbk s)), ((14, 0, 0), Za2 (Zby (topF s)))]) ?_ ?_
  ·refine Weak.list [((5, 0, 0), .old (5, 0, 0), Za2 (Zbf m)), ((11, 0, 0), .old (11, 0, 0), .row true 21 1 (fun _ => Zbk s)), ((14, 0, 0), .old (14, 0, 0), Za2 (Zby (topF s)))] rfl (by rfl) ?_ (.old rfl (BLe.refl _) (.old rfl (BLe.rowW (Nat.le_refl _) (ltS (Wks.of rfl) lt0)) (.old rfl (BLe.rowW (Nat.le_refl _) (ltS (Wks.of ?_) lt0)) .nil)))
   ·((repeat' first | exact TLes.nil | refine tE rfl ?_ | refine TLes.cons (TLe.int ?_) ?_); (all_goals first | ((try (simp only [Zac, kZ, kA, kB, mL, Zad] at *)); omega) | skip))
   ·rw [hidx]; rfl
  have hwh := right_whole hr (i := (topF s).f.toNat) (by omega)
  have hfx := found_fix hwh
  have b0 := hF.b0
  have b1 : (topF s).block < (m.funcs.getD (topF s).f.toNat default).blocks.length := hF.b1
  have hreg : ((topF s).regs.length : Int) = (m.funcs.getD (topF s).f.toNat default).regs := hF.regs
  have hr256 : (topF s).regs.length ≤ 256 := by
   have := (okF_funP (Zco hr (show (topF s).f.toNat < m.funcs.length by omega))).2.2.2.1
   omega
  have hAl := hfx.l1
  have hAe := hfx.e1 (topF s).block.toNat (by omega)
  have hAt := c_At (m.funcs.getD (topF s).f.toNat default)
  ((repeat' first | (refine Zaa tok (by rfl) ?_; conv => whnf) | (refine uA ?_ ?_; rotate_left; (conv => whnf); rotate_right)); all_goals (try ((guard_target = Zac _ _ _ _); refine Zae ?_; (all_goals (try simp only [Zac, kZ, kA, kB, mL, Zad] at *)); all_goals omega)))
  refine .inl ⟨_, _, _, uG (QC.fc hAt rfl), ?_⟩
  conv => whnf
  ((repeat' ((fail_if_success (show Rg 12)); (fail_if_success (show Rg 13)); first | refine Zab ?_ | (refine Zaa tok (by rfl) ?_; conv => whnf) | (refine Zag ?_; conv => whnf) | refine Zaf rfl (fun hb => ?_) (fun hb => ?_) | (refine uA ?_ ?_; rotate_left; (conv => whnf); rotate_right))); all_goals (try ((guard_target = Zac _ _ _ _); refine Zae ?_; (all_goals (try simp only [Zac, kZ, kA, kB, mL, Zad] at *)); all_goals omega)))
  ·exfalso; rw [hAl, decide_eq_true rfl] at hb; cases hb
  clear hb
  (repeat' ((fail_if_success (show Rg 14)); (fail_if_success (show Rg 15)); first | refine Zab ?_ | (refine Zaa tok (by rfl) ?_; conv => whnf) | (refine Zag ?_; conv => whnf) | refine Zaf rfl (fun hb => ?_) (fun hb => ?_)))
  ·(repeat' first | (refine Zaa tok (by rfl) ?_; conv => whnf) | (refine Zak ?_; conv => whnf))
   exact ⟨_, rfl, Rel.bool rfl⟩
  have ha0 : (topF s).at_ = 0 := by simpa using hb
  clear hb
  have hgen : ∃ A, Zd6 (m.funcs.getD (topF s).f.toNat default) = A := ⟨_, rfl⟩
  obtain ⟨A, hAA⟩ := hgen
  rw [hAA] at hAl hAe ⊢
  (repeat' (refine Zaa tok (by rfl) ?_; conv => whnf))
  refine .inr ⟨_, _, _, uG (QH.ofF (c_mCopyH s) rfl (fun i hi => ?_)), ?_⟩
  ·rcases cpH_names hi with rfl | rfl | ⟨q, rfl⟩ <;> rfl
  conv => whnf
  have hlive := rel_start hr hS.ok hd ha0 (rs := Zdz (atB A (topF s).block.toNat) words (topF s).regs (topF s).regs.length) (Zcu _ _ _ _) (fun x hx hA => patch_end hx (by rw [← hAA]; exact hA))
  (repeat' ((fail_if_success (show Rg 17)); first | refine Zab ?_ | (refine Zaa tok (by rfl) ?_; conv => whnf) | refine Zah ?_))
  refine Zax (fun p : Nat => mkF [(3, .int .u8 more), (4, u16s words), (5, .bp (5, 0, 0) 0), (11, .bp (11, 0, 0) 0), (13, iv (s.stack.length - 1 : Nat)), (14, .bp (14, 0, 0) 0), (15, boolss A), (16, .bp (16, 0, 0) 0), (17, iv p)] ([((5, 0, 0), Za2 (Zbf m)), ((11, 0, 0), .row true 21 1 (fun _ => Zbk s)), ((14, 0, 0), Za2 (Zby (topF s))), ((16, 0, 0), .row false 21 1 (fun _ => cpB jN jE s))] ++ [(jN, Zch s.stack), (jE, evB s.events), (jT, regB (Zdz (atB A (topF s).block.toNat) words (topF s).regs p))]) (famW s.stack)) (fun p => p ≤ (topF s).regs.length) (fun p => (topF s).regs.length - p) 0 (Nat.zero_le _) ?_ ?_
  ·refine Weak.fam (L := []) (tl := [(3, .int .u8 more), (4, u16s words), (5, .bp (5, 0, 0) 0), (11, .bp (11, 0, 0) 0), (13, iv (s.stack.length - 1 : Nat)), (14, .bp (14, 0, 0) 0), (15, boolss A), (16, .bp (16, 0, 0) 0), (17, iv 0)]) (hl := [((5, 0, 0), Za2 (Zbf m)), ((11, 0, 0), .row true 21 1 (fun _ => Zbk s)), ((14, 0, 0), Za2 (Zby (topF s))), ((16, 0, 0), .row false 21 1 (fun _ => cpB jN jE s))] ++ [(jN, Zch s.stack), (jE, evB s.events), (jT, regB (Zdz (atB A (topF s).block.toNat) words (topF s).regs 0))]) (F := famW s.stack) [(jT, some (945, 0, s.stack.length - 1))] rfl (fun c hc => ?_) ?_ ?_ ?_ (fun i hi => by cases hi)
   ·rw [List.mem_singleton.1 (show c ∈ [(945, 0, s.stack.length - 1)] from hc)]; exact .inl (Zan (Nat.le_refl _))
   ·(repeat' first | exact TLg.nil | refine TLg.cons (GV.imm rfl) ?_ | refine TLg.cons (GV.bp rfl rfl) ?_)
   ·refine .old rfl rfl (GB.one (GVs.imm rfl) (fun _ => rfl)) (.old rfl rfl (GB.one (GVs.imm rfl) (fun _ => rfl)) (.old rfl rfl (GB.one (GVs.imm rfl) (fun _ => rfl)) (.old rfl rfl (GB.one (GVs_cpB (.rs rfl rfl rfl rfl) (.rs rfl rfl rfl rfl)) (fun e => by cases e)) (.old rfl rfl (cp_same (fun _ _ => rfl) rfl (fun q hq => Zcf hq) rfl) (.old rfl rfl (Zd8 _) (.old rfl (bigH_some (cpH_fam (by omega))) ?_ .nil))))))
    refine GB.rowI (by rw [Zcu]; exact Nat.le_refl _) (fun q hq => ⟨rfl, ?_⟩)
    rw [patch_zero (by rw [Zcu] at hq; exact hq)]; rfl
   ·refine Zfh (fun _ _ => rfl) (fun q hq => ?_)
    exact bigH_some (cpH_fam (by omega))
  intro p hp2
  (repeat' ((fail_if_success (show Rg 19)); (fail_if_success (show Rg 21)); first | refine Zab ?_ | (refine Zaa tok (by rfl) ?_; conv => whnf) | refine Zah ?_ | (refine Zag ?_; conv => whnf) | (refine Za0 ?_; conv => whnf) | refine Zaf rfl (fun hb => ?_) (fun hb => ?_)))
  ·have hpl : p < (topF s).regs.length := by simp only [decide_eq_true_eq] at hb; omega
   clear hb
   have hpr : p < (m.funcs.getD (topF s).f.toNat default).regs.toNat := by omega
   have hpp : (p : Int).toNat = p := rfl
   have hsel : Zbi s.stack (0 + (s.stack.length - 1)) = .rs jT 1 0 (topF s).regs.length := by rw [Nat.zero_add]; exact Zbg hp rfl
   ((repeat' ((fail_if_success (show Rg 20)); (fail_if_success (show Rg 18)); first | (refine Zaa tok (by rfl) ?_; conv => whnf) | (refine Zag ?_; conv => whnf) | refine Zaf rfl (fun hb => ?_) (fun hb => ?_) | (refine uA ?_ ?_; rotate_left; (conv => whnf); rotate_right))); all_goals (try ((guard_target = Zac _ _ _ _); refine Zae ?_; (all_goals (try simp only [Zac, kZ, kA, kB, mL, Zad] at *)); all_goals omega)))
   ·have hA0 : atB A (topF s).block.toNat p = false := by simpa [atB] using hb
    clear hb
    have hmod : (p : Int).tmod (words.length : Int) = ((p % words.length : Nat) : Int) := by rw [Int.tmod_eq_emod_of_nonneg (by omega)]; rfl
    have hmw : IntKind.i64.wrap ((p : Int).tmod (words.length : Int)) = ((p % words.length : Nat) : Int) := by
     have := Nat.mod_lt p hw0
     rw [hmod, wrap64 (by omega) (by omega)]
    have hml := Nat.mod_lt p hw0
    refine Zdv tok mix (by rfl) [0, 1, 2, 3, 4, 5, 6, 7, 8, 9, 10, 11, 12, 13, 14] 40 (by rfl) (by rfl) (by rfl) ?_
    conv => whnf
    (repeat' first
     | (refine fAV (x := Zbi s.stack (0 + (s.stack.length - 1))) (y := .rs jT 1 0 (topF s).regs.length) hsel ?_; (conv => whnf))
     | (refine uA ?_ ?_; rotate_left; (conv => whnf); rotate_right)
     | (guard_target = And _ _; refine @And.intro (gOp _ _ _ _ _ _ _ _ _) _ (by (conv => whnf); first | exact ⟨rfl, rfl⟩ | (refine fAV (x := Zbi s.stack (0 + (s.stack.length - 1))) (y := .rs jT 1 0 (topF s).regs.length) hsel ?_; (conv => whnf); exact ⟨rfl, rfl⟩)) ?_; conv => whnf)
     | (guard_target = And _ _; refine And.intro ?_ ?_ <;> (conv => whnf)))
    all_goals (try rfl)
    all_goals (try ((guard_target = Zac _ _ _ _); refine Zae ?_; (all_goals (try simp only [Zac, kZ, kA, kB, mL, Zad] at *)); (all_goals (try (simp (disch := omega) only [wrap64]))); all_goals omega))
    ·refine Zae ?_
     rw [Zcu, Nat.zero_add]; exact hpl
    (repeat' (refine Zaa tok (by rfl) ?_; conv => whnf))
    refine ⟨p + 1, hpl, by omega, ?_⟩
    refine Weak.fam (L := []) (tl := [(3, .int .u8 more), (4, u16s words), (5, .bp (5, 0, 0) 0), (11, .bp (11, 0, 0) 0), (13, iv (s.stack.length - 1 : Nat)), (14, .bp (14, 0, 0) 0), (15, boolss A), (16, .bp (16, 0, 0) 0), (17, iv (p + 1))]) (hl := [((5, 0, 0), Za2 (Zbf m)), ((11, 0, 0), .row true 21 1 (fun _ => Zbk s)), ((14, 0, 0), Za2 (Zby (topF s))), ((16, 0, 0), .row false 21 1 (fun _ => cpB jN jE s))] ++ [(jN, Zch s.stack), (jE, evB s.events), (jT, regB (Zdz (atB A (topF s).block.toNat) words (topF s).regs (p + 1)))]) (F := famW s.stack) [] rfl (fun c hc => by cases hc) ?_ ?_ ?_ (fun i hi => by cases hi)
    ·(repeat' first | exact TLg.nil | refine TLg.cons (GV.imm rfl) ?_ | refine TLg.cons (GV.bp rfl rfl) ?_ | refine TLg.cons (GV.int ?_) ?_)
     all_goals first | rfl | (simp (disch := omega) only [wrap64]; done) | (simp (disch := omega) only [wrap64]; omega)
    ·refine .old rfl rfl (GB.one (GVs.imm rfl) (fun _ => rfl)) (.old rfl rfl (GB.one (GVs.imm rfl) (fun _ => rfl)) (.old rfl rfl (GB.one (GVs.imm rfl) (fun _ => rfl)) (.old rfl rfl (GB.one (GVs_cpB (.rs rfl rfl rfl rfl) (.rs rfl rfl rfl rfl)) (fun e => by cases e)) (.old rfl rfl (GB_fr (fun _ _ => rfl) rfl (fun q hq => Zcf hq) rfl) (.old rfl rfl (Zd8 _) (.old rfl rfl ?_ .nil))))))
     refine GB.rowI (by rw [Zcu, Zcu]; exact Nat.le_refl _) (fun q hq => ?_)
     rw [Zcu] at hq
     have e := patch_row (A := atB A (topF s).block.toNat) (ws := words) hq hpl hA0 (v := words.getD (IntKind.i64.wrap ((p : Int).tmod (words.length : Int))).toNat 0) (by rw [hmw]; rfl)
     show Zcd (updR _ (0 + p) _ q) = true ∧ updR _ (0 + p) _ q = _
     rw [Nat.zero_add p]
     exact ⟨by rw [e]; rfl, e⟩
    ·refine Zfh (fun _ _ => rfl) (fun q hq => ?_)
     exact Za1 hq
   ·have hA1 : atB A (topF s).block.toNat p = true := by simpa [atB] using hb
    clear hb
    (repeat' (refine Zaa tok (by rfl) ?_; conv => whnf))
    refine ⟨p + 1, hpl, by omega, ?_⟩
    refine Weak.fam (L := []) (tl := [(3, .int .u8 more), (4, u16s words), (5, .bp (5, 0, 0) 0), (11, .bp (11, 0, 0) 0), (13, iv (s.stack.length - 1 : Nat)), (14, .bp (14, 0, 0) 0), (15, boolss A), (16, .bp (16, 0, 0) 0), (17, iv (p + 1))]) (hl := [((5, 0, 0), Za2 (Zbf m)), ((11, 0, 0), .row true 21 1 (fun _ => Zbk s)), ((14, 0, 0), Za2 (Zby (topF s))), ((16, 0, 0), .row false 21 1 (fun _ => cpB jN jE s))] ++ [(jN, Zch s.stack), (jE, evB s.events), (jT, regB (Zdz (atB A (topF s).block.toNat) words (topF s).regs (p + 1)))]) (F := famW s.stack) [] rfl (fun c hc => by cases hc) ?_ ?_ ?_ (fun i hi => by cases hi)
    ·(repeat' first | exact TLg.nil | refine TLg.cons (GV.imm rfl) ?_ | refine TLg.cons (GV.bp rfl rfl) ?_ | refine TLg.cons (GV.int ?_) ?_)
     all_goals first | rfl | (simp (disch := omega) only [wrap64]; done) | (simp (disch := omega) only [wrap64]; omega)
    ·refine .old rfl rfl (GB.one (GVs.imm rfl) (fun _ => rfl)) (.old rfl rfl (GB.one (GVs.imm rfl) (fun _ => rfl)) (.old rfl rfl (GB.one (GVs.imm rfl) (fun _ => rfl)) (.old rfl rfl (GB.one (GVs_cpB (.rs rfl rfl rfl rfl) (.rs rfl rfl rfl rfl)) (fun e => by cases e)) (.old rfl rfl (GB_fr (fun _ _ => rfl) rfl (fun q hq => Zcf hq) rfl) (.old rfl rfl (Zd8 _) (.old rfl rfl ?_ .nil))))))
     refine GB.rowI (by rw [Zcu, Zcu]; exact Nat.le_refl _) (fun q hq => ⟨rfl, ?_⟩)
     rw [Zcu] at hq
     rw [patch_keep hq hA1]
    ·refine Zfh (fun _ _ => rfl) (fun q hq => ?_)
     exact Za1 hq
  ·have hpe : p = (topF s).regs.length := by simp only [decide_eq_false_iff_not] at hb; omega
   clear hb
   subst hpe
   have hT : OkS m (patM (atB A (topF s).block.toNat) words s) := okS_pat hS hp
   have hpl := pat_len (A := atB A (topF s).block.toNat) (ws := words) hp
   have hfr := pat_fr (A := atB A (topF s).block.toNat) (ws := words) hp
   have hlock := lock hr hS.ok hT.ok hlive
   have hold := fun q => pat_old (A := atB A (topF s).block.toNat) (ws := words) (s := s) (q := q)
   have hptop : topF (patM (atB A (topF s).block.toNat) words s) = { topF s with regs := Zdz (atB A (topF s).block.toNat) words (topF s).regs (topF s).regs.length } := by
    show (patM (atB A (topF s).block.toNat) words s).stack.getD ((patM (atB A (topF s).block.toNat) words s).stack.length - 1) default = _
    rw [hpl]; exact pat_top hp
   have hcp : cpB jN jE s = cpB jN jE (patM (atB A (topF s).block.toNat) words s) := by unfold cpB; rw [hpl]; rfl
   have hevp : (patM (atB A (topF s).block.toNat) words s).events = s.events := rfl
   have hrt : (topF (patM (atB A (topF s).block.toNat) words s)).regs = Zdz (atB A (topF s).block.toNat) words (topF s).regs (topF s).regs.length := by rw [hptop]
   have hgen : ∃ t, patM (atB A (topF s).block.toNat) words s = t := ⟨_, rfl⟩
   obtain ⟨t, ht⟩ := hgen
   rw [ht] at hT hpl hfr hcp hevp hrt
   have hold' : ∀ q, q < s.stack.length - 1 → t.stack.getD q default = s.stack.getD q default := fun q hq => by rw [← ht]; exact hold q hq
   have hlock' : ∀ k, Lv.RelM (Lv.RelF false m m (Lv.EnM m)) (itM m s k) (itM m t k) := fun k => by rw [← ht]; exact (hlock k).1
   (repeat' ((fail_if_success (show Rg 22)); first | (refine Zaa tok (by rfl) ?_; conv => whnf) | refine Zah ?_))
   refine Zax (fun j : Nat => mkF [(3, .int .u8 more), (5, .bp (5, 0, 0) 0), (11, .bp (11, 0, 0) 0), (16, .bp (16, 0, 0) 0), (18, iv j)] [((5, 0, 0), Za2 (Zbf m)), ((11, 0, 0), .row true 21 1 (fun _ => Zbk (itM m s j))), ((16, 0, 0), .row false 21 1 (fun _ => Zbk (itM m t j)))] noH) (fun j => j ≤ 300) (fun j => 300 - j) 0 (by omega) ?_ ?_
   ·refine Weak.fam (L := []) (tl := [(3, .int .u8 more), (5, .bp (5, 0, 0) 0), (11, .bp (11, 0, 0) 0), (16, .bp (16, 0, 0) 0), (18, iv 0)]) (hl := [((5, 0, 0), Za2 (Zbf m)), ((11, 0, 0), .row true 21 1 (fun _ => Zbk (itM m s 0))), ((16, 0, 0), .row false 21 1 (fun _ => Zbk (itM m t 0)))]) (F := noH) [] rfl (fun c hc => by cases hc) ?_ ?_ noF (fun i hi => by cases hi)
    ·(repeat' first | exact TLg.nil | refine TLg.cons (GV.imm rfl) ?_ | refine TLg.cons (GV.bp rfl rfl) ?_)
    ·refine .old rfl rfl (GB.one (GVs.imm rfl) (fun _ => rfl)) (.old rfl rfl (GB.one (GVs.imm rfl) (fun _ => rfl)) (.old rfl rfl (GB.one ?_ (fun e => by cases e)) .nil))
     show GVs _ _ _ (cpB jN jE s) (Zbk t)
     rw [hcp]
     refine GVs_frzT (fun j i hj e => ?_) ?_ ?_ ?_ (fun q hq => ?_)
     ·have e' : j = i := Option.some.inj e
      subst e'
      exact ⟨(fun e2 => by subst e2; cases hj), (fun e2 => by subst e2; cases hj), (fun e2 => by subst e2; cases hj), (fun q e2 => by subst e2; cases hj)⟩
     ·rw [hfr]; rfl
     ·rw [hevp]; rfl
     ·rw [hrt]; rfl
     ·rw [hpl] at hq
      rw [hold' q hq]
      exact Za1 hq
   intro j hj
   have hR := hlock' (j + 1)
   have hTold := c_Told (itM m s (j + 1)) (itM m t (j + 1))
   rw [told_of hR.tell] at hTold
   have hS1 := c_mStepM m (itM m s j) hr (okS_it hr hS j) (by have := ev_it (m := m) (s := s) j; omega)
   have hS2 := c_mStepM m (itM m t j) hr (okS_it hr hT j) (by have := ev_it (m := m) (s := t) j; rw [hevp] at this; omega)
   have hS1 : FC Tryz.prog 34 [.agg (Zbf m), .agg (Zbk (itM m s j))] (.tup [.agg (Zbk (itM m s (j + 1))), iv 0]) := hS1
   have hS2 : FC Tryz.prog 34 [.agg (Zbf m), .agg (Zbk (itM m t j))] (.tup [.agg (Zbk (itM m t (j + 1))), iv 0]) := hS2
   have hln := hR.ln
   have hce := hR.cells
   ((repeat' ((fail_if_success (show Rg 24)); (fail_if_success (show Rg 29)); first | refine Zab ?_ | (refine Zaa tok (by rfl) ?_; conv => whnf) | refine Zah ?_ | (refine Zag ?_; conv => whnf) | (refine Za0 ?_; conv => whnf) | refine Zaf rfl (fun hb => ?_) (fun hb => ?_) | (refine uA ?_ ?_; rotate_left; (conv => whnf); rotate_right))); all_goals (try ((guard_target = Zac _ _ _ _); refine Zae ?_; (all_goals (try simp only [Zac, kZ, kA, kB, mL, Zad] at *)); all_goals omega)))
   ·have h60 := Zdh .u8 (more.tmod 60)
    rw [show IntKind.u8.min = 0 from rfl, show IntKind.u8.max = 255 from rfl] at h60
    have hj3 : j < 300 := by
     rw [wrap64 (x := IntKind.u8.wrap (more.tmod 60)) (by omega) (by omega)] at hb
     simp only [decide_eq_true_eq] at hb; omega
    clear hb
    (repeat' (refine Zaa tok (by rfl) ?_; conv => whnf))
    refine .inl ⟨_, _, _, uG (QC.fc hS1 rfl), ?_⟩
    conv => whnf
    (repeat' first | refine Zab ?_ | (refine Zaa tok (by rfl) ?_; conv => whnf))
    refine .inl ⟨_, _, _, uG (QC.fc hS2 rfl), ?_⟩
    conv => whnf
    (repeat' first | refine Zab ?_ | (refine Zaa tok (by rfl) ?_; conv => whnf))
    refine .inl ⟨_, _, _, uG (QC.fc hTold rfl), ?_⟩
    conv => whnf
    (repeat' ((fail_if_success (show Rg 27)); (fail_if_success (show Rg 28)); first | refine Zab ?_ | (refine Zag ?_; conv => whnf) | refine Zaf rfl (fun hb => ?_) (fun hb => ?_)))
    ·exfalso
     rw [hln, hce] at hb
     simp at hb
    clear hb
    (repeat' first | (refine Zaa tok (by rfl) ?_; conv => whnf) | (refine Zas tok mix (by rfl) ?_; conv => whnf))
    refine ⟨j + 1, hj3, by omega, ?_⟩
    refine Weak.fam (L := []) (tl := [(3, .int .u8 more), (5, .bp (5, 0, 0) 0), (11, .bp (11, 0, 0) 0), (16, .bp (16, 0, 0) 0), (18, iv (j + 1))]) (hl := [((5, 0, 0), Za2 (Zbf m)), ((11, 0, 0), .row true 21 1 (fun _ => Zbk (itM m s (j + 1)))), ((16, 0, 0), .row false 21 1 (fun _ => Zbk (itM m t (j + 1))))]) (F := noH) [] rfl (fun c hc => by cases hc) ?_ ?_ noF (fun i hi => by cases hi)
    ·(repeat' first | exact TLg.nil | refine TLg.cons (GV.imm rfl) ?_ | refine TLg.cons (GV.bp rfl rfl) ?_ | refine TLg.cons (GV.int ?_) ?_)
     all_goals first | rfl | (simp (disch := omega) only [wrap64]; done) | (simp (disch := omega) only [wrap64]; omega)
    ·exact .old rfl rfl (GB.one (GVs.imm rfl) (fun _ => rfl)) (.old rfl rfl (GB.one (GVs.imm rfl) (fun _ => rfl)) (.old rfl rfl (GB.one (GVs.imm rfl) (fun e => by cases e)) .nil))
   ·(repeat' first | (refine Zaa tok (by rfl) ?_; conv => whnf) | (refine Zak ?_; conv => whnf))
    exact ⟨_, rfl, Rel.bool rfl⟩
end Go.Proofs.YtoelbgjpmpoolaaGreat
namespace Go.Proofs.YtoelbgjpmpoolaaGreat
open Go Dv Go.ChangeShapes Go.WideShapes Go.ChangeAt Go.RowKit
open Go.Proofs.YtoelbgjpmpoolaaGreat
set_option maxRecDepth 100000
set_option linter.unusedVariables false
namespace liveIdle
theorem own : ownKnob Tryz.prog.godebug = none := by kernel_rfl
theorem contract (H : Type) (enc : TypeId × Value → H) (W : World) (base : Nat) (args : Array Value) (ds gs : List (DataW H)) (before : List MemPlace) (hk : Rows.uptoSmall H (ds ++ gs) = true)
  (hval : ∀ (j : Nat) t v, Tryz.f10.params[j]? = some t → args[j]? = some v → Value.okWide Tryz.prog W .any base t v)
  (hW : DataW.Whole enc Tryz.prog Tryz.f10.params.toList Rows.liveIdleSpec.vars false W args.toList ds gs before) :
  Calls Tryz.prog 10 args W fun e W' => ∃ v, e = .returned v ∧ Rows.liveIdleSpec.post enc Tryz.prog Tryz.f10 false true false false W args v W' := by
 have hsm := small_of hk
 have hW' := hW
 obtain ⟨p, q, hA0, hV, rfl, hfz, hnd⟩ := hW
 have hA : DataW.TrodAll enc Tryz.prog W 0 (fun _ => true) true Tryz.f10.params.toList args.toList ds p := hA0
 rw [Tryz.params10] at hA hval
 obtain ⟨v0, vs0, d0, ds0, p0, q0, hargs, rfl, rfl, h0, r0⟩ := trodAll_cons hA
 obtain ⟨v1, vs1, d1, ds1, p1, q1, rfl, rfl, rfl, h1, r1⟩ := trodAll_cons r0
 obtain ⟨v2, vs2, d2, ds2, p2, q2, rfl, rfl, rfl, h2, r2⟩ := trodAll_cons r1
 obtain ⟨v3, vs3, d3, ds3, p3, q3, rfl, rfl, rfl, h3, r3⟩ := trodAll_cons r2
 obtain ⟨v4, vs4, d4, ds4, p4, q4, rfl, rfl, rfl, h4, r4⟩ := trodAll_cons r3
 obtain ⟨rfl, rfl, rfl⟩ := trodAll_nil r4
 obtain rfl : args = #[v0, v1, v2, v3, v4] := by cases args; simp_all
 obtain ⟨x0, hx0⟩ := arg_struct Tryz.underlying24 (hval 0 _ v0 rfl rfl) h0 rd_Module (hsm d0 (by simp))
 obtain ⟨x1, hx1⟩ := arg_slice Tryz.underlying25 (hval 1 _ v1 rfl rfl) h1 rd_u16s (hsm d1 (by simp))
 obtain ⟨x2, hx2⟩ := arg_int Tryz.underlying5 (hval 2 _ v2 rfl rfl) h2
 have hb2 := hx2
 simp only [V] at hb2
 obtain ⟨x3, hx3⟩ := arg_int Tryz.underlying5 (hval 3 _ v3 rfl rfl) h3
 have hb3 := hx3
 simp only [V] at hb3
 obtain ⟨x4, hx4⟩ := arg_slice Tryz.underlying25 (hval 4 _ v4 rfl rfl) h4 rd_u16s (hsm d4 (by simp))
 obtain ⟨rfl, rfl⟩ := trodVars_none hV
 refine law_contract (tb := 4) (by decide +kernel) (by rw [Tryz.params10]; decide +kernel) rfl (by kernel_rfl) Tryz.underlying4 hW' ⟨rfl, rfl, rfl⟩ (FC.calls (c_LiveIdle x0 x1 x2 x3 x4) ?_)
 simp only [Vs]
 exact ⟨_, _, rfl, hx0, _, _, rfl, hx1, _, _, rfl, hx2, _, _, rfl, hx3, _, _, rfl, hx4, rfl⟩
theorem lifted (os : Os) (started : os.Started) (H : Type) (enc : TypeId × Value → H) (F : Stop.Interp) :
  ReturnsInHanded {} Tryz.checked os 10 .any ((Rows.OpenSpec.upto Rows.liveIdleSpec).pre6 enc Tryz.prog Tryz.f10 Rows.liveIdleUptoRow.domain false) (((Rows.OpenSpec.upto Rows.liveIdleSpec).at F).post enc Tryz.prog Tryz.f10 false true false false) := by
 refine returnsInHanded_of_cond (C := Tryz.checked) (s := Rows.OpenSpec.upto Rows.liveIdleSpec) (k := Rows.uptoSmall) rfl own started (by kernel_rfl) Tryz.func10
  (OpenSpec.witness (enc := enc) (C := Tryz.checked) (s := Rows.OpenSpec.upto Rows.liveIdleSpec) (k := Rows.uptoSmall) rfl false ⟨#[], #[.agg #[.slice none 0 0], .slice none 0 0, .int .u8 0, .int .u8 0, .slice none 0 0], []⟩ 64 (by kernel_rfl) (by kernel_rfl) (by kernel_rfl)
   (x := ([.agg [.nil], .nil, .lit (.int .u8 0), .lit (.int .u8 0), .nil], [], [])) (by kernel_rfl) rfl (by kernel_rfl)) ?_
 intro W base args ds gs before hval hW _ hk _
 exact contract H enc W base args ds gs before hk hval hW
theorem over : Rows.liveIdleUptoRow.holds Tryz.pinned (Rows.OpenSpec.upto Rows.liveIdleSpec) :=
 OpenClaim.holds_of_cond 10 Tryz.f10 rfl rfl rfl rfl rfl rfl rfl ⟨rfl, rfl, rfl, rfl, rfl⟩ rfl rfl rfl rfl rfl (by kernel_rfl) Tryz.func10 (by kernel_rfl)
  (of_decide_eq_true (by kernel_rfl)) (by unfold Func.isWrapper; first | (rw [if_pos (by decide +kernel)]; kernel_rfl) | (rw [if_neg (by decide +kernel)]; exact ⟨rfl, rfl⟩))
  (fun os started H enc _ F => lifted os started H enc F)
end liveIdle
theorem liveIdle_holds : Rows.LiveIdleUptoSaid := liveIdle.over
end Go.Proofs.YtoelbgjpmpoolaaGreat
