/- Whatever a module, the words told to it, the steps, and what is put in places of the top frame not live at its block's beginning: mach.Step then does and tells the same, step by step. -/
import Derived.Test.YtoelbgjpmpoolaaGreatDvc3
import Derived.Test.YtoelbgjpmpoolaaGreatLawliveIdle1
set_option linter.unusedVariables false
set_option linter.unusedSimpArgs false
set_option linter.unnecessarySimpa false
namespace Go.Proofs.YtoelbgjpmpoolaaGreat
open Go Dv
set_option maxRecDepth 10000
set_option linter.unusedSimpArgs false
theorem Zco {m : Zai} (h : Zbd m = true) {n : Nat} (hn : n < m.funcs.length) : Zfq m (m.funcs.getD n default) = true := by
 unfold Zbd at h; rw [Bool.and_eq_true] at h
 exact List.all_eq_true.1 h.2 _ (Zde default hn)
theorem okF_fun {m : Zai} {f : Zap} (hr : Zbd m = true) (h : OkF m f) : Zfq m (Zb7 m f) = true := Zco hr (by have := h.f0; have := h.f1; omega)
theorem okF_blk {m : Zai} {f : Zap} (hr : Zbd m = true) (h : OkF m f) {q : Int} (q0 : 0 ≤ q) (q1 : q < (Zb7 m f).blocks.length) : blkB m (Zb7 m f) ((Zb7 m f).blocks.getD q.toNat default) = true := func_blocks (okF_fun hr h) (by omega)
theorem Zfp {m : Zai} {f : Zap} (hr : Zbd m = true) (h : OkF m f) : (Zao m f).ins.length ≤ 64 ∧ EndP m (Zb7 m f) (Zao m f).fin := by
 have := okF_blk hr h h.b0 h.b1
 unfold blkB at this
 rw [Bool.and_eq_true, decide_eq_true_eq] at this
 exact ⟨this.1.1, this.1.2.2⟩
theorem okF_pad {m : Zai} {f : Zap} (hr : Zbd m = true) (h : OkF m f) (hk : (Zao m f).fin.kind = 4) :
  (0 ≤ (Zao m f).fin.pad ∧ (Zao m f).fin.pad < (Zb7 m f).blocks.length) ∧ ((Zb7 m f).blocks.getD (Zao m f).fin.pad.toNat default).landing = true ∧
  0 ≤ ((Zb7 m f).blocks.getD (Zao m f).fin.pad.toNat default).pad.dst ∧ ((Zb7 m f).blocks.getD (Zao m f).fin.pad.toNat default).pad.dst < f.regs.length := by
 have he := (Zfp hr h).2
 have h4 : inn (Zao m f).fin.pad (Zb7 m f).blocks.length = true ∧ ((Zb7 m f).blocks.getD (Zao m f).fin.pad.toNat default).landing = true := by
  rcases he with h | h | h | h | h
  ·omega
  ·omega
  ·omega
  ·exact ⟨h.2.2.2.2.2.2.1, h.2.2.2.2.2.2.2⟩
  ·omega
 obtain ⟨h5, h6⟩ := h4
 rw [Zad] at h5
 have hp := okF_blk hr h h5.1 h5.2
 unfold blkB at hp
 rw [Bool.and_eq_true, decide_eq_true_eq] at hp
 have hP := hp.1.2.1
 refine ⟨h5, h6, ?_⟩
 unfold PadP at hP
 rcases hP with h7 | h7
 ·rw [h6] at h7; exact absurd h7.1 (by simp)
 ·have := h7.2.2.2.1
  rw [Zad] at this
  rw [h.regs]; exact this
def Zex (p : Nat → Bool) : Nat → Nat
 | 0 => 0
 | n + 1 => if p (n + 1) = true then n + 1 else Zex p n
theorem Zfa {p : Nat → Bool} : ∀ {n : Nat}, (∃ i, i ≤ n ∧ p i = true) → p (Zex p n) = true ∧ Zex p n ≤ n
  | 0, ⟨i, hi, h⟩ => by have : i = 0 := by omega
                        subst this; exact ⟨h, Nat.le_refl _⟩
  | n + 1, ⟨i, hi, h⟩ => by
      unfold Zex
      split
      · rename_i h2; exact ⟨h2, Nat.le_refl _⟩
      · rename_i h2
        have := Zfa (p := p) (n := n) ⟨i, by
          rcases Nat.lt_or_ge n i with h3 | h3
          · have : i = n + 1 := by omega
            subst this; exact absurd h h2
          · exact h3, h⟩
        exact ⟨this.1, by omega⟩
theorem downK_no {p : Nat → Bool} {n : Nat} (h : ∃ i, i ≤ n ∧ p i = true) (hn : ¬ p n = true) : 0 < n ∧ Zex p n = Zex p (n - 1) := by
  cases n with
  | zero => obtain ⟨i, hi, h⟩ := h; have : i = 0 := by omega
            subst this; exact absurd h hn
  | succ n => refine ⟨by omega, ?_⟩; show (if p (n + 1) = true then n + 1 else Zex p n) = _; rw [if_neg hn]; rfl
theorem downK_yes {p : Nat → Bool} {n : Nat} (hn : p n = true) : Zex p n = n := by
 cases n with
 | zero => rfl
 | succ n => show (if p (n + 1) = true then n + 1 else _) = _; rw [if_pos hn]
def Zbs (m : Zai) (l : List Zap) (w : Int) (c : Bool) (i : Nat) : Bool := Zcw m (l.getD i default) w c
def Zdo (s : Mach) (k : Nat) : Mach := { s with stack := s.stack.take k }
def Zbu (m : Zai) (s : Mach) (w : Int) : Mach :=
 let l := (popM s).stack
 if (List.range l.length).any (Zbs m l w false) = true then
  let k := Zex (Zbs m l w true) (l.length - 1)
  Zbx (Zdo (popM s) (k + 1)) (landF m (l.getD k default) (Zao m (l.getD k default)).fin.pad w)
 else endM (popM s) 2 w
theorem Zf6 {m : Zai} {f : Zap} {w : Int} (h : Zcw m f w false = true) : Zcw m f w true = true := by
 unfold Zcw at h ⊢
 simp only [Bool.false_and, Bool.or_false, Bool.and_eq_true, Bool.true_and, Bool.or_eq_true] at h ⊢
 exact ⟨h.1, h.2.1, .inl h.2.2⟩
set_option linter.unusedSimpArgs false
theorem c_fFun (m : Zai) (n : Int) (hr : Zbd m = true) (h0 : 0 ≤ n) (h1 : n < m.funcs.length) : FC Tryz.prog 118 [.agg (Zbf m), iv n] (.tup [.agg (Zbh (m.funcs.getD n.toNat default)), .bool true]) := by
 refine Zav tok Tryz.func118 rfl (by decide +kernel) (nB rfl) ?_
 have hR := c_lRight c_lpad m
 rw [hr] at hR
 (repeat' first | refine Zab ?_ | (refine Zaa tok (by rfl) ?_; conv => whnf))
 refine .inl ⟨_, _, _, uG (QC.fc hR rfl), ?_⟩
 conv => whnf
 ((repeat' first | refine Zab ?_ | (refine Zaa tok (by rfl) ?_; conv => whnf) | (refine Zag ?_; conv => whnf) | (refine Zak ?_; conv => whnf) | refine Zaf rfl (fun hb => ?_) (fun hb => ?_) | (refine uA ?_ ?_; rotate_left; (conv => whnf); rotate_right)); all_goals (try ((guard_target = Zac _ _ _ _); refine Zae ?_; (all_goals (try simp only [Zac, kZ, kA, kB, mL, Zad] at *)); all_goals omega)))
 ·exfalso
  rw [decide_eq_false (show ¬ n < 0 by omega), decide_eq_false (show ¬ (m.funcs.length : Int) ≤ n by omega)] at hb
  cases hb
 ·exact ⟨_, rfl, Rel.tup (.cons (Rel.agg (Rels.imm rfl)) (.cons (Rel.imm rfl) .nil))⟩
theorem c_fAt (f : Zap) (n : Int) : FC Tryz.prog 195 [.agg (Zby f), iv n] (.tup [.int .u16 (if thereB f n = true then f.regs.getD n.toNat 0 else 0), .bool (thereB f n)]) := by
 refine Zav tok Tryz.func195 rfl (by decide +kernel) (nB rfl) ?_
 ((repeat' first | refine Zab ?_ | (refine Zaa tok (by rfl) ?_; conv => whnf) | (refine Zag ?_; conv => whnf) | (refine Zak ?_; conv => whnf) | refine Zaf rfl (fun hb => ?_) (fun hb => ?_) | (refine uA ?_ ?_; rotate_left; (conv => whnf); rotate_right)); all_goals (try ((guard_target = Zac _ _ _ _); refine Zae ?_; (all_goals (try simp only [Zac, kZ, kA, kB, mL, Zad] at *)); all_goals omega)))
 ·have hn : thereB f n = false := by
   unfold thereB; rw [decide_eq_false_iff_not]; intro h
   rw [decide_eq_false (show ¬ n < 0 by omega), decide_eq_false (show ¬ (f.regs.length : Int) ≤ n by omega)] at hb
   cases hb
  rw [hn]
  exact ⟨_, rfl, Rel.tup (.cons (Rel.imm rfl) (.cons (Rel.imm rfl) .nil))⟩
 ·have hn : thereB f n = true := by
   unfold thereB; rw [decide_eq_true_eq]
   by_cases e1 : n < 0
   ·rw [decide_eq_true e1] at hb; cases hb
   ·rw [decide_eq_false e1] at hb
    by_cases e2 : (f.regs.length : Int) ≤ n
    ·rw [decide_eq_true e2] at hb; cases hb
    ·omega
  rw [hn]
  exact ⟨_, rfl, Rel.tup (.cons (Rel.imm rfl) (.cons (Rel.imm rfl) .nil))⟩
theorem c_fRight (m : Zai) (f : Zap) (hr : Zbd m = true) (h : OkF m f) : FC Tryz.prog 122 [.agg (Zbf m), .agg (Zby f)] (.bool true) := by
 refine Zav tok Tryz.func122 rfl (by decide +kernel) (nB rfl) ?_
 have h1 := c_fFun m f.f hr h.f0 h.f1
 have f0 := h.f0
 have f1 := h.f1
 have b0 := h.b0
 have b1 : f.block < (m.funcs.getD f.f.toNat default).blocks.length := h.b1
 have a0 := h.a0
 have a1 : f.at_ ≤ ((m.funcs.getD f.f.toNat default).blocks.getD f.block.toNat default).ins.length := h.a1
 have hg : (f.regs.length : Int) = (m.funcs.getD f.f.toNat default).regs := h.regs
 generalize m.funcs.getD f.f.toNat default = F at *
 (repeat' first | refine Zab ?_ | (refine Zaa tok (by rfl) ?_; conv => whnf))
 refine .inl ⟨_, _, _, uG (QC.fc h1 rfl), ?_⟩
 conv => whnf
 ((repeat' first | refine Zab ?_ | (refine Zaa tok (by rfl) ?_; conv => whnf) | (refine Zas tok mix (by rfl) ?_; conv => whnf) | (refine Zag ?_; conv => whnf) | (refine Zak ?_; conv => whnf) | refine Zaf rfl (fun hb => ?_) (fun hb => ?_) | (refine uA ?_ ?_; rotate_left; (conv => whnf); rotate_right)); all_goals (try ((guard_target = Zac _ _ _ _); ((refine Zbc ?_; intro hgd; (conv at hgd => whnf))); (all_goals (try simp only [Zac, kZ, kA, kB, mL, Zad] at *)); all_goals omega)))
 ·exfalso
  rw [decide_eq_false (show ¬ f.block < 0 by omega), decide_eq_false (show ¬ (F.blocks.length : Int) ≤ f.block by omega), decide_eq_true hg] at hb
  cases hb
 ·refine ⟨_, rfl, Rel.bool ?_⟩
  rw [decide_eq_true a0, decide_eq_true a1]; rfl
set_option linter.unusedSimpArgs false
theorem c_fAns (f : Zap) (x : Ins) (h1 : 1 ≤ x.op) (h8 : x.op ≤ 8) (ha : 1 < x.op → 0 ≤ x.a ∧ x.a < f.regs.length) (hb' : 2 < x.op → 0 ≤ x.b ∧ x.b < f.regs.length) :
  FC Tryz.prog 194 [.agg (Zby f), .agg (Zbe x)] (.tup [.int .u16 (reckV f x).1, .bool (reckV f x).2]) := by
 refine Zav tok Tryz.func194 rfl (by decide +kernel) (nB rfl) ?_
 have hat : ∀ n, (0 ≤ n ∧ n < (f.regs.length : Int)) → FC Tryz.prog 195 [.agg (Zby f), iv n] (.tup [.int .u16 (f.regs.getD n.toNat 0), .bool true]) := fun n h => by
  have := c_fAt f n
  rw [show thereB f n = true from decide_eq_true h, if_pos rfl] at this; exact this
 by_cases h2 : 1 < x.op
 ·have hA := hat x.a (ha h2)
  (repeat' ((fail_if_success (show Rg 2)); (fail_if_success (show Rg 3)); first | refine Zab ?_ | (refine Zaa tok (by rfl) ?_; conv => whnf) | (refine Zag ?_; conv => whnf) | refine Zaf rfl (fun hb => ?_) (fun hb => ?_)))
  ·exfalso; simp at hb; omega
  clear hb
  have hV : reckV f x = doW x.op (f.regs.getD x.a.toNat 0) (if 2 < x.op then f.regs.getD x.b.toNat 0 else 0) := if_neg (by omega)
  rw [hV]
  (repeat' (refine Zaa tok (by rfl) ?_; conv => whnf))
  refine .inl ⟨_, _, _, uG (QC.fc hA rfl), ?_⟩
  conv => whnf
  (repeat' first | refine Zab ?_ | (refine Zaa tok (by rfl) ?_; conv => whnf))
  refine .inl ⟨_, _, _, uG (QC.fc (c_Two x.op) rfl), ?_⟩
  conv => whnf
  (repeat' ((fail_if_success (show Rg 6)); (fail_if_success (show Rg 7)); first | refine Zab ?_ | (refine Zag ?_; conv => whnf) | refine Zaf rfl (fun hb => ?_) (fun hb => ?_)))
  ·have h3 : 2 < x.op := by
    have : twoO x.op = true := by simpa using hb
    unfold twoO at this
    cases e : decide (2 < x.op) with
    | true => simpa using e
    | false => rw [e] at this; cases this
   clear hb
   rw [if_pos h3]
   (repeat' (refine Zaa tok (by rfl) ?_; conv => whnf))
   refine .inl ⟨_, _, _, uG (QC.fc (hat x.b (hb' h3)) rfl), ?_⟩
   conv => whnf
   (repeat' ((fail_if_success (show Rg 8)); (fail_if_success (show Rg 9)); first | refine Zab ?_ | (refine Zaa tok (by rfl) ?_; conv => whnf) | (refine Zag ?_; conv => whnf) | refine Zaf rfl (fun hb => ?_) (fun hb => ?_)))
   ·cases hb
   clear hb
   (repeat' (refine Zaa tok (by rfl) ?_; conv => whnf))
   refine .inl ⟨_, _, _, uG (QC.fc (c_Do x.op (f.regs.getD x.a.toNat 0) (f.regs.getD x.b.toNat 0)) rfl), ?_⟩
   conv => whnf
   (repeat' (refine Zak ?_; conv => whnf))
   exact ⟨_, rfl, Rel.tup (.cons (Rel.imm rfl) (.cons (Rel.imm rfl) .nil))⟩
  ·have h3 : ¬ 2 < x.op := by
    have : twoO x.op = false := by simpa using hb
    unfold twoO at this
    intro h
    rw [decide_eq_true h, cond_true, decide_eq_true h8] at this; cases this
   clear hb
   rw [if_neg h3]
   (repeat' ((fail_if_success (show Rg 8)); (fail_if_success (show Rg 9)); first | refine Zab ?_ | (refine Zaa tok (by rfl) ?_; conv => whnf) | (refine Zag ?_; conv => whnf) | refine Zaf rfl (fun hb => ?_) (fun hb => ?_)))
   ·cases hb
   clear hb
   (repeat' (refine Zaa tok (by rfl) ?_; conv => whnf))
   refine .inl ⟨_, _, _, uG (QC.fc (c_Do x.op (f.regs.getD x.a.toNat 0) 0) rfl), ?_⟩
   conv => whnf
   (repeat' (refine Zak ?_; conv => whnf))
   exact ⟨_, rfl, Rel.tup (.cons (Rel.imm rfl) (.cons (Rel.imm rfl) .nil))⟩
 ·have h2' : x.op = 1 := by omega
  have hV : reckV f x = (x.k, true) := if_pos h2'
  rw [hV]
  (repeat' first | refine Zab ?_ | (refine Zaa tok (by rfl) ?_; conv => whnf) | (refine Zag ?_; conv => whnf) | (refine Zak ?_; conv => whnf) | refine Zaf rfl (fun hb => ?_) (fun hb => ?_))
  ·exact ⟨_, rfl, Rel.tup (.cons (Rel.imm rfl) (.cons (Rel.imm rfl) .nil))⟩
  all_goals (exfalso; rw [h2'] at hb; cases hb)
abbrev r0 : Dv.Id := (905, 0, 0)
def regB (l : List Int) : Zam := .row true 1 l.length (fun x => [.int .u16 (l.getD x 0)])
def oneR (l : List Int) : Zal := orH (Zay [(r0, regB l)]) noH
def frO (f : Zap) (r : AV) : List AV := [iv f.f, iv f.block, iv f.at_, r, .int .u16 f.fly]
theorem leaveR {h : Zal} {hl : List (Dv.Id × Zam)} {F : Zal} (S : List (Dv.Id × Option Dv.Id)) (hn : Zcv (tgts S) = true) (hf : ∀ i ∈ tgts S, orH (Zay hl) F i = none ∨ i ∈ S.map (·.1)) (hh : HLs (srcL S) h (orH (Zay hl) F) hl)
  (hF : ∀ j b, F j = some b → HOk (srcL S) h (orH (Zay hl) F) j b) :
  (∀ j j' i, (orH (Zay hl) F j).isSome = true → (orH (Zay hl) F j').isSome = true → srcL S j = some i → srcL S j' = some i → j = j') ∧ ∀ j b, orH (Zay hl) F j = some b → HOk (srcL S) h (orH (Zay hl) F) j b :=
 ⟨Zfl hn hf, fun j b e => by
  rcases orH_some e with e1 | ⟨_, e1⟩
  ·exact hh.spec e1
  ·exact hF j b e1⟩
theorem c_copied (f : Zap) : HF Tryz.prog 158 [.agg (Zby f)] (.agg (frO f (.rs r0 1 0 f.regs.length))) (oneR f.regs) := by
 refine Zgz tok Tryz.func158 rfl (by decide +kernel) (nB rfl) ?_
 (repeat' first | refine Zab ?_ | (refine Zaa tok (by rfl) ?_; conv => whnf))
 refine .inl ⟨_, _, _, uG (QC.fo (rd := []) (Zgx f.regs) (Ress.imms rfl) (.inl rfl) rfl), ?_⟩
 conv => whnf
 (repeat' first | refine Zab ?_ | (refine Zaa tok (by rfl) ?_; conv => whnf) | (refine Zak ?_; conv => whnf))
 refine ⟨_, srcL [(r0, some (5, 0, 0))], rfl, ?_⟩
 rw [← and_assoc]
 refine ⟨leaveR [(r0, some (5, 0, 0))] rfl (fun c hc => ?_) (.old rfl rfl (GB.rowI (Nat.le_refl _) (fun q hq => ⟨rfl, rfl⟩)) .nil) (fun j b e => by cases e), .agg (.i (.i (.i (.cons (.rs rfl rfl rfl rfl) (.i .nil)))))⟩
 simp only [tgts, List.mem_cons, List.not_mem_nil, or_false] at hc
 subst hc; exact .inl rfl
theorem Zdm {l : List Int} {i : Dv.Id} (h : (oneR l i).isSome = true) : i = r0 := by
 unfold oneR orH noH at h
 simp only [Zay] at h
 cases e : idEq r0 i with
 | true => exact (Zaz.1 e).symm
 | false => rw [e] at h; cases h
theorem c_Go (f : Zap) (b : Int) : HF Tryz.prog 115 [.agg (Zby f), iv b] (.agg (frO { f with block := b, at_ := 0 } (.rs r0 1 0 f.regs.length))) (oneR f.regs) := by
 refine Zgz tok Tryz.func115 rfl (by decide +kernel) (nB rfl) ?_
 (repeat' first | refine Zab ?_ | (refine Zaa tok (by rfl) ?_; conv => whnf))
 refine .inr ⟨_, _, _, uG (QH.ofF (c_copied f) rfl (fun i hi => by rw [Zdm hi]; rfl)), ?_⟩
 conv => whnf
 (repeat' first | refine Zab ?_ | (refine Zaa tok (by rfl) ?_; conv => whnf) | (refine Zak ?_; conv => whnf))
 refine ⟨_, srcL [], rfl, ?_⟩
 rw [← and_assoc]
 refine ⟨leaveR [] rfl (fun c hc => by cases hc) (.old rfl rfl (GB.rowI (Nat.le_refl _) (fun q hq => ⟨rfl, rfl⟩)) .nil) (fun j b e => by cases e), .agg (.i (.i (.i (.cons (.rs rfl rfl rfl rfl) (.i .nil)))))⟩
set_option linter.unusedSimpArgs false
abbrev r1 : Dv.Id := (906, 0, 0)
set_option maxHeartbeats 2000000 in
theorem c_fReckon (f : Zap) (x : Ins) (hat0 : 0 ≤ f.at_) (hat : f.at_ < 1000000) (h1 : 1 ≤ x.op) (h8 : x.op ≤ 8) (hd : 0 ≤ x.dst ∧ x.dst < f.regs.length) (ha : 1 < x.op → 0 ≤ x.a ∧ x.a < f.regs.length) (hb' : 2 < x.op → 0 ≤ x.b ∧ x.b < f.regs.length) :
  HF Tryz.prog 156 [.agg (Zby f), .agg (Zbe x)] (.tup [.agg (frO (Zdi f x).1 (.rs r0 1 0 (Zdi f x).1.regs.length)), .bool (Zdi f x).2]) (oneR (Zdi f x).1.regs) := by
 refine Zgz tok Tryz.func156 rfl (by decide +kernel) (nB rfl) ?_
 refine Zaw 0 (fun hl => ?_)
 have hl0 : f.regs.length ≤ mL := hl.2.2.2.1.1
 have hmx : mL = 4294967296 := rfl
 clear hl
 have hT : FC Tryz.prog 195 [.agg (Zby f), iv x.dst] (.tup [.int .u16 (f.regs.getD x.dst.toNat 0), .bool true]) := by
  have := c_fAt f x.dst
  rw [show thereB f x.dst = true from decide_eq_true hd, if_pos rfl] at this; exact this
 have hA := c_fAns f x h1 h8 ha hb'
 (repeat' first | refine Zab ?_ | (refine Zaa tok (by rfl) ?_; conv => whnf))
 refine .inr ⟨_, _, _, uG (QH.ofF (c_copied f) rfl (fun i hi => by rw [Zdm hi]; rfl)), ?_⟩
 conv => whnf
 (repeat' first | refine Zab ?_ | (refine Zaa tok (by rfl) ?_; conv => whnf))
 refine .inl ⟨_, _, _, uG (QC.sc (rd := [r0]) hA (.cons (.agg (.i (.i (.i (.cons (.row rfl (.head _) rfl rfl (fun _ _ => rfl)) (.i .nil)))))) (.i .nil)) rfl), ?_⟩
 conv => whnf
 (repeat' first | refine Zab ?_ | (refine Zaa tok (by rfl) ?_; conv => whnf))
 refine .inl ⟨_, _, _, uG (QC.sc (rd := [r0]) hT (.cons (.agg (.i (.i (.i (.cons (.row rfl (.head _) rfl rfl (fun _ _ => rfl)) (.i .nil)))))) (.i .nil)) rfl), ?_⟩
 conv => whnf
 (repeat' ((fail_if_success (show Rg 5)); (fail_if_success (show Rg 6)); first | refine Zab ?_ | (refine Zaa tok (by rfl) ?_; conv => whnf) | (refine Zag ?_; conv => whnf) | refine Zaf rfl (fun hb => ?_) (fun hb => ?_)))
 ·have hv : Zdi f x = (f, false) := if_neg (by simpa using hb)
  rw [hv]
  (repeat' first | (refine Zaa tok (by rfl) ?_; conv => whnf) | (refine Zak ?_; conv => whnf))
  refine ⟨_, srcL [], rfl, ?_⟩
  rw [← and_assoc]
  exact ⟨leaveR [] rfl (fun c hc => by cases hc) (.old rfl rfl (GB.rowI (Nat.le_refl _) (fun q hq => ⟨rfl, rfl⟩)) .nil) (fun j b e => by cases e), .tup (.cons (.agg (.i (.i (.i (.cons (.rs rfl rfl rfl rfl) (.i .nil)))))) (.i .nil))⟩
 ·have hv : Zdi f x = ({ frW f x.dst (reckV f x).1 with at_ := f.at_ + 1 }, true) := if_pos (by simpa using hb)
  rw [hv]
  have hz : x.dst.toNat < f.regs.length := by omega
  have hlen : (frW f x.dst (reckV f x).1).regs.length = f.regs.length := by simp [frW]
  ((repeat' first | refine Zab ?_ | (refine Zaa tok (by rfl) ?_; conv => whnf) | (refine Zak ?_; conv => whnf) | (refine uA ?_ ?_; rotate_left; (conv => whnf); rotate_right)); all_goals (try ((guard_target = Zac _ _ _ _); refine Zae ?_; (all_goals (try simp only [Zac, kZ, kA, kB, mL, Zad] at *)); all_goals omega)))
  refine ⟨_, srcL [], rfl, ?_⟩
  rw [← and_assoc]
  refine ⟨leaveR [] rfl (fun c hc => by cases hc) (.old rfl rfl (GB.rowI (Nat.le_of_eq hlen) (fun q hq => ⟨?_, ?_⟩)) .nil) (fun j b e => by cases e), .tup (.cons (.agg (.i (.i (.cons (.int (wrap64 (by omega) (by omega))) (.cons (.rs rfl rfl rfl hlen.symm) (.i .nil)))))) (.i .nil))⟩
  ·rw [Nat.zero_add, rowSet (l := f.regs) hz]; rfl
  ·rw [Nat.zero_add]; exact rowSet (l := f.regs) hz
set_option maxHeartbeats 2000000 in
theorem c_fLand (m : Zai) (f : Zap) (pad w : Int) (hr : Zbd m = true) (hF : OkF m f) (p0 : 0 ≤ pad) (p1 : pad < (m.funcs.getD f.f.toNat default).blocks.length) (hl : (padOf m f pad).landing = true)
  (hd : 0 ≤ (padOf m f pad).pad.dst ∧ (padOf m f pad).pad.dst < f.regs.length) :
  HF Tryz.prog 163 [.agg (Zbf m), .agg (Zby f), iv pad, .int .u16 w] (.tup [.agg (frO (landF m f pad w) (.rs r0 1 0 (landF m f pad w).regs.length)), iv 0]) (oneR (landF m f pad w).regs) := by
 refine Zgz tok Tryz.func163 rfl (by decide +kernel) (nB rfl) ?_
 refine Zaw 1 (fun hl => ?_)
 have hl0 : f.regs.length ≤ mL := hl.2.2.2.1.1
 have hmx : mL = 4294967296 := rfl
 clear hl
 have hRt := c_fRight m f hr hF
 have hG : FC Tryz.prog 122 [.agg (Zbf m), .agg (Zby f)] (.bool true) := hRt
 have f0 := hF.f0
 have f1 := hF.f1
 have hz : (padOf m f pad).pad.dst.toNat < f.regs.length := by omega
 have hlen : (landF m f pad w).regs.length = f.regs.length := by simp [landF, frW]
 unfold padOf at hl hd hz
 (repeat' first | refine Zab ?_ | (refine Zaa tok (by rfl) ?_; conv => whnf))
 refine .inr ⟨_, _, _, uG (QH.ofF (c_copied f) rfl (fun i hi => by rw [Zdm hi]; rfl)), ?_⟩
 conv => whnf
 (repeat' first | refine Zab ?_ | (refine Zaa tok (by rfl) ?_; conv => whnf))
 refine .inl ⟨_, _, _, uG (QC.sc (rd := [r0]) hRt (.i (.cons (.agg (.i (.i (.i (.cons (.row rfl (.head _) rfl rfl (fun _ _ => rfl)) (.i .nil)))))) .nil)) rfl), ?_⟩
 conv => whnf
 ((repeat' ((fail_if_success (show Rg 3)); (fail_if_success (show Rg 4)); first | refine Zab ?_ | (refine Zag ?_; conv => whnf) | refine Zaf rfl (fun hb => ?_) (fun hb => ?_) | (refine uA ?_ ?_; rotate_left; (conv => whnf); rotate_right))); all_goals (try ((guard_target = Zac _ _ _ _); ((refine Zbc ?_; intro hgd; (conv at hgd => whnf))); (all_goals (try simp only [Zac, kZ, kA, kB, mL, Zad] at *)); all_goals omega)))
 ·exfalso
  rw [decide_eq_false (show ¬ pad < 0 by omega), decide_eq_false (show ¬ ((m.funcs.getD f.f.toNat default).blocks.length : Int) ≤ pad by omega), hl] at hb
  cases hb
 clear hb
 refine Zar (Weak.fam (L := []) (tl := [(2, iv pad), (3, .int .u16 w), (4, .bp (4, 0, 0) 0), (5, .bp (5, 0, 0) 0), (8, .bp (8, 0, 0) 0)]) (hl := [((4, 0, 0), Za2 (Zbf m)), ((5, 0, 0), .row false 5 1 (fun _ => frO f (.rs r1 1 0 f.regs.length))), ((8, 0, 0), Za2 [iv 0, iv 0, iv 0, .nsl, .int .u16 0]), ((906, 0, 0), regB f.regs)]) (F := noH) [(r1, some r0)] rfl (fun c hc => ?_) ?_ ?_ noF (fun i hi => by cases hi)) ?_
 ·simp only [tgts, List.mem_cons, List.not_mem_nil, or_false] at hc
  subst hc; exact .inl rfl
 ·(repeat' first | exact TLg.nil | refine TLg.cons (GV.imm rfl) ?_ | refine TLg.cons (GV.bp rfl rfl) ?_)
  all_goals rfl
 ·exact .old rfl rfl (GB.one (GVs.imm rfl) (fun _ => rfl)) (.old rfl rfl (GB.one (.i (.i (.i (.cons (.rs rfl rfl rfl rfl) (.i .nil))))) (fun e => by cases e)) (.old rfl rfl (GB.one (GVs.imm rfl) (fun _ => rfl)) (.old rfl rfl (GB.rowI (Nat.le_refl _) (fun q hq => ⟨rfl, rfl⟩)) .nil)))
 (repeat' (refine Zaa tok (by rfl) ?_; conv => whnf))
 refine .inr ⟨_, _, _, uG (QH.lendF (rd := [r1]) (c_Go f pad) (.cons (.agg (.i (.i (.i (.cons (.row rfl (.head _) rfl rfl (fun _ _ => rfl)) (.i .nil)))))) (.i .nil)) (fun i hi => by rw [Zdm hi]; rfl) rfl (fun j b e => by
  have := Zdm (i := j) (by rw [e]; rfl)
  subst this; cases e; exact fun i hi => rfl)), ?_⟩
 conv => whnf
 ((repeat' first | refine Zab ?_ | (refine Zaa tok (by rfl) ?_; conv => whnf) | (refine Zas tok mix (by rfl) ?_; conv => whnf) | (refine Zak ?_; conv => whnf) | (refine uA ?_ ?_; rotate_left; (conv => whnf); rotate_right)); all_goals (try ((guard_target = Zac _ _ _ _); refine Zae ?_; (all_goals (try simp only [Zac, kZ, kA, kB, mL, Zad] at *)); all_goals omega)))
 refine ⟨_, srcL [], rfl, ?_⟩
 rw [← and_assoc]
 refine ⟨leaveR [] rfl (fun c hc => by cases hc) (.old rfl rfl (GB.rowI (Nat.le_of_eq hlen) (fun q hq => ⟨?_, ?_⟩)) .nil) (fun j b e => by cases e), .tup (.cons (.agg (.i (.i (.i (.cons (.rs rfl rfl rfl hlen.symm) (.i .nil)))))) (.i .nil))⟩
 ·rw [Nat.zero_add, rowSet (l := f.regs) hz]; rfl
 ·rw [Nat.zero_add]; exact rowSet (l := f.regs) hz
set_option linter.unusedSimpArgs false
def goOn (f : Zap) : Zap := { f with at_ := f.at_ + 1 }
def cellN (f : Zap) (x : Ins) : Nat := (f.regs.getD x.a.toNat 0).toNat
def insM (m : Zai) (s : Mach) (f : Zap) (x : Ins) : Mach :=
 if x.op = 11 then Zb2 m s x.f x.args
 else if x.op ≤ 8 then (if (Zdi f x).2 = true then Zbx s (Zdi f x).1 else endM s 3 0)
 else if x.op = 9 then (if 16 ≤ f.regs.getD x.a.toNat 0 then endM s 4 0 else Zbx s (goOn (frW f x.dst (s.cells.getD (cellN f x) 0))))
 else if x.op = 10 then (if 16 ≤ f.regs.getD x.a.toNat 0 then endM s 4 0 else Zbx { s with cells := s.cells.set (cellN f x) (f.regs.getD x.b.toNat 0) } (goOn f))
 else if x.op = 12 then Zbx { s with events := s.events ++ [f.regs.getD x.a.toNat 0] } (goOn f)
 else if x.op = 13 then (if s.inputs.length = 0 then endM s 6 0 else Zbx { s with inputs := s.inputs.drop 1, events := s.events ++ [s.inputs.getD 0 0 + 65536] } (goOn (frW f x.dst (s.inputs.getD 0 0))))
 else Zbx s (goOn f)
def evM (s : Mach) (e : Int) : Mach := { s with events := s.events ++ [e] }
theorem appI {k z : Nat} {l : List Int} {v v' : Int} {F : Nat → List AV} (hk : k = l.length) (hz : z < l.length + 1) (hv : v' = v) (hF : ∀ i, i < l.length → F i = [iv (l.getD i 0)]) : appR k F (fun i => rowOf 1 [iv v'] (0 + i)) z = [iv ((l ++ [v]).getD z 0)] := by
 subst hk; subst hv
 unfold appR
 by_cases e : z < l.length
 ·rw [show Nat.blt z l.length = true from by rw [Nat.blt_eq]; exact e, cond_true, hF z e]
  simp [List.getD_eq_getElem?_getD, List.getElem?_append_left e]
 ·have e2 : z = l.length := by omega
  subst e2
  rw [show Nat.blt l.length l.length = false from by rw [Bool.eq_false_iff]; intro h; rw [Nat.blt_eq] at h; omega, cond_false, Nat.sub_self]
  have e4 : (l ++ [v']).getD l.length 0 = v' := by simp [List.getD_eq_getElem?_getD]
  rw [e4]; rfl
set_option linter.unusedSimpArgs false
def inM (s : Mach) : Mach := { evM s (s.inputs.getD 0 0 + 65536) with inputs := s.inputs.drop 1 }
theorem wk_drop {l : List Int} {n : Nat} {F : Nat → List AV} (hl : ¬ l.length = 0) (hn : n = l.length - 1) (hF : ∀ i, F i = [.int .u16 (l.getD (1 + i) 0)]) : Wk (.sl 1 n F) (u16s (l.drop 1)) := by
 subst hn
 refine .sl (by simp) (fun i hi => ?_)
 rw [hF i, List.getD_eq_getElem?_getD, List.getD_eq_getElem?_getD, List.getElem?_drop]
end Go.Proofs.YtoelbgjpmpoolaaGreat
namespace Go.Proofs.YtoelbgjpmpoolaaGreat
open Go Dv
set_option maxRecDepth 10000
set_option linter.unusedSimpArgs false
end Go.Proofs.YtoelbgjpmpoolaaGreat
namespace Go.Proofs.YtoelbgjpmpoolaaGreat
open Go Dv
set_option maxRecDepth 10000
set_option linter.unusedSimpArgs false
def stM (s : Mach) (k : Nat) (v : Int) : Mach := { s with cells := s.cells.set k v }
theorem wkc {l : List Int} {v : Int} {k j : Nat} (h : k ≠ j) : Wk (cw l j) (cw (l.set k v) j) := by
 unfold cw; rw [Zbo, if_neg (fun e => h e.1)]; exact .refl
theorem wks {l : List Int} {v : Int} {k : Nat} (h : k < l.length) : Wk (.int .u16 v) (cw (l.set k v) k) := by
 unfold cw; rw [Zbo, if_pos ⟨rfl, h⟩]; exact .refl
set_option linter.unusedSimpArgs false
def newM (m : Zai) (inputs : List Int) : Mach := ⟨[frN m 0 []], List.replicate 16 0, inputs, [], 0, 0⟩
set_option linter.unusedSimpArgs false
def regA (f : Zap) (p : Int) : Int := f.regs.getD p.toNat 0
def goF (b : Zcn) (f : Zap) : Zap := { f with block := if b.fin.kind = 3 ∧ regA f b.fin.a = 0 then b.fin.els else b.fin.to, at_ := 0 }
def stepE (m : Zai) (s : Mach) (f : Zap) (b : Zcn) : Mach :=
 if endB m f = false then insM m s f (b.ins.getD f.at_.toNat default)
 else if b.fin.kind = 1 then Zbr m s (regA f b.fin.a)
 else if b.fin.kind = 4 then Zb2 m s b.fin.f b.fin.args
 else if b.fin.kind = 5 then Zbu m s (regA f b.fin.a)
 else if b.fin.kind = 6 then Zbu m s f.fly
 else Zbx s (goF b f)
def Zdb (m : Zai) (s : Mach) : Mach := if s.done = 0 then stepE m s (topF s) (Zao m (topF s)) else s
set_option linter.unusedSimpArgs false
def runM (m : Zai) (inputs : List Int) : Nat → Mach
 | 0 => newM m inputs
 | k + 1 => Zdb m (runM m inputs k)
theorem run_done {m : Zai} {inputs : List Int} {i : Nat} (h : ¬ (runM m inputs i).done = 0) : ∀ k, runM m inputs (i + k) = runM m inputs i
 | 0 => rfl
 | k + 1 => by
   show Zdb m (runM m inputs (i + k)) = _
   rw [run_done h k]
   exact if_neg h
set_option linter.unusedSimpArgs false
def Zbp (m : Zai) (f : Zap) : Ins := (Zao m f).ins.getD f.at_.toNat default
structure CallF (m : Zai) (f : Zap) : Prop where
 fin : endB m f = true → (Zao m f).fin.kind = 4
 ins : endB m f = false → (Zbp m f).op = 11
structure OkM (m : Zai) (s : Mach) : Prop where
 cells : s.cells.length = 16
 fr : ∀ f ∈ s.stack, OkF m f
 ca : ∀ f ∈ s.stack.take (s.stack.length - 1), CallF m f
 len : s.stack.length ≤ 32
 pos : s.done = 0 → 0 < s.stack.length
 inp : (∀ x ∈ s.inputs, 0 ≤ x ∧ x ≤ 65535) ∧ s.inputs.length < 1000000
theorem okF_ins {m : Zai} {f : Zap} (hr : Zbd m = true) (h : OkF m f) (he : endB m f = false) : f.at_.toNat < (Zao m f).ins.length ∧ InsP m (Zb7 m f) (Zbp m f) := by
 have h1 : ¬ f.at_ = (Zao m f).ins.length := by unfold endB at he; simpa using he
 have h2 := h.a0
 have h3 := h.a1
 have hl : f.at_.toNat < (Zao m f).ins.length := by omega
 refine ⟨hl, ?_⟩
 have := okF_blk hr h h.b0 h.b1
 unfold blkB at this
 rw [Bool.and_eq_true, List.all_eq_true] at this
 have := this.2 _ (Zde (default : Ins) hl)
 simpa [Zbp, Zao] using this
theorem okF_funP {m : Zai} {f : Func} (h : Zfq m f = true) : FunP f := by
 unfold Zfq at h; rw [Bool.and_eq_true, decide_eq_true_eq] at h; exact h.1
theorem okF_new {m : Zai} {n : Int} {args : List Int} (hr : Zbd m = true) (h0 : 0 ≤ n) (h1 : n < m.funcs.length) : OkF m (frN m n args) := by
 have hP := okF_funP (Zco hr (show n.toNat < m.funcs.length by omega))
 obtain ⟨p0, p1, p2, p3, p4, p5, p6⟩ := hP
 refine ⟨h0, h1, Int.le_refl _, ?_, Int.le_refl _, ?_, ?_⟩
 ·show (0 : Int) < ((m.funcs.getD n.toNat default).blocks.length : Int); omega
 ·exact Int.natCast_nonneg _
 ·show (((List.range (m.funcs.getD n.toNat default).regs.toNat).map (regN args)).length : Int) = (m.funcs.getD n.toNat default).regs
  rw [List.length_map, List.length_range]; omega
theorem okF_W {m : Zai} {f : Zap} (h : OkF m f) (n w : Int) : OkF m (frW f n w) := ⟨h.f0, h.f1, h.b0, h.b1, h.a0, h.a1, by rw [show (frW f n w).regs.length = f.regs.length by simp [frW]]; exact h.regs⟩
theorem okF_to {m : Zai} {f : Zap} (h : OkF m f) {b : Int} (b0 : 0 ≤ b) (b1 : b < (Zb7 m f).blocks.length) : OkF m { f with block := b, at_ := 0 } :=
 ⟨h.f0, h.f1, b0, b1, Int.le_refl _, Int.natCast_nonneg _, h.regs⟩
theorem okF_next {m : Zai} {f : Zap} (h : OkF m f) (he : endB m f = false) : OkF m { f with at_ := f.at_ + 1 } := by
 have h1 : ¬ f.at_ = (Zao m f).ins.length := by unfold endB at he; simpa using he
 have h2 := h.a0
 have h3 := h.a1
 exact ⟨h.f0, h.f1, h.b0, h.b1, by show 0 ≤ f.at_ + 1; omega, by show f.at_ + 1 ≤ ((Zao m f).ins.length : Int); omega, h.regs⟩
theorem goal_inM {f : Func} {n : Int} (h : goalB f n = true) : 0 ≤ n ∧ n < f.blocks.length := by
 unfold goalB at h
 cases h2 : inn n f.blocks.length with
 | false => rw [h2] at h; cases h
 | true => exact (Zad _ _).1 h2
theorem Zel {m : Zai} {s : Mach} (h : OkM m s) {f : Zap} (hf : OkF m f) (hp : 0 < s.stack.length) : OkM m (Zbx s f) := by
 have hl : (Zbx s f).stack.length = s.stack.length := by simp [Zbx]; omega
 have ht : (Zbx s f).stack.take ((Zbx s f).stack.length - 1) = s.stack.take (s.stack.length - 1) := by
  rw [hl]; show (s.stack.take (s.stack.length - 1) ++ [f]).take _ = _
  rw [List.take_append_of_le_length (by simp), List.take_take, Nat.min_self]
 refine ⟨h.cells, fun g hg => ?_, by rw [ht]; exact h.ca, by rw [hl]; exact h.len, fun _ => by rw [hl]; exact hp, h.inp⟩
 rcases List.mem_append.1 hg with hg | hg
 ·exact h.fr g (List.mem_of_mem_take hg)
 ·rw [List.mem_singleton.1 hg]; exact hf
theorem okM_end {m : Zai} {s : Mach} (h : OkM m s) {how w : Int} (hh : how ≠ 0) : OkM m (endM s how w) := ⟨h.cells, h.fr, h.ca, h.len, fun e => absurd e hh, h.inp⟩
theorem okM_take {m : Zai} {s : Mach} (h : OkM m s) (k : Nat) (hk : k ≤ s.stack.length) (hp : s.done = 0 → 0 < k) : OkM m (Zdo s k) := by
 have hl : (Zdo s k).stack.length = k := by simp [Zdo]; omega
 refine ⟨h.cells, fun g hg => h.fr g (List.mem_of_mem_take hg), fun g hg => h.ca g ?_, by rw [hl]; have := h.len; omega, fun e => by rw [hl]; exact hp e, h.inp⟩
 rw [hl] at hg
 have : (Zdo s k).stack.take (k - 1) = (s.stack.take (s.stack.length - 1)).take (k - 1) := by
  show (s.stack.take k).take (k - 1) = _
  rw [List.take_take, List.take_take, show min (k - 1) k = min (k - 1) (s.stack.length - 1) by omega]
 rw [this] at hg
 exact List.mem_of_mem_take hg
theorem popM_eq (s : Mach) : popM s = Zdo s (s.stack.length - 1) := rfl
theorem Zge {s : Mach} (h : 0 < s.stack.length) : topF s ∈ s.stack := Zde _ (by omega)
theorem okM_called {m : Zai} {s : Mach} (hr : Zbd m = true) (h : OkM m s) {n : Int} {places : List Int} (h0 : 0 ≤ n) (h1 : n < m.funcs.length) (hp : 0 < s.stack.length) (hc : CallF m (topF s)) : OkM m (Zb2 m s n places) := by
 unfold Zb2
 split
 ·exact okM_end h (by decide)
 ·rename_i h32
  refine ⟨h.cells, fun g hg => ?_, fun g hg => ?_, by simp; omega, fun _ => by simp, h.inp⟩
  ·rcases List.mem_append.1 hg with hg | hg
   ·exact h.fr g hg
   ·rw [List.mem_singleton.1 hg]; exact okF_new hr h0 h1
  ·have hg2 : g ∈ s.stack := by
    have e : (s.stack ++ [frN m n (Zb6 (topF s) places)]).take ((s.stack ++ [frN m n (Zb6 (topF s) places)]).length - 1) = s.stack := by
     rw [List.length_append]; simp
    rw [← e]; exact hg
   have e : s.stack = s.stack.take (s.stack.length - 1) ++ [topF s] := by
    have e1 : s.stack.take (s.stack.length - 1 + 1) = s.stack.take (s.stack.length - 1) ++ [s.stack.getD (s.stack.length - 1) default] := by
     rw [List.take_add_one, List.getD_eq_getElem?_getD, List.getElem?_eq_getElem (by omega)]; rfl
    rw [show s.stack.length - 1 + 1 = s.stack.length by omega, List.take_length] at e1
    exact e1
   rw [e] at hg2
   rcases List.mem_append.1 hg2 with hg | hg
   ·exact h.ca g hg
   ·rw [List.mem_singleton.1 hg]; exact hc
theorem callF_dst {m : Zai} {f : Zap} (hr : Zbd m = true) (h : OkF m f) (hc : CallF m f) :
  (endB m f = true → (0 ≤ (Zao m f).fin.dst ∧ (Zao m f).fin.dst < f.regs.length) ∧ (0 ≤ (Zao m f).fin.to ∧ (Zao m f).fin.to < (Zb7 m f).blocks.length)) ∧
  (endB m f = false → 0 ≤ (Zbp m f).dst ∧ (Zbp m f).dst < f.regs.length) := by
 refine ⟨fun he => ?_, fun he => ?_⟩
 ·have hk := hc.fin he
  have hE := (Zfp hr h).2
  rw [h.regs]
  rcases hE with h | h | h | h | h
  ·omega
  ·omega
  ·omega
  ·exact ⟨(Zad _ _).1 h.2.2.1, goal_inM h.2.2.2.2.1⟩
  ·omega
 ·have hk := hc.ins he
  have hI := (okF_ins hr h he).2
  rw [h.regs]
  rcases hI with h | h | h | h | h | h | h
  ·omega
  ·omega
  ·omega
  ·omega
  ·exact (Zad _ _).1 h.2.1
  ·omega
  ·omega
theorem top_take {s : Mach} {k : Nat} (h : k + 1 < s.stack.length) : s.stack.getD k default ∈ s.stack.take (s.stack.length - 1) := by
 rw [← Zbq (l := s.stack) (k := s.stack.length - 1) default (by omega)]
 exact Zde _ (by simp; omega)
theorem Zgk {m : Zai} {s : Mach} (h : OkM m s) (h2 : 1 < s.stack.length) : OkF m (topF (popM s)) ∧ CallF m (topF (popM s)) := by
 have e : topF (popM s) = s.stack.getD (s.stack.length - 2) default := by
  unfold topF; rw [Zcq]; show (s.stack.take (s.stack.length - 1)).getD (s.stack.length - 1 - 1) default = _
  rw [Zbq _ (by omega)]; rfl
 rw [e]
 exact ⟨h.fr _ (Zde _ (by omega)), h.ca _ (top_take (by omega))⟩
theorem okM_answered {m : Zai} {s : Mach} (hr : Zbd m = true) (h : OkM m s) {w : Int} (hp : 0 < s.stack.length) : OkM m (Zbr m s w) := by
 unfold Zbr
 split
 ·rename_i h1
  have := h.cells
  exact ⟨h.cells, fun g hg => h.fr g (List.mem_of_mem_take hg), fun g hg => h.ca g (by
   have : g ∈ (s.stack.take (s.stack.length - 1)).take ((s.stack.take (s.stack.length - 1)).length - 1) := hg
   exact List.mem_of_mem_take this), by show (popM s).stack.length ≤ 32; rw [Zcq]; omega, fun e => absurd (show (1 : Int) = 0 from e) (by decide), h.inp⟩
 ·rename_i h1
  obtain ⟨hF, hC⟩ := Zgk h (by omega)
  have hd := callF_dst hr hF hC
  refine Zel (popM_eq s ▸ okM_take h _ (by omega) (fun _ => by omega)) ?_ (by rw [Zcq]; omega)
  unfold answF
  split
  ·rename_i he
   have := hd.1 he
   exact okF_to (okF_W hF _ _) this.2.1 this.2.2
  ·rename_i he
   exact okF_next (okF_W hF _ _) (show endB m (topF (popM s)) = false from by simpa using he)
theorem okM_thrown {m : Zai} {s : Mach} (hr : Zbd m = true) (h : OkM m s) {w : Int} (hp : 0 < s.stack.length) : OkM m (Zbu m s w) := by
 by_cases hany : (List.range (popM s).stack.length).any (Zbs m (popM s).stack w false) = true
 ·have hT : Zbu m s w = Zbx (Zdo (popM s) (Zex (Zbs m (popM s).stack w true) ((popM s).stack.length - 1) + 1)) (landF m ((popM s).stack.getD (Zex (Zbs m (popM s).stack w true) ((popM s).stack.length - 1)) default) (Zao m ((popM s).stack.getD (Zex (Zbs m (popM s).stack w true) ((popM s).stack.length - 1)) default)).fin.pad w) := by
   unfold Zbu; rw [if_pos hany]
  rw [List.any_eq_true] at hany
  obtain ⟨i, hi, hic⟩ := hany
  rw [List.mem_range] at hi
  obtain ⟨hK1, hK2⟩ := Zfa (p := Zbs m (popM s).stack w true) (n := (popM s).stack.length - 1) ⟨i, by omega, Zf6 hic⟩
  rw [hT]
  have hgen : ∃ K, Zex (Zbs m (popM s).stack w true) ((popM s).stack.length - 1) = K := ⟨_, rfl⟩
  obtain ⟨K, hK⟩ := hgen
  rw [hK] at hK1 hK2 ⊢
  have hpl := Zcq (s := s)
  have hF : OkF m ((popM s).stack.getD K default) := by
   rw [show (popM s).stack.getD K default = s.stack.getD K default from Zbq _ (by omega)]
   exact h.fr _ (Zde _ (by omega))
  have hk4 : (Zao m ((popM s).stack.getD K default)).fin.kind = 4 := by
   unfold Zbs Zcw at hK1
   simp only [Bool.and_eq_true, decide_eq_true_eq] at hK1
   exact hK1.2.1
  obtain ⟨⟨g1, g2⟩, g3, g4, g5⟩ := okF_pad hr hF hk4
  refine Zel (s := Zdo (popM s) (K + 1)) ?_ ?_ (by simp [Zdo]; omega)
  ·have e : Zdo (popM s) (K + 1) = Zdo s (K + 1) := by
    show ({ s with stack := (s.stack.take (s.stack.length - 1)).take (K + 1) } : Mach) = { s with stack := s.stack.take (K + 1) }
    rw [List.take_take, show min (K + 1) (s.stack.length - 1) = K + 1 by omega]
   rw [e]
   exact okM_take h _ (by omega) (fun _ => by omega)
  ·exact okF_W (okF_to (f := { (popM s).stack.getD K default with fly := w }) ⟨hF.f0, hF.f1, hF.b0, hF.b1, hF.a0, hF.a1, hF.regs⟩ g1 g2) _ _
 ·have hT : Zbu m s w = endM (popM s) 2 w := by
   unfold Zbu; rw [if_neg hany]
  rw [hT]
  exact ⟨h.cells, fun g hg => h.fr g (List.mem_of_mem_take hg), fun g hg => h.ca g (by
   have : g ∈ (s.stack.take (s.stack.length - 1)).take ((s.stack.take (s.stack.length - 1)).length - 1) := hg
   exact List.mem_of_mem_take this), by show (popM s).stack.length ≤ 32; rw [Zcq]; have := h.len; omega, fun e => absurd (show (2 : Int) = 0 from e) (by decide), h.inp⟩
theorem argsB_n {m : Zai} {f : Func} {n : Int} {l : List Int} (h : Zey m f n l = true) : (0 ≤ n ∧ n < m.funcs.length) ∧ (l.length : Int) = (m.funcs.getD n.toNat default).params ∧ ∀ p ∈ l, 0 ≤ p ∧ p < f.regs := by
 unfold Zey at h
 cases h2 : inn n m.funcs.length with
 | false => simp [h2] at h
 | true =>
  refine ⟨(Zad _ _).1 h2, ?_⟩
  simp [h2] at h
  refine ⟨by simpa using h.1, fun p hp => (Zad _ _).1 ?_⟩
  have := h.2 p hp
  simpa using this
set_option linter.unusedSimpArgs false
theorem okM_ev {m : Zai} {s t : Mach} (h : OkM m s) (h1 : t.stack = s.stack) (h2 : t.cells.length = 16) (h3 : t.done = s.done) (h4 : (∀ x ∈ t.inputs, x ∈ s.inputs) ∧ t.inputs.length ≤ s.inputs.length) : OkM m t :=
 ⟨h2, by rw [h1]; exact h.fr, by rw [h1]; exact h.ca, by rw [h1]; exact h.len, by rw [h1, h3]; exact h.pos, fun x hx => h.inp.1 x (h4.1 x hx), Nat.lt_of_le_of_lt h4.2 h.inp.2⟩
theorem okM_ins {m : Zai} {s : Mach} (hr : Zbd m = true) (h : OkM m s) (hp : 0 < s.stack.length) (he : endB m (topF s) = false) : OkM m (insM m s (topF s) (Zbp m (topF s))) := by
 have hF := h.fr _ (Zge hp)
 have hN := okF_next hF he
 have hI := (okF_ins hr hF he).2
 unfold insM
 split
 ·rename_i h11
  have hA : Zey m (Zb7 m (topF s)) (Zbp m (topF s)).f (Zbp m (topF s)).args = true := by
   rcases hI with h | h | h | h | h | h | h
   ·omega
   ·omega
   ·omega
   ·omega
   ·exact h.2.2.2.2.2
   ·omega
   ·omega
  have := argsB_n hA
  exact okM_called hr h this.1.1 this.1.2 hp ⟨fun e => by (rw [he] at e; cases e), fun _ => h11⟩
 split
 ·split
  ·rename_i hok
   refine Zel h ?_ hp
   unfold Zdi
   rw [if_pos (by unfold Zdi at hok; split at hok; assumption; cases hok)]
   exact okF_next (okF_W hF _ _) he
  ·exact okM_end h (by decide)
 split
 ·split
  ·exact okM_end h (by decide)
  ·exact Zel h (okF_next (okF_W hF _ _) he) hp
 split
 ·split
  ·exact okM_end h (by decide)
  ·exact Zel (okM_ev (t := { s with cells := s.cells.set (cellN (topF s) (Zbp m (topF s))) ((topF s).regs.getD (Zbp m (topF s)).b.toNat 0) }) h rfl (by simp; exact h.cells) rfl ⟨fun x hx => hx, Nat.le_refl _⟩) hN hp
 split
 ·exact Zel (okM_ev (t := { s with events := s.events ++ [(topF s).regs.getD (Zbp m (topF s)).a.toNat 0] }) h rfl h.cells rfl ⟨fun x hx => hx, Nat.le_refl _⟩) hN hp
 split
 ·split
  ·exact okM_end h (by decide)
  ·exact Zel (okM_ev (t := { s with inputs := s.inputs.drop 1, events := s.events ++ [s.inputs.getD 0 0 + 65536] }) h rfl h.cells rfl ⟨fun x hx => List.mem_of_mem_drop hx, by simp⟩) (okF_next (okF_W hF _ _) he) hp
 ·exact Zel h hN hp
theorem okF_goF {m : Zai} {f : Zap} (hr : Zbd m = true) (h : OkF m f) (h1 : (Zao m f).fin.kind ≠ 1) (h4 : (Zao m f).fin.kind ≠ 4) (h5 : (Zao m f).fin.kind ≠ 5) (h6 : (Zao m f).fin.kind ≠ 6) : OkF m (goF (Zao m f) f) := by
 have hE := (Zfp hr h).2
 have hg : (goalB (Zb7 m f) (Zao m f).fin.to = true) ∧ ((Zao m f).fin.kind = 3 → goalB (Zb7 m f) (Zao m f).fin.els = true) := by
  rcases hE with h | h | h | h | h
  ·omega
  ·exact ⟨h.2.2.2.2.2.2.1, fun e => by omega⟩
  ·exact ⟨h.2.2.2.2.2.2.1, fun _ => h.2.2.2.2.2.2.2⟩
  ·omega
  ·omega
 unfold goF
 split
 ·rename_i h3; have := goal_inM (hg.2 h3.1); exact okF_to h this.1 this.2
 ·have := goal_inM hg.1; exact okF_to h this.1 this.2
theorem okM_step {m : Zai} {s : Mach} (hr : Zbd m = true) (h : OkM m s) : OkM m (Zdb m s) := by
 unfold Zdb
 split
 ·rename_i hd
  have hp := h.pos hd
  have hF := h.fr _ (Zge hp)
  unfold stepE
  split
  ·rename_i he; exact okM_ins hr h hp he
  rename_i he
  split
  ·exact okM_answered hr h hp
  split
  ·rename_i h1 h4
   have hE := (Zfp hr hF).2
   have hA : Zey m (Zb7 m (topF s)) (Zao m (topF s)).fin.f (Zao m (topF s)).fin.args = true := by
    rcases hE with h | h | h | h | h
    ·omega
    ·omega
    ·omega
    ·exact h.2.2.2.1
    ·omega
   have := argsB_n hA
   exact okM_called hr h this.1.1 this.1.2 hp ⟨fun _ => h4, fun e => absurd e he⟩
  split
  ·exact okM_thrown hr h hp
  split
  ·exact okM_thrown hr h hp
  ·rename_i h1 h4 h5 h6
   exact Zel h (okF_goF hr hF h1 h4 h5 h6) hp
 ·exact h
theorem right0 {m : Zai} (hr : Zbd m = true) : 0 < m.funcs.length ∧ (m.funcs.getD 0 default).params = 0 := by
 unfold Zbd at hr; rw [Bool.and_eq_true, decide_eq_true_eq] at hr; exact ⟨hr.1.1, hr.1.2.2⟩
theorem okM_new {m : Zai} {inputs : List Int} (hr : Zbd m = true) (hi : (∀ x ∈ inputs, 0 ≤ x ∧ x ≤ 65535) ∧ inputs.length < 1000000) : OkM m (newM m inputs) := by
 refine ⟨rfl, fun f hf => ?_, fun f hf => ?_, by show 1 ≤ 32; omega, fun _ => by show 0 < 1; omega, hi⟩
 ·rw [List.mem_singleton.1 hf]; exact okF_new hr (by omega) (by have := (right0 hr).1; omega)
 ·cases hf
theorem okM_run {m : Zai} {inputs : List Int} (hr : Zbd m = true) (hi : (∀ x ∈ inputs, 0 ≤ x ∧ x ≤ 65535) ∧ inputs.length < 1000000) : ∀ k, OkM m (runM m inputs k)
 | 0 => okM_new hr hi
 | k + 1 => okM_step hr (okM_run hr hi k)
theorem ev_called {m : Zai} {s : Mach} {n : Int} {l : List Int} : (Zb2 m s n l).events = s.events := by unfold Zb2; split <;> rfl
theorem ev_answered {m : Zai} {s : Mach} {w : Int} : (Zbr m s w).events = s.events := by unfold Zbr; split <;> rfl
theorem ev_thrown {m : Zai} {s : Mach} {w : Int} : (Zbu m s w).events = s.events := by unfold Zbu; dsimp only; split <;> rfl
theorem ev_ins {m : Zai} {s : Mach} {f : Zap} {x : Ins} : (insM m s f x).events = s.events ∨ ∃ e, (insM m s f x).events = s.events ++ [e] := by
 unfold insM
 split
 ·exact .inl ev_called
 split
 ·split <;> exact .inl rfl
 split
 ·split <;> exact .inl rfl
 split
 ·split <;> exact .inl rfl
 split
 ·exact .inr ⟨_, rfl⟩
 split
 ·split
  ·exact .inl rfl
  ·exact .inr ⟨_, rfl⟩
 ·exact .inl rfl
theorem ev_step {m : Zai} {s : Mach} : (Zdb m s).events = s.events ∨ ∃ e, (Zdb m s).events = s.events ++ [e] := by
 unfold Zdb
 split
 ·unfold stepE
  split
  ·exact ev_ins
  split
  ·exact .inl ev_answered
  split
  ·exact .inl ev_called
  split
  ·exact .inl ev_thrown
  split
  ·exact .inl ev_thrown
  ·exact .inl rfl
 ·exact .inl rfl
theorem ev_run {m : Zai} {inputs : List Int} : ∀ k, (runM m inputs k).events.length ≤ k
 | 0 => Nat.le_refl _
 | k + 1 => by
   have h1 := ev_run (m := m) (inputs := inputs) k
   show (Zdb m (runM m inputs k)).events.length ≤ k + 1
   rcases ev_step (m := m) (s := runM m inputs k) with h | ⟨e, h⟩
   ·rw [h]; omega
   ·rw [h, List.length_append]; simp; exact h1
end Go.Proofs.YtoelbgjpmpoolaaGreat
namespace Go.Proofs.YtoelbgjpmpoolaaGreat
open Go Dv
set_option maxRecDepth 10000
set_option linter.unusedSimpArgs false
set_option maxHeartbeats 2000000 in
theorem c_fNew (m : Zai) (n : Int) (args : List Int) (hr : Zbd m = true) (h0 : 0 ≤ n) (h1 : n < m.funcs.length) (hp : (args.length : Int) = (m.funcs.getD n.toNat default).params) :
  HF Tryz.prog 67 [.agg (Zbf m), iv n, u16s args] (.tup [.agg (frO (frN m n args) (.rs r0 1 0 (frN m n args).regs.length)), iv 0]) (oneR (frN m n args).regs) := by
 refine Zgz tok Tryz.func67 rfl (by decide +kernel) (nB rfl) ?_
 have hmx : mL = 4294967296 := rfl
 have hFn := c_fFun m n hr h0 h1
 have hP := okF_funP (Zco hr (show n.toNat < m.funcs.length by omega))
 have hgen : ∃ F, m.funcs.getD n.toNat default = F := ⟨_, rfl⟩
 obtain ⟨F, hF⟩ := hgen
 rw [hF] at hp hFn hP
 have hR0 : 0 ≤ F.regs ∧ F.regs ≤ 256 ∧ (args.length : Int) ≤ F.regs := by have := hP.1; have := hP.2.2.1; have := hP.2.2.2.1; omega
 have hfr : frN m n args = ⟨n, 0, 0, (List.range F.regs.toNat).map (regN args), 0⟩ := by unfold frN; rw [hF]
 have hlen : ((List.range F.regs.toNat).map (regN args)).length = F.regs.toNat := by simp
 rw [hfr]
 (repeat' first | refine Zab ?_ | (refine Zaa tok (by rfl) ?_; conv => whnf))
 refine .inl ⟨_, _, _, uG (QC.fc hFn rfl), ?_⟩
 conv => whnf
 (repeat' ((fail_if_success (show Rg 3)); (fail_if_success (show Rg 4)); first | refine Zab ?_ | (refine Zaa tok (by rfl) ?_; conv => whnf) | (refine Zag ?_; conv => whnf) | refine Zaf rfl (fun hb => ?_) (fun hb => ?_)))
 ·exfalso; rw [decide_eq_true hp] at hb; cases hb
 clear hb
 ((repeat' ((fail_if_success (show Rg 5)); first | refine Zab ?_ | (refine Zaa tok (by rfl) ?_; conv => whnf) | (refine uA ?_ ?_; rotate_left; (conv => whnf); rotate_right))); all_goals (try ((guard_target = Zac _ _ _ _); refine Zae ?_; (all_goals (try simp only [Zac, kZ, kA, kB, mL, Zad] at *)); all_goals omega)))
 refine Zar (Weak.list (tl := [(1, iv n), (2, u16s args), (3, .bp (3, 0, 0) 0), (6, .bp (6, 0, 0) 0), (10, .bp (10, 0, 0) 0)]) [((3, 0, 0), .old (3, 0, 0), Za2 (Zbf m)), ((6, 0, 0), .old (6, 0, 0), Za2 [iv 0, iv 0, iv 0, .nsl, .int .u16 0]), ((10, 0, 0), .old (10, 0, 0), .row false 5 1 (fun _ => [iv n, iv 0, iv 0, .rs (30, 0, 0) 1 0 F.regs.toNat, .int .u16 0])), ((30, 0, 0), .old (30, 0, 0), .row true 1 F.regs.toNat (fun _ => [.int .u16 0]))] rfl (by rfl) ?_ (.old rfl (BLe.refl _) (.old rfl (BLe.refl _) (.old rfl (BLe.rowW (Nat.le_refl _) (ltS (Wks.of rfl) lt0)) (.old rfl (BLe.refl _) .nil))))) ?_
 ·((repeat' first | exact TLes.nil | refine tE rfl ?_); skip)
 refine AWp_hand tok [_, _, _] _ [] rfl (by rfl) (by rfl) rfl ?_
 conv => whnf
 intro X ι a w s
 refine ⟨⟨.int .i64 args.length, .big [] (oneU (30, 0, 0) (.row true 1 F.regs.toNat (cpR args.length (fun i => [.int .u16 (args.getD i 0)]) (fun _ => [.int .u16 0])))), []⟩, copy_ok tok s rfl rfl rfl rfl rfl rfl rfl rfl rfl rfl trivial (Nat.le_refl _) (by omega), rfl, ?_⟩
 conv => whnf
 (repeat' first | refine Zab ?_ | (refine Zaa tok (by rfl) ?_; conv => whnf) | (refine Zak ?_; conv => whnf))
 refine ⟨_, srcL [(r0, some (30, 0, 0))], rfl, ?_⟩
 rw [← and_assoc]
 refine ⟨leaveR [(r0, some (30, 0, 0))] rfl (fun c hc => ?_) (.old rfl rfl (GB.rowI (Nat.le_of_eq hlen) (fun q hq => ⟨?_, ?_⟩)) .nil) (fun j b e => by cases e), .tup (.cons (.agg (.i (.i (.i (.cons (.rs rfl rfl rfl hlen.symm) (.i .nil)))))) (.i .nil))⟩
 ·simp only [tgts, List.mem_cons, List.not_mem_nil, or_false] at hc
  subst hc; exact .inl rfl
 ·unfold cpR; cases Nat.blt q args.length <;> rfl
 ·have hq2 : q < F.regs.toNat := by simpa using hq
  have e : ((List.range F.regs.toNat).map (regN args)).getD q 0 = regN args q := by
   rw [List.getD_eq_getElem?_getD, List.getElem?_map, List.getElem?_range hq2]; rfl
  show cpR args.length _ _ q = [.int .u16 (((List.range F.regs.toNat).map (regN args)).getD q 0)]
  rw [e]
  unfold cpR regN
  by_cases hqa : q < args.length
  ·rw [show Nat.blt q args.length = true from by rw [Nat.blt_eq]; exact hqa, if_pos hqa]; rfl
  ·rw [show Nat.blt q args.length = false from by rw [Bool.eq_false_iff]; intro h; rw [Nat.blt_eq] at h; exact hqa h, if_neg hqa]; rfl
end Go.Proofs.YtoelbgjpmpoolaaGreat
namespace Go.Proofs.YtoelbgjpmpoolaaGreat
open Go Dv
set_option maxRecDepth 10000
set_option linter.unusedSimpArgs false
theorem c_IndexU (l : List Int) (n : Int) : FC Tryz.prog 209 [u16s l, .int .u16 n] (iv (idxG (fun y => decide (n = y)) l)) := by
 refine Zav tok Tryz.func209 rfl (by decide +kernel) (nB rfl) ?_
 refine Zaw 0 (fun hl => ?_)
 have hl0 : l.length ≤ mL := hl.1
 (repeat' first | refine Zab ?_ | (refine Zaa tok (by rfl) ?_; conv => whnf) | refine Zah ?_)
 refine Zax (fun i : Nat => mkS [(0, u16s l), (1, .int .u16 n), (7, iv l.length), (8, iv i)] [])
  (fun i => i ≤ l.length ∧ ∀ j, j < i → decide (n = l.getD j 0) = false) (fun i => l.length - i) 0 ⟨Nat.zero_le _, by simp⟩ ?_ ?_
 ·refine Weak.list [] rfl (by rfl) ?_ .nil
  ((repeat' first | exact TLes.nil | refine tE rfl ?_); skip)
 rintro i ⟨hi2, hc⟩
 ((repeat' first | refine Zab ?_ | (refine Zaa tok (by rfl) ?_; conv => whnf) | refine Zah ?_ | (refine Zag ?_; conv => whnf) | (refine Za0 ?_; conv => whnf) | (refine Zak ?_; conv => whnf) | refine Zaf rfl (fun hb => ?_) (fun hb => ?_) | (refine uA ?_ ?_; rotate_left; (conv => whnf); rotate_right)); all_goals (try ((guard_target = Zac _ _ _ _); refine Zae ?_; (all_goals (try simp only [Zac, kZ, kA, kB, mL, Zad] at *)); all_goals omega)))
 ·have hlt : i < l.length := by rename_i h; simp only [Zac, kZ, kA, kB, mL, Zad] at *; omega
  refine ⟨_, rfl, Rel.int ?_⟩
  exact (idxG_at 0 hlt hc (by simpa using hb)).symm
 ·have hlt : i < l.length := by rename_i h; simp only [Zac, kZ, kA, kB, mL, Zad] at *; omega
  refine ⟨i + 1, ⟨hlt, fun j hj => ?_⟩, by omega, ?_⟩
  ·by_cases e : j = i
   ·subst e; simpa using hb
   ·exact hc j (by omega)
  refine Weak.list [] rfl (by rfl) ?_ .nil
  ((repeat' first | exact TLes.nil | refine tE rfl ?_ | refine TLes.cons (TLe.int ?_) ?_); (all_goals first | ((try (simp only [Zac, kZ, kA, kB, mL, Zad] at *)); exact wrap64 (by omega) (by omega)) | skip))
 ·refine ⟨_, rfl, Rel.int ?_⟩
  exact (idxG_none 0 (fun j hj => hc j (by simp only [Zac, kZ, kA, kB, mL, Zad] at *; omega))).symm
theorem c_ContainsU (l : List Int) (n : Int) : FC Tryz.prog 197 [u16s l, .int .u16 n] (.bool (hasB l n)) := by
 refine Zav tok Tryz.func197 rfl (by decide +kernel) (nB rfl) ?_
 (repeat' first | refine Zab ?_ | (refine Zaa tok (by rfl) ?_; conv => whnf))
 refine .inl ⟨_, _, _, uG (QC.fc (c_IndexU l n) rfl), ?_⟩
 conv => whnf
 (repeat' (refine Zak ?_; conv => whnf))
 refine ⟨_, rfl, Rel.bool ?_⟩
 unfold hasB; rw [← idxG_any]
theorem hasB_mem {l : List Int} {n : Int} : hasB l n = decide (n ∈ l) := by
 unfold hasB
 rw [Bool.eq_iff_iff, List.any_eq_true, decide_eq_true_eq]
 constructor
 ·rintro ⟨x, hx, e⟩; rw [decide_eq_true_eq] at e; rw [e]; exact hx
 ·intro h; exact ⟨n, h, by simp⟩
theorem c_fCatches (p : Pad) (w : Int) : FC Tryz.prog 162 [.agg (encPad p), .int .u16 w] (.bool (catchF p w)) := by
 refine Zav tok Tryz.func162 rfl (by decide +kernel) (nB rfl) ?_
 (repeat' first | refine Zab ?_ | (refine Zaa tok (by rfl) ?_; conv => whnf))
 refine .inl ⟨_, _, _, uG (QC.fc (c_ContainsU p.catch_ w) rfl), ?_⟩
 conv => whnf
 (repeat' (refine Zak ?_; conv => whnf))
 refine ⟨_, rfl, Rel.bool ?_⟩
 unfold catchF
 rw [← hasB_mem]
 cases p.all <;> cases hasB p.catch_ w <;> rfl
set_option linter.unusedSimpArgs false
def sel (b : Bool) (x y : AV) : AV := bif b then x else y
theorem Zdc {a i : Nat} (h : i ≤ a) {x y : AV} : sel (Nat.blt a i) x y = y := by
 have : Nat.blt a i = false := by rw [Bool.eq_false_iff]; intro h2; rw [Nat.blt_eq] at h2; omega
 rw [this]; rfl
theorem Zcg {a i : Nat} (h : a < i) {x y : AV} : sel (Nat.blt a i) x y = x := by
 have : Nat.blt a i = true := by rw [Nat.blt_eq]; exact h
 rw [this]; rfl
section
variable {src : Dv.Id → Option Dv.Id} {h h' : Zal}
end
set_option linter.unusedSimpArgs false
abbrev jB : Dv.Id := (1, 7, 0)
abbrev jF : Dv.Id := (2, 7, 0)
abbrev jE : Dv.Id := (942, 0, 0)
abbrev jT : Dv.Id := (944, 0, 0)
abbrev jN : Dv.Id := (941, 0, 0)
def evB (l : List Int) : Zam := .row true 1 l.length (fun x => [iv (l.getD x 0)])
def Zbi (l : List Zap) (q : Nat) : AV := sel (Nat.blt q (l.length - 1)) (.rs (945, 0, q) 1 0 (l.getD q default).regs.length) (.rs jT 1 0 (l.getD q default).regs.length)
def frC (l : List Zap) (q : Nat) : List AV := [iv (l.getD q default).f, iv (l.getD q default).block, iv (l.getD q default).at_, Zbi l q, .int .u16 (l.getD q default).fly]
def Zch (l : List Zap) : Zam := .row false 5 l.length (frC l)
def famW (l : List Zap) : Zal := famC 945 (fun z q => bif Nat.beq z 0 && Nat.blt q (l.length - 1) then some (regB (l.getD q default).regs) else none)
def macC (m : Zai) (s : Mach) : List AV := [.rs jF 5 0 s.stack.length, cw s.cells 0, cw s.cells 1, cw s.cells 2, cw s.cells 3, cw s.cells 4, cw s.cells 5, cw s.cells 6, cw s.cells 7, cw s.cells 8, cw s.cells 9, cw s.cells 10, cw s.cells 11, cw s.cells 12, cw s.cells 13, cw s.cells 14, cw s.cells 15, u16s s.inputs, .rs jE 1 0 s.events.length, iv s.done, .int .u16 s.value, Zet m.funcs]
def macB (m : Zai) (s : Mach) : Zam := .row false 22 1 (fun _ => macC m s)
def memL (m : Zai) (s : Mach) : List (Dv.Id × Zam) := [(jB, macB m s), (jF, Zch s.stack), (jE, evB s.events), (jT, regB (topF s).regs)]
def mem (m : Zai) (s : Mach) : Zal := orH (Zay (memL m s)) (famW s.stack)
theorem famW_some {l : List Zap} {j : Dv.Id} {b : Zam} (h : famW l j = some b) : ∃ q, j = (945, 0, q) ∧ q < l.length - 1 ∧ b = regB (l.getD q default).regs := by
 obtain ⟨z, q, rfl, h3⟩ := famC_some h
 cases e : (Nat.beq z 0 && Nat.blt q (l.length - 1)) with
 | false => rw [e] at h3; cases h3
 | true =>
  rw [e] at h3
  rw [Bool.and_eq_true, Nat.blt_eq] at e
  have hz : z = 0 := Nat.eq_of_beq_eq_true e.1
  subst hz
  exact ⟨q, rfl, e.2, (Option.some.inj h3).symm⟩
theorem Za1 {l : List Zap} {q : Nat} (h : q < l.length - 1) : famW l (945, 0, q) = some (regB (l.getD q default).regs) := by
 show (bif Nat.beq 0 0 && Nat.blt q (l.length - 1) then some (regB (l.getD q default).regs) else none) = _
 rw [show (Nat.beq 0 0 && Nat.blt q (l.length - 1)) = true from by rw [Bool.and_eq_true, Nat.blt_eq]; exact ⟨rfl, h⟩]; rfl
theorem Zef {m : Zai} {s : Mach} {q : Nat} : mem m s (945, 0, q) = famW s.stack (945, 0, q) := rfl
theorem Zcc {m : Zai} {s : Mach} {j : Dv.Id} {b : Zam} (h : mem m s j = some b) : (j = jB ∧ b = macB m s) ∨ (j = jF ∧ b = Zch s.stack) ∨ (j = jE ∧ b = evB s.events) ∨ (j = jT ∧ b = regB (topF s).regs) ∨
  ∃ q, j = (945, 0, q) ∧ q < s.stack.length - 1 ∧ b = regB (s.stack.getD q default).regs := by
 rcases orH_some h with e | ⟨_, e⟩
 ·simp only [memL, Zay] at e
  cases e1 : idEq jB j with
  | true => rw [e1] at e; exact .inl ⟨(Zaz.1 e1).symm, (Option.some.inj e).symm⟩
  | false =>
   cases e2 : idEq jF j with
   | true => rw [e1, e2] at e; exact .inr (.inl ⟨(Zaz.1 e2).symm, (Option.some.inj e).symm⟩)
   | false =>
    cases e3 : idEq jE j with
    | true => rw [e1, e2, e3] at e; exact .inr (.inr (.inl ⟨(Zaz.1 e3).symm, (Option.some.inj e).symm⟩))
    | false =>
     cases e4 : idEq jT j with
     | true => rw [e1, e2, e3, e4] at e; exact .inr (.inr (.inr (.inl ⟨(Zaz.1 e4).symm, (Option.some.inj e).symm⟩)))
     | false => rw [e1, e2, e3, e4] at e; cases e
 ·exact .inr (.inr (.inr (.inr (famW_some e))))
def D32 : List Dv.Id := [(945, 0, 0), (945, 0, 1), (945, 0, 2), (945, 0, 3), (945, 0, 4), (945, 0, 5), (945, 0, 6), (945, 0, 7), (945, 0, 8), (945, 0, 9), (945, 0, 10), (945, 0, 11), (945, 0, 12), (945, 0, 13), (945, 0, 14), (945, 0, 15), (945, 0, 16), (945, 0, 17), (945, 0, 18), (945, 0, 19), (945, 0, 20), (945, 0, 21), (945, 0, 22), (945, 0, 23), (945, 0, 24), (945, 0, 25), (945, 0, 26), (945, 0, 27), (945, 0, 28), (945, 0, 29), (945, 0, 30), (945, 0, 31)]
theorem D32_eq : D32 = (List.range 32).map fun q => (945, 0, q) := rfl
theorem Zg0 {i : Dv.Id} : i ∈ D32 ↔ ∃ q, q < 32 ∧ i = (945, 0, q) := by
 rw [D32_eq, List.mem_map]
 constructor
 ·rintro ⟨q, hq, rfl⟩; exact ⟨q, List.mem_range.1 hq, rfl⟩
 ·rintro ⟨q, hq, rfl⟩; exact ⟨q, List.mem_range.2 hq, rfl⟩
abbrev LW : List Dv.Id := [jB, jF]
theorem mem_closed (m : Zai) (s : Mach) : ∀ j b, mem m s j = some b → Dv.mapB (kpH (mem m s)) b = b := by
 intro j b h
 have kp : ∀ i, (mem m s i).isSome = true → kpH (mem m s) i = some i := fun i hi => by
  unfold kpH; cases e : mem m s i with
  | none => rw [e] at hi; cases hi
  | some b => rfl
 rcases Zcc h with ⟨rfl, rfl⟩ | ⟨rfl, rfl⟩ | ⟨rfl, rfl⟩ | ⟨rfl, rfl⟩ | ⟨q, rfl, hq, rfl⟩
 ·show Zam.row false 22 1 (fun _ => Zbm (kpH (mem m s)) (macC m s)) = _
  rfl
 ·show Zam.row false 5 s.stack.length (fun q => Zbm (kpH (mem m s)) (frC s.stack q)) = Zam.row false 5 s.stack.length (frC s.stack)
  congr 1
  funext q
  show [_, _, _, Zbn _ (Zbi s.stack q), _] = _
  unfold frC
  congr 4
  unfold Zbi
  by_cases hq : q < s.stack.length - 1
  ·rw [Zcg hq]
   show (match kpH (mem m s) (945, 0, q) with | some j => AV.rs j 1 0 _ | none => .any) = _
   rw [kp _ (by rw [Zef, Za1 hq]; rfl)]
  ·rw [Zdc (by omega)]; rfl
 ·rfl
 ·rfl
 ·rfl
theorem mem_sub {m : Zai} {s : Mach} {h : Zal} (h1 : h jB = some (macB m s)) (h2 : h jF = some (Zch s.stack)) (h3 : h jE = some (evB s.events)) (h4 : h jT = some (regB (topF s).regs)) (h5 : ∀ q, q < s.stack.length - 1 → h (945, 0, q) = some (regB (s.stack.getD q default).regs)) :
  ∀ j b, mem m s j = some b → h j = some b := fun j b e => by
 rcases Zcc e with ⟨rfl, rfl⟩ | ⟨rfl, rfl⟩ | ⟨rfl, rfl⟩ | ⟨rfl, rfl⟩ | ⟨q, rfl, hq, rfl⟩
 ·exact h1
 ·exact h2
 ·exact h3
 ·exact h4
 ·exact h5 q hq
theorem Zan {l : List Zap} {q : Nat} (h : l.length - 1 ≤ q) : famW l (945, 0, q) = none := by
 cases e : famW l (945, 0, q) with
 | none => rfl
 | some b =>
  obtain ⟨q', e1, e2, _⟩ := famW_some e
  injection e1 with _ e1
  injection e1 with _ e1
  subst e1; omega
theorem Za3 {m : Zai} {s : Mach} {h : Zal} (h1 : h jB = some (macB m s)) (h2 : h jF = some (Zch s.stack)) (h3 : h jE = some (evB s.events)) (h4 : h jT = some (regB (topF s).regs)) (h5 : ∀ q, h (945, 0, q) = famW s.stack (945, 0, q)) :
  ∀ j b, mem m s j = some b → h j = some b := mem_sub h1 h2 h3 h4 (fun q hq => by rw [h5 q, Za1 hq])
section
variable {P : Program} {f : FuncId} {m : Zai} {s s' : Mach} {args : List AV} {r : AV} {h : Zal}
abbrev dK : List Dv.Id := jE :: jT :: D32
abbrev dN : List Dv.Id := jN :: jE :: jT :: D32
theorem QH.tnM {L : List Dv.Id} (hB : jB ∈ L) (hF : jF ∈ L) (hc : HG P L f (mem m s) args r (mem m s')) (h32 : s.stack.length ≤ 32) (hsub : ∀ j b, mem m s j = some b → h j = some b) (hag : Zbm (kpH (mem m s)) args = args)
  (hfree : ∀ q, s.stack.length - 1 ≤ q → h (945, 0, q) = none) : QH P h f args dK (mem m s') r := by
 refine QH.frame hc hsub (mem_closed m s) hag (fun i hi => ?_) (fun i hi => ?_) (fun i hi => ?_)
 ·cases e : mem m s i with
  | none => rw [e] at hi; cases hi
  | some b =>
   rcases Zcc e with ⟨rfl, _⟩ | ⟨rfl, _⟩ | ⟨rfl, _⟩ | ⟨rfl, _⟩ | ⟨q, rfl, hq, _⟩
   ·exact .inr ⟨hB, rfl, rfl⟩
   ·exact .inr ⟨hF, rfl, rfl⟩
   ·exact .inl rfl
   ·exact .inl rfl
   ·exact .inl (Zb9.2 (List.mem_cons_of_mem _ (List.mem_cons_of_mem _ (Zg0.2 ⟨q, by omega, rfl⟩))))
 ·cases e : mem m s' i with
  | none => rw [e] at hi; cases hi
  | some b =>
   rcases Zcc e with ⟨rfl, _⟩ | ⟨rfl, _⟩ | ⟨rfl, _⟩ | ⟨rfl, _⟩ | ⟨q, rfl, hq, _⟩
   ·exact .inl rfl
   ·exact .inl rfl
   ·exact .inl rfl
   ·exact .inl rfl
   ·by_cases hq2 : q < s.stack.length - 1
    ·exact .inl (by rw [Zef, Za1 hq2]; rfl)
    ·exact .inr (hfree q (by omega))
 ·rcases List.mem_cons.1 (Zb9.1 hi) with rfl | hi
  ·exact .inl rfl
  rcases List.mem_cons.1 hi with rfl | hi
  ·exact .inl rfl
  obtain ⟨q, _, rfl⟩ := Zg0.1 hi
  by_cases hq2 : q < s.stack.length - 1
  ·exact .inl (by rw [Zef, Za1 hq2]; rfl)
  ·exact .inr (hfree q (by omega))
def macX (F : Dv.Id) (m : Zai) (s : Mach) : List AV := .rs F 5 0 s.stack.length :: (macC m s).drop 1
def memN (m : Zai) (s : Mach) : Zal := orH (Zay [(jB, .row false 22 1 (fun _ => macX jN m s)), (jN, Zch s.stack), (jE, evB s.events), (jT, regB (topF s).regs)]) (famW s.stack)
theorem memN_some {j : Dv.Id} {b : Zam} (h : memN m s j = some b) : (j = jB ∧ b = .row false 22 1 (fun _ => macX jN m s)) ∨ (j = jN ∧ b = Zch s.stack) ∨ (j = jE ∧ b = evB s.events) ∨ (j = jT ∧ b = regB (topF s).regs) ∨
  ∃ q, j = (945, 0, q) ∧ q < s.stack.length - 1 ∧ b = regB (s.stack.getD q default).regs := by
 rcases orH_some h with e | ⟨_, e⟩
 ·simp only [Zay] at e
  cases e1 : idEq jB j with
  | true => rw [e1] at e; exact .inl ⟨(Zaz.1 e1).symm, (Option.some.inj e).symm⟩
  | false =>
   cases e2 : idEq jN j with
   | true => rw [e1, e2] at e; exact .inr (.inl ⟨(Zaz.1 e2).symm, (Option.some.inj e).symm⟩)
   | false =>
    cases e3 : idEq jE j with
    | true => rw [e1, e2, e3] at e; exact .inr (.inr (.inl ⟨(Zaz.1 e3).symm, (Option.some.inj e).symm⟩))
    | false =>
     cases e4 : idEq jT j with
     | true => rw [e1, e2, e3, e4] at e; exact .inr (.inr (.inr (.inl ⟨(Zaz.1 e4).symm, (Option.some.inj e).symm⟩)))
     | false => rw [e1, e2, e3, e4] at e; cases e
 ·exact .inr (.inr (.inr (.inr (famW_some e))))
theorem memN_closed (m : Zai) (s : Mach) : ∀ j b, memN m s j = some b → Dv.mapB (kpH (memN m s)) b = b := by
 intro j b h
 have kp : ∀ i, (memN m s i).isSome = true → kpH (memN m s) i = some i := fun i hi => by
  unfold kpH; cases e : memN m s i with
  | none => rw [e] at hi; cases hi
  | some b => rfl
 rcases memN_some h with ⟨rfl, rfl⟩ | ⟨rfl, rfl⟩ | ⟨rfl, rfl⟩ | ⟨rfl, rfl⟩ | ⟨q, rfl, hq, rfl⟩
 ·rfl
 ·show Zam.row false 5 s.stack.length (fun q => Zbm (kpH (memN m s)) (frC s.stack q)) = Zam.row false 5 s.stack.length (frC s.stack)
  congr 1
  funext q
  show [_, _, _, Zbn _ (Zbi s.stack q), _] = _
  unfold frC
  congr 4
  unfold Zbi
  by_cases hq : q < s.stack.length - 1
  ·rw [Zcg hq]
   show (match kpH (memN m s) (945, 0, q) with | some j => AV.rs j 1 0 _ | none => .any) = _
   rw [kp _ (by show (famW s.stack (945, 0, q)).isSome = true; rw [Za1 hq]; rfl)]
  ·rw [Zdc (by omega)]; rfl
 ·rfl
 ·rfl
 ·rfl
theorem QH.ddM {L : List Dv.Id} (hB : jB ∈ L) (hc : HG P L f (memN m s) args r (mem m s')) (h32 : s.stack.length ≤ 32) (hsub : ∀ j b, memN m s j = some b → h j = some b) (hag : Zbm (kpH (memN m s)) args = args) (hjF : h jF = none)
  (hfree : ∀ q, s.stack.length - 1 ≤ q → h (945, 0, q) = none) : QH P h f args dN (mem m s') r := by
 have fam : ∀ q, memN m s (945, 0, q) = famW s.stack (945, 0, q) := fun q => rfl
 refine QH.frame hc hsub (memN_closed m s) hag (fun i hi => ?_) (fun i hi => ?_) (fun i hi => ?_)
 ·cases e : memN m s i with
  | none => rw [e] at hi; cases hi
  | some b =>
   rcases memN_some e with ⟨rfl, _⟩ | ⟨rfl, _⟩ | ⟨rfl, _⟩ | ⟨rfl, _⟩ | ⟨q, rfl, hq, _⟩
   ·exact .inr ⟨hB, rfl, rfl⟩
   ·exact .inl rfl
   ·exact .inl rfl
   ·exact .inl rfl
   ·exact .inl (Zb9.2 (List.mem_cons_of_mem _ (List.mem_cons_of_mem _ (List.mem_cons_of_mem _ (Zg0.2 ⟨q, by omega, rfl⟩)))))
 ·cases e : mem m s' i with
  | none => rw [e] at hi; cases hi
  | some b =>
   rcases Zcc e with ⟨rfl, _⟩ | ⟨rfl, _⟩ | ⟨rfl, _⟩ | ⟨rfl, _⟩ | ⟨q, rfl, hq, _⟩
   ·exact .inl rfl
   ·exact .inr hjF
   ·exact .inl rfl
   ·exact .inl rfl
   ·by_cases hq2 : q < s.stack.length - 1
    ·exact .inl (by rw [fam, Za1 hq2]; rfl)
    ·exact .inr (hfree q (by omega))
 ·rcases List.mem_cons.1 (Zb9.1 hi) with rfl | hi
  ·exact .inl rfl
  rcases List.mem_cons.1 hi with rfl | hi
  ·exact .inl rfl
  rcases List.mem_cons.1 hi with rfl | hi
  ·exact .inl rfl
  obtain ⟨q, _, rfl⟩ := Zg0.1 hi
  by_cases hq2 : q < s.stack.length - 1
  ·exact .inl (by rw [fam, Za1 hq2]; rfl)
  ·exact .inr (hfree q (by omega))
end
theorem GV_reg {src : Dv.Id → Option Dv.Id} {h h' : Zal} {l : List Zap} {q : Nat} (hq : q < l.length) (hs : ∀ q, q < l.length - 1 → src (945, 0, q) = some (945, 0, q)) (ht : src jT = some jT) (hf : ∀ q, q < l.length - 1 → (h' (945, 0, q)).isSome = true) (hT : (h' jT).isSome = true) : GV src h h' (Zbi l q) (Zbi l q) := by
 unfold Zbi
 by_cases e : q < l.length - 1
 ·cases e1 : h' (945, 0, q) with
  | none => have := hf q e; rw [e1] at this; cases this
  | some b => exact .cc (Zcg e) (Zcg e) (.rs e1 (hs q e) rfl rfl)
 ·cases e1 : h' jT with
  | none => rw [e1] at hT; cases hT
  | some b => exact .cc (Zdc (by omega)) (Zdc (by omega)) (.rs e1 ht rfl rfl)
theorem GB_fr {src : Dv.Id → Option Dv.Id} {h h' : Zal} {l : List Zap} (hs : ∀ q, q < l.length - 1 → src (945, 0, q) = some (945, 0, q)) (ht : src jT = some jT) (hf : ∀ q, q < l.length - 1 → (h' (945, 0, q)).isSome = true) (hT : (h' jT).isSome = true) : GB src h h' (Zch l) (Zch l) :=
 GB.row (Nat.le_refl _) (fun q hq => .i (.i (.i (.cons (GV_reg hq hs ht hf hT) (.i .nil))))) (fun e => by cases e)
theorem Zb0 {src : Dv.Id → Option Dv.Id} {h h' : Zal} (l : List Int) : GB src h h' (regB l) (regB l) := GB.rowI (Nat.le_refl _) (fun q hq => ⟨rfl, rfl⟩)
theorem Zd8 {src : Dv.Id → Option Dv.Id} {h h' : Zal} (l : List Int) : GB src h h' (evB l) (evB l) := GB.rowI (Nat.le_refl _) (fun q hq => ⟨rfl, rfl⟩)
theorem Zfh {src : Dv.Id → Option Dv.Id} {h h' : Zal} {l : List Zap} (hs : ∀ q, q < l.length - 1 → src (945, 0, q) = some (945, 0, q)) (hh : ∀ q, q < l.length - 1 → h (945, 0, q) = some (regB (l.getD q default).regs)) : ∀ j b, famW l j = some b → HOk src h h' j b := fun j b e => by
 obtain ⟨q, rfl, hq, rfl⟩ := famW_some e
 exact HOk.mk (hs q hq) (hh q hq) (Zb0 _)
set_option linter.unusedSimpArgs false
theorem Zf7 (m : Zai) (s : Mach) (h : 0 < s.stack.length) (hl : s.stack.length ≤ 1000) : HG Tryz.prog (LW) 111 (mem m s) [.bp jB 0] (.rp jF 5 (s.stack.length - 1) 0) (mem m s) := by
 refine HG_intro tok Tryz.func111 rfl (by decide +kernel) (nB rfl) ?_
 have hmx : mL = 4294967296 := rfl
 ((repeat' first | refine Zab ?_ | (refine Zaa tok (by rfl) ?_; conv => whnf) | (refine Zas tok mix (by rfl) ?_; conv => whnf) | (refine Zak ?_; conv => whnf) | (refine uA ?_ ?_; rotate_left; (conv => whnf); rotate_right)); all_goals (try ((guard_target = Zac _ _ _ _); refine Zae ?_; (all_goals (try simp only [Zac, kZ, kA, kB, mL, Zad] at *)); (all_goals (try (simp (disch := omega) only [wrap64]))); all_goals omega)))
 refine ⟨_, rfl, rfl, ?_⟩
 show AV.rp jF 5 (0 + (IntKind.i64.wrap ((s.stack.length : Int) - 1)).toNat) 0 = _
 rw [wrap64 (by omega) (by omega)]
 congr 1; omega
theorem Zc4 {m : Zai} {s' : Mach} : ∀ i ∈ LW, Zer i = true → (mem m s' i).isSome = true ∧ srcL [] i = some i := fun i hi _ => by
 rcases List.mem_cons.1 hi with rfl | hi
 ·exact ⟨rfl, rfl⟩
 ·rw [List.mem_singleton.1 hi]; exact ⟨rfl, rfl⟩
theorem Zd1 {m : Zai} {s s' : Mach} {h : Zal} (hst : s'.stack = s.stack) (hev : s'.events = s.events) {b0 : Zam} (h1 : h jB = some b0) (hB : GB (srcL []) h (mem m s') b0 (macB m s')) (h2 : h jF = some (Zch s.stack)) (h3 : h jE = some (evB s.events)) (h4 : h jT = some (regB (topF s).regs)) (h5 : ∀ q, q < s.stack.length - 1 → h (945, 0, q) = some (regB (s.stack.getD q default).regs)) :
  (∀ j j' i, (mem m s' j).isSome = true → (mem m s' j').isSome = true → srcL [] j = some i → srcL [] j' = some i → j = j') ∧ ∀ j b, mem m s' j = some b → HOk (srcL []) h (mem m s') j b := by
 have ht : topF s' = topF s := by unfold topF; rw [hst]
 refine ⟨fun j j' i _ _ e1 e2 => by cases e1; cases e2; rfl, fun j b e => ?_⟩
 rcases Zcc e with ⟨rfl, rfl⟩ | ⟨rfl, rfl⟩ | ⟨rfl, rfl⟩ | ⟨rfl, rfl⟩ | ⟨q, rfl, hq, rfl⟩
 ·exact HOk.mk rfl h1 hB
 ·refine HOk.mk rfl h2 ?_
  rw [← hst]
  exact GB_fr (fun _ _ => rfl) rfl (fun q hq => by rw [Zef, Za1 hq]; rfl) rfl
 ·refine HOk.mk rfl h3 ?_
  rw [hev]; exact Zd8 _
 ·refine HOk.mk rfl h4 ?_
  rw [ht]; exact Zb0 _
 ·refine HOk.mk rfl (h5 q (by rw [← hst]; exact hq)) ?_
  rw [hst]; exact Zb0 _
theorem Zcm {m : Zai} {s : Mach} {h h' : Zal} {b : Zam} {b' : Zam} {imm : Bool} {f : Nat → List AV} (hf : f 0 = macC m s) (hF : h' jF = some b) (hE : h' jE = some b') : GB (srcL []) h h' (.row imm 22 1 f) (macB m s) :=
 GB.one (by
  rw [hf]
  exact .cons (.rs hF rfl rfl rfl) (.i (.i (.i (.i (.i (.i (.i (.i (.i (.i (.i (.i (.i (.i (.i (.i (.i (.cons (.rs hE rfl rfl rfl) (.i (.i (.i .nil)))))))))))))))))))))) (fun e => by cases e)
theorem Za9 {m : Zai} {s : Mach} {d : List Dv.Id} {h : Zal} {q : Nat} (hq : q < s.stack.length - 1) : bigH d (mem m s) h (945, 0, q) = some (regB (s.stack.getD q default).regs) := by
 unfold bigH; rw [Zef, Za1 hq]
theorem Zdu (m : Zai) (s : Mach) (i : Nat) (hi : i < s.stack.length) (hF : OkF m (s.stack.getD i default)) : HG Tryz.prog (LW) 112 (mem m s) [.bp jB 0, .rp jF 5 i 0] (.agg (Za5 (Zao m (s.stack.getD i default)))) (mem m s) := by
 refine Za7 tok Tryz.func112 rfl (by decide +kernel) (nB rfl) ?_
 have hmx : mL = 4294967296 := rfl
 have f0 := hF.f0
 have f1 := hF.f1
 have b0 := hF.b0
 have b1 : (s.stack.getD i default).block < (m.funcs.getD (s.stack.getD i default).f.toNat default).blocks.length := hF.b1
 ((repeat' first | refine Zab ?_ | (refine Zaa tok (by rfl) ?_; conv => whnf) | (refine Zas tok mix (by rfl) ?_; conv => whnf) | (refine Zak ?_; conv => whnf) | (refine uA ?_ ?_; rotate_left; (conv => whnf); rotate_right)); all_goals (try ((guard_target = Zac _ _ _ _); refine Zae ?_; (all_goals (try simp only [Zac, kZ, kA, kB, mL, Zad] at *)); all_goals omega)))
 refine ⟨_, srcL [], rfl, ?_⟩
 rw [← and_assoc]
 exact ⟨Zd1 rfl rfl rfl (Zcm rfl rfl rfl) rfl rfl rfl (fun q hq => Za1 hq), .agg (GVs.imm rfl), Zc4⟩
theorem c_mEnd (m : Zai) (s : Mach) (how w : Int) : HG Tryz.prog (LW) 155 (mem m s) [.bp jB 0, iv how, .int .u16 w] (.tup []) (mem m (endM s how w)) := by
 refine Za7 tok Tryz.func155 rfl (by decide +kernel) (nB rfl) ?_
 (repeat' (refine Zaa tok (by rfl) ?_; conv => whnf))
 refine ⟨_, srcL [], rfl, ?_⟩
 rw [← and_assoc]
 exact ⟨Zd1 (s := s) rfl rfl rfl (Zcm (s := endM s how w) rfl rfl rfl) rfl rfl rfl (fun q hq => Za1 hq), .tup .nil, Zc4⟩
set_option linter.unusedSimpArgs false
theorem pop_getD {s : Mach} {q : Nat} (h : q < s.stack.length - 1) : (popM s).stack.getD q default = s.stack.getD q default := Zbq _ h
theorem c_mPop (m : Zai) (s : Mach) (h : 0 < s.stack.length) (hl : s.stack.length ≤ 1000) : HG Tryz.prog LW 157 (mem m s) [.bp jB 0] (.tup []) (mem m (popM s)) := by
 refine Za7 tok Tryz.func157 rfl (by decide +kernel) (nB rfl) ?_
 have hmx : mL = 4294967296 := rfl
 have hpl := Zcq (s := s)
 have hq : (IntKind.i64.wrap ((s.stack.length : Int) - 1)).toNat = s.stack.length - 1 := by rw [wrap64 (by omega) (by omega)]; omega
 ((repeat' first | (refine Zas tok mix (by rfl) ?_; conv => whnf) | (refine uA ?_ ?_; rotate_left; (conv => whnf); rotate_right)); all_goals (try ((guard_target = Zac _ _ _ _); refine Zae ?_; (all_goals (try simp only [Zac, kZ, kA, kB, mL, Zad] at *)); (all_goals (try (simp (disch := omega) only [wrap64]))); all_goals omega)))
 by_cases h1 : s.stack.length = 1
 ·refine ⟨_, srcL [(jT, none)], rfl, Zfl rfl (fun i hi => by cases hi), fun j b e => ?_, .tup .nil, fun i hi hp => ?_⟩
  ·rcases Zcc e with ⟨rfl, rfl⟩ | ⟨rfl, rfl⟩ | ⟨rfl, rfl⟩ | ⟨rfl, rfl⟩ | ⟨q, rfl, hq2, rfl⟩
   ·refine HOk.mk rfl rfl (GB.one ?_ (fun e => by cases e))
    refine .cons (.rs rfl rfl rfl ?_) (.i (.i (.i (.i (.i (.i (.i (.i (.i (.i (.i (.i (.i (.i (.i (.i (.i (.cons (.rs rfl rfl rfl rfl) (.i (.i (.i .nil)))))))))))))))))))))
    rw [hq, hpl]; simp
   ·refine HOk.mk rfl rfl ?_
    exact GB.row (by rw [hpl]; exact Nat.sub_le _ _) (fun q hq2 => by omega) (fun e => by cases e)
   ·exact HOk.mk rfl rfl (Zd8 _)
   ·refine ⟨true, 1, fun x => [.int .u16 (([] : List Int).getD x 0)], ?_⟩
    have : (topF (popM s)).regs = [] := by
     unfold topF
     rw [List.getD_eq_getElem?_getD, List.getElem?_eq_none (by omega)]; rfl
    rw [this]; rfl
   ·omega
  ·first | (rcases List.mem_cons.1 hi with rfl | hi; exact ⟨rfl, rfl⟩; rw [List.mem_singleton.1 hi]; exact ⟨rfl, rfl⟩)
 ·have h2 : s.stack.length - 2 < s.stack.length - 1 := by omega
  have htop : topF (popM s) = s.stack.getD (s.stack.length - 2) default := by
   unfold topF; rw [Zcq]; show (s.stack.take (s.stack.length - 1)).getD (s.stack.length - 1 - 1) default = _
   rw [Zbq _ (by omega)]; rfl
  refine ⟨_, srcL [(jT, some (945, 0, s.stack.length - 2))], rfl, Zfl rfl (fun i hi => ?_), fun j b e => ?_, .tup .nil, fun i hi hp => ?_⟩
  ·rw [List.mem_singleton.1 (show i ∈ [(945, 0, s.stack.length - 2)] from hi)]
   exact .inl (Zan (by rw [hpl]; omega))
  ·rcases Zcc e with ⟨rfl, rfl⟩ | ⟨rfl, rfl⟩ | ⟨rfl, rfl⟩ | ⟨rfl, rfl⟩ | ⟨q, rfl, hq2, rfl⟩
   ·refine HOk.mk rfl rfl (GB.one ?_ (fun e => by cases e))
    refine .cons (.rs rfl rfl rfl ?_) (.i (.i (.i (.i (.i (.i (.i (.i (.i (.i (.i (.i (.i (.i (.i (.i (.i (.cons (.rs rfl rfl rfl rfl) (.i (.i (.i .nil)))))))))))))))))))))
    rw [hq, hpl]; simp
   ·refine HOk.mk rfl rfl ?_
    refine GB.row (by rw [hpl]; exact Nat.sub_le _ _) (fun q hq2 => ?_) (fun e => by cases e)
    rw [hpl] at hq2
    show GVs _ _ _ (frC s.stack q) (frC (popM s).stack q)
    unfold frC
    rw [pop_getD hq2]
    refine .i (.i (.i (.cons ?_ (.i .nil))))
    unfold Zbi
    rw [pop_getD hq2]
    by_cases e : q < s.stack.length - 2
    ·exact .cc (Zcg hq2) (Zcg (by rw [hpl]; omega)) (.rs ((Zef (m := m) (s := popM s)).trans (Za1 (by rw [hpl]; omega))) rfl rfl rfl)
    ·have : q = s.stack.length - 2 := by omega
     subst this
     exact .cc (Zcg hq2) (Zdc (by rw [hpl]; omega)) (.rs rfl rfl rfl rfl)
   ·exact HOk.mk rfl rfl (Zd8 _)
   ·refine HOk.mk rfl (Za1 (l := s.stack) h2) ?_
    rw [htop]; exact Zb0 _
   ·rw [hpl] at hq2
    refine HOk.mk rfl (Za1 (l := s.stack) (show q < s.stack.length - 1 by omega)) ?_
    rw [pop_getD (by omega)]; exact Zb0 _
  ·first | (rcases List.mem_cons.1 hi with rfl | hi; exact ⟨rfl, rfl⟩; rw [List.mem_singleton.1 hi]; exact ⟨rfl, rfl⟩)
set_option linter.unusedSimpArgs false
def padV (m : Zai) (f : Zap) : Int × Pad × Bool := if endB m f = true ∧ (Zao m f).fin.kind = 4 then ((Zao m f).fin.pad, padF m f, true) else (0, ⟨0, [], false, false⟩, false)
set_option maxHeartbeats 2000000 in
theorem c_mPad (m : Zai) (s : Mach) (i : Nat) (hi : i < s.stack.length) (h32 : s.stack.length ≤ 32) (hF : OkF m (s.stack.getD i default)) (hp : (Zao m (s.stack.getD i default)).fin.kind = 4 → 0 ≤ (Zao m (s.stack.getD i default)).fin.pad ∧ (Zao m (s.stack.getD i default)).fin.pad < (Zb7 m (s.stack.getD i default)).blocks.length) :
  HG Tryz.prog (LW) 161 (mem m s) [.bp jB 0, .rp jF 5 i 0] (.tup [iv (padV m (s.stack.getD i default)).1, .agg (encPad (padV m (s.stack.getD i default)).2.1), .bool (padV m (s.stack.getD i default)).2.2]) (mem m s) := by
 refine Za7 tok Tryz.func161 rfl (by decide +kernel) (nB rfl) ?_
 have hmx : mL = 4294967296 := rfl
 have hB := Zdu m s i hi hF
 have f0 := hF.f0
 have f1 := hF.f1
 have a0 := hF.a0
 have a1 := hF.a1
 have hE : endB m (s.stack.getD i default) = decide ((s.stack.getD i default).at_ = (Zao m (s.stack.getD i default)).ins.length) := rfl
 have hpl : (Zao m (s.stack.getD i default)).fin.kind = 4 → 0 ≤ (Zao m (s.stack.getD i default)).fin.pad ∧ (Zao m (s.stack.getD i default)).fin.pad < (m.funcs.getD (s.stack.getD i default).f.toNat default).blocks.length := hp
 have hpf : padF m (s.stack.getD i default) = ((m.funcs.getD (s.stack.getD i default).f.toNat default).blocks.getD (Zao m (s.stack.getD i default)).fin.pad.toNat default).pad := rfl
 have hV : padV m (s.stack.getD i default) = if endB m (s.stack.getD i default) = true ∧ (Zao m (s.stack.getD i default)).fin.kind = 4 then ((Zao m (s.stack.getD i default)).fin.pad, padF m (s.stack.getD i default), true) else (0, ⟨0, [], false, false⟩, false) := rfl
 have hgen : ∃ b, Zao m (s.stack.getD i default) = b := ⟨_, rfl⟩
 obtain ⟨b, hbe⟩ := hgen
 rw [hbe] at hB hE hpl hpf hV a1
 (repeat' first | refine Zab ?_ | (refine Zaa tok (by rfl) ?_; conv => whnf))
 refine .inr ⟨_, _, _, uG (QH.tnM (by simp) (by simp) hB h32 (Za3 rfl rfl rfl rfl (fun _ => rfl)) rfl (fun q hq => Zan hq)), ?_⟩
 conv => whnf
 ((repeat' ((fail_if_success (show Rg 3)); (fail_if_success (show Rg 4)); first | refine Zab ?_ | (refine Zas tok mix (by rfl) ?_; conv => whnf) | (refine Zag ?_; conv => whnf) | refine Zaf rfl (fun hb => ?_) (fun hb => ?_) | (refine uA ?_ ?_; rotate_left; (conv => whnf); rotate_right))); all_goals (try ((guard_target = Zac _ _ _ _); refine Zae ?_; (all_goals (try simp only [Zac, kZ, kA, kB, mL, Zad] at *)); all_goals omega)))
 ·have hn : ¬ (endB m (s.stack.getD i default) = true ∧ b.fin.kind = 4) := by
   rintro ⟨h1, h2⟩
   rw [hE, decide_eq_true_eq] at h1
   rw [decide_eq_false (show ¬ (s.stack.getD i default).at_ < (b.ins.length : Int) by omega), decide_eq_true h2] at hb
   cases hb
  rw [if_neg hn] at hV
  rw [hV]
  (repeat' first | (refine Zaa tok (by rfl) ?_; conv => whnf) | (refine Zak ?_; conv => whnf))
  refine ⟨_, srcL [], rfl, ?_⟩
  rw [← and_assoc]
  exact ⟨Zd1 rfl rfl rfl (Zcm rfl rfl rfl) rfl rfl rfl (fun q hq => Za9 hq), .tup (.i (.cons (.agg (.i (.cons (.wk rfl (.nsl rfl)) (.i (.i .nil))))) (.i .nil))), Zc4⟩
 have hy : endB m (s.stack.getD i default) = true ∧ b.fin.kind = 4 := by
  rw [hE, decide_eq_true_eq]
  by_cases e1 : (s.stack.getD i default).at_ < (b.ins.length : Int)
  ·rw [decide_eq_true e1] at hb; cases hb
  ·rw [decide_eq_false e1] at hb
   by_cases e2 : b.fin.kind = 4
   ·exact ⟨by omega, e2⟩
   ·rw [decide_eq_false e2] at hb; cases hb
 clear hb
 rw [if_pos hy] at hV
 rw [hV]
 obtain ⟨hp0, hp1⟩ := hpl hy.2
 ((repeat' first | (refine Zas tok mix (by rfl) ?_; conv => whnf) | (refine Zak ?_; conv => whnf) | (refine uA ?_ ?_; rotate_left; (conv => whnf); rotate_right)); all_goals (try ((guard_target = Zac _ _ _ _); refine Zae ?_; (all_goals (try simp only [Zac, kZ, kA, kB, mL, Zad] at *)); all_goals omega)))
 refine ⟨_, srcL [], rfl, ?_⟩
 rw [← and_assoc]
 rw [hpf]
 exact ⟨Zd1 rfl rfl rfl (Zcm rfl rfl rfl) rfl rfl rfl (fun q hq => Za9 hq), .tup (.i (.cons (.agg (GVs.imm rfl)) (.i .nil))), Zc4⟩
set_option linter.unusedSimpArgs false
theorem c_rInts (a b : List Int) : FC Tryz.prog 63 [ints a, ints b] (.bool (decide (a = b))) := by
 refine Zav tok Tryz.func63 rfl (by decide +kernel) (nB rfl) ?_
 refine Zaw 0 (fun hl => ?_)
 have hl0 : a.length ≤ mL := hl.1
 (repeat' first | refine Zab ?_ | (refine Zaa tok (by rfl) ?_; conv => whnf) | refine Zah ?_ | (refine Zag ?_; conv => whnf) | (refine Zak ?_; conv => whnf) | refine Zaf rfl (fun hb => ?_) (fun hb => ?_))
 ·refine ⟨_, rfl, Rel.bool ?_⟩
  symm; rw [decide_eq_false_iff_not]
  intro e; subst e; simp at hb
 have hlen : a.length = b.length := by simp at hb; omega
 clear hb
 refine Zax (fun i : Nat => mkS [(0, ints a), (1, ints b), (5, iv i)] [])
  (fun i => i ≤ a.length ∧ ∀ j, j < i → a.getD j 0 = b.getD j 0) (fun i => a.length - i) 0 ⟨Nat.zero_le _, by simp⟩ ?_ ?_
 ·refine Weak.list [] rfl (by rfl) ?_ .nil
  ((repeat' first | exact TLes.nil | refine tE rfl ?_); skip)
 rintro i ⟨hi2, hc⟩
 ((repeat' first | refine Zab ?_ | (refine Zaa tok (by rfl) ?_; conv => whnf) | (refine Zas tok mix (by rfl) ?_; conv => whnf) | refine Zah ?_ | (refine Zag ?_; conv => whnf) | (refine Za0 ?_; conv => whnf) | (refine Zak ?_; conv => whnf) | refine Zaf rfl (fun hb => ?_) (fun hb => ?_) | (refine uA ?_ ?_; rotate_left; (conv => whnf); rotate_right)); all_goals (try ((guard_target = Zac _ _ _ _); refine Zae ?_; (all_goals (try simp only [Zac, kZ, kA, kB, mL, Zad] at *)); all_goals omega)))
 ·have hlt : i < a.length := by rename_i h; simp only [Zac, kZ, kA, kB, mL, Zad] at *; omega
  refine ⟨_, rfl, Rel.bool ?_⟩
  symm; rw [decide_eq_false_iff_not]
  intro e; subst e; simp at hb
 ·have hlt : i < a.length := by rename_i h; simp only [Zac, kZ, kA, kB, mL, Zad] at *; omega
  refine ⟨i + 1, ⟨hlt, fun j hj => ?_⟩, by omega, ?_⟩
  ·by_cases e : j = i
   ·subst e; simpa using hb
   ·exact hc j (by omega)
  refine Weak.list [] rfl (by rfl) ?_ .nil
  ((repeat' first | exact TLes.nil | refine tE rfl ?_ | refine TLes.cons (TLe.int ?_) ?_); (all_goals first | ((try (simp only [Zac, kZ, kA, kB, mL, Zad] at *)); exact wrap64 (by omega) (by omega)) | skip))
 ·refine ⟨_, rfl, Rel.bool ?_⟩
  symm; rw [decide_eq_true_eq]
  exact Zdj 0 hlen (fun j hj => hc j (by simp only [Zac, kZ, kA, kB, mL, Zad] at *; omega))
set_option linter.unusedSimpArgs false
def toldB (s t : Mach) : Bool := decide (s.events = t.events) && (decide (s.done = t.done) && decide (s.value = t.value))
theorem c_Told (s t : Mach) : FC Tryz.prog 25 [.agg (Zbk s), .agg (Zbk t)] (.bool (toldB s t)) := by
 refine Zav tok Tryz.func25 rfl (by decide +kernel) (nB rfl) ?_
 (repeat' first | refine Zab ?_ | (refine Zaa tok (by rfl) ?_; conv => whnf))
 refine .inl ⟨_, _, _, uG (QC.fc (c_rInts s.events t.events) rfl), ?_⟩
 conv => whnf
 (repeat' (refine Zak ?_; conv => whnf))
 refine ⟨_, rfl, Rel.bool ?_⟩
 unfold toldB
 cases decide (s.events = t.events) <;> cases decide (s.done = t.done) <;> rfl
def smallB (m : Zai) (inputs : List Int) : Bool := shortB m && decide (inputs.length ≤ 30)
theorem c_r6Small (m : Zai) (inputs : List Int) : FC Tryz.prog 13 [.agg (Zbf m), u16s inputs] (.bool (smallB m inputs)) := by
 refine Zav tok Tryz.func13 rfl (by decide +kernel) (nB rfl) ?_
 (repeat' first | refine Zab ?_ | (refine Zaa tok (by rfl) ?_; conv => whnf))
 refine .inl ⟨_, _, _, uG (QC.fc (c_Short m) rfl), ?_⟩
 conv => whnf
 (repeat' (refine Zak ?_; conv => whnf))
 refine ⟨_, rfl, Rel.bool ?_⟩
 unfold smallB
 cases shortB m
 ·rfl
 ·simp only [cond_true, Bool.true_and]
  by_cases e : inputs.length ≤ 30
  ·rw [decide_eq_true e, decide_eq_true (by omega)]
  ·rw [decide_eq_false e, decide_eq_false (by omega)]
end Go.Proofs.YtoelbgjpmpoolaaGreat
namespace Go.Proofs.YtoelbgjpmpoolaaGreat
open Go Dv
set_option maxRecDepth 10000
set_option linter.unusedSimpArgs false
structure TellA (s t : Mach) : Prop where
 ev : s.events = t.events
 dn : s.done = t.done
 va : s.value = t.value
theorem told_of {s t : Mach} (h : TellA s t) : toldB s t = true := by
 unfold toldB; rw [decide_eq_true h.ev, decide_eq_true h.dn, decide_eq_true h.va]; rfl
structure RelL (P : Zap → Zap → Prop) (a b : List Zap) : Prop where
 len : a.length = b.length
 at_ : ∀ i, i < a.length → P (a.getD i default) (b.getD i default)
theorem RelL.take {P : Zap → Zap → Prop} {a b : List Zap} (h : RelL P a b) (k : Nat) : RelL P (a.take k) (b.take k) := by
 refine ⟨by rw [List.length_take, List.length_take, h.len], fun i hi => ?_⟩
 rw [List.length_take] at hi
 rw [Zbq _ (by omega), Zbq _ (by omega)]
 exact h.at_ i (by omega)
theorem Zc5 {l : List Zap} {x : Zap} {i : Nat} : (l ++ [x]).getD i default = if i < l.length then l.getD i default else if i = l.length then x else default := by
 by_cases h1 : i < l.length
 ·rw [if_pos h1]; simp [List.getD_eq_getElem?_getD, List.getElem?_append_left h1]
 ·rw [if_neg h1]
  by_cases h2 : i = l.length
  ·rw [if_pos h2]; subst h2; simp [List.getD_eq_getElem?_getD]
  ·rw [if_neg h2, List.getD_eq_getElem?_getD, List.getElem?_eq_none (by simp; omega)]; rfl
theorem RelL.app {P : Zap → Zap → Prop} {a b : List Zap} (h : RelL P a b) {f g : Zap} (hp : P f g) : RelL P (a ++ [f]) (b ++ [g]) := by
 refine ⟨by simp [h.len], fun i hi => ?_⟩
 rw [List.length_append, List.length_singleton] at hi
 rw [Zc5, Zc5, ← h.len]
 by_cases h1 : i < a.length
 ·rw [if_pos h1, if_pos h1]; exact h.at_ i h1
 ·rw [if_neg h1, if_neg h1, if_pos (by omega), if_pos (by omega)]; exact hp
structure RelM (P : Zap → Zap → Prop) (s t : Mach) : Prop where
 tell : TellA s t
 cells : s.cells = t.cells
 inp : s.inputs = t.inputs
 st : s.done = 0 → RelL P s.stack t.stack
theorem Zd4 {P : Zap → Zap → Prop} {s t : Mach} (h : RelM P s t) {how w : Int} (hh : how ≠ 0) : RelM P (endM s how w) (endM t how w) := ⟨⟨h.tell.ev, rfl, rfl⟩, h.cells, h.inp, fun e => absurd e hh⟩
theorem Zdd {P : Zap → Zap → Prop} {s t : Mach} (h : RelM P s t) (hd : s.done = 0) {f g : Zap} (hp : P f g) : RelM P (Zbx s f) (Zbx t g) :=
 ⟨⟨h.tell.ev, h.tell.dn, h.tell.va⟩, h.cells, h.inp, fun _ => by
  show RelL P (s.stack.take (s.stack.length - 1) ++ [f]) (t.stack.take (t.stack.length - 1) ++ [g])
  rw [← (h.st hd).len]
  exact ((h.st hd).take _).app hp⟩
theorem relM_withL {P : Zap → Zap → Prop} {s t : Mach} (h : RelM P s t) (hd : s.done = 0) (hl : 0 < s.stack.length) {f : Zap} (hp : P f (topF t)) : RelM P (Zbx s f) t :=
 ⟨⟨h.tell.ev, h.tell.dn, h.tell.va⟩, h.cells, h.inp, fun _ => by
  have hL := h.st hd
  have e : t.stack = t.stack.take (t.stack.length - 1) ++ [topF t] := by
   have e1 : t.stack.take (t.stack.length - 1 + 1) = t.stack.take (t.stack.length - 1) ++ [t.stack.getD (t.stack.length - 1) default] := by
    rw [List.take_add_one, List.getD_eq_getElem?_getD, List.getElem?_eq_getElem (by have := hL.len; omega)]; rfl
   rw [show t.stack.length - 1 + 1 = t.stack.length by have := hL.len; omega, List.take_length] at e1
   exact e1
  show RelL P (s.stack.take (s.stack.length - 1) ++ [f]) t.stack
  rw [e, ← hL.len]
  exact (hL.take _).app hp⟩
theorem relM_top {P : Zap → Zap → Prop} {s t : Mach} (h : RelM P s t) (hd : s.done = 0) (hl : 0 < s.stack.length) : P (topF s) (topF t) := by
 unfold topF
 rw [← (h.st hd).len]
 exact (h.st hd).at_ _ (by omega)
theorem relM_take {P : Zap → Zap → Prop} {s t : Mach} (h : RelM P s t) (k : Nat) : RelM P (Zdo s k) (Zdo t k) := ⟨⟨h.tell.ev, h.tell.dn, h.tell.va⟩, h.cells, h.inp, fun hd => (h.st hd).take k⟩
theorem Zfm {P : Zap → Zap → Prop} {s t : Mach} (h : RelM P s t) (hd : s.done = 0) : RelM P (popM s) (popM t) := by
 rw [popM_eq, popM_eq, ← (h.st hd).len]
 exact relM_take h _
theorem relM_ev {P : Zap → Zap → Prop} {s t s' t' : Mach} (h : RelM P s t) (h1 : TellA s' t') (h2 : s'.cells = t'.cells) (h3 : s'.inputs = t'.inputs) (hd : s'.done = s.done) (e1 : s'.stack = s.stack) (e2 : t'.stack = t.stack) : RelM P s' t' :=
 ⟨h1, h2, h3, fun e => by rw [e1, e2]; exact h.st (by rw [← hd]; exact e)⟩
theorem relM_called {P : Zap → Zap → Prop} {m n : Zai} {s t : Mach} (h : RelM P s t) (hd : s.done = 0) {k : Int} {l l' : List Int} (ha : Zb6 (topF s) l = Zb6 (topF t) l') (hN : P (frN m k (Zb6 (topF s) l)) (frN n k (Zb6 (topF s) l))) :
  RelM P (Zb2 m s k l) (Zb2 n t k l') := by
 unfold Zb2
 rw [← (h.st hd).len]
 split
 ·exact Zd4 h (by decide)
 ·rw [← ha]
  exact ⟨⟨h.tell.ev, h.tell.dn, h.tell.va⟩, h.cells, h.inp, fun _ => (h.st hd).app hN⟩
theorem relM_answered {P : Zap → Zap → Prop} {m n : Zai} {s t : Mach} (h : RelM P s t) (hd : s.done = 0) (hl : 0 < s.stack.length) {w : Int} (hA : 1 < s.stack.length → P (answF m (topF (popM s)) w) (answF n (topF (popM t)) w)) :
  RelM P (Zbr m s w) (Zbr n t w) := by
 unfold Zbr
 rw [← (h.st hd).len]
 split
 ·exact Zd4 (Zfm h hd) (by decide)
 ·rename_i h1
  exact Zdd (Zfm h hd) hd (hA (by omega))
theorem downK_congr {p q : Nat → Bool} : ∀ {n : Nat}, (∀ i, i ≤ n → p i = q i) → Zex p n = Zex q n
 | 0, _ => rfl
 | n + 1, h => by
   show (if p (n + 1) = true then n + 1 else Zex p n) = (if q (n + 1) = true then n + 1 else Zex q n)
   rw [h (n + 1) (Nat.le_refl _), downK_congr (fun i hi => h i (by omega))]
theorem any_congr {p q : Nat → Bool} {n : Nat} (h : ∀ i, i < n → p i = q i) : (List.range n).any p = (List.range n).any q := by
 rw [Bool.eq_iff_iff, List.any_eq_true, List.any_eq_true]
 constructor
 ·rintro ⟨i, hi, e⟩; exact ⟨i, hi, by rw [← h i (List.mem_range.1 hi)]; exact e⟩
 ·rintro ⟨i, hi, e⟩; exact ⟨i, hi, by rw [h i (List.mem_range.1 hi)]; exact e⟩
theorem relM_thrown {P : Zap → Zap → Prop} {m n : Zai} {s t : Mach} (h : RelM P s t) (hd : s.done = 0) {w : Int}
  (hC : ∀ i, i + 1 < s.stack.length → ∀ c, Zcw m (s.stack.getD i default) w c = Zcw n (t.stack.getD i default) w c)
  (hA : ∀ i, i + 1 < s.stack.length → Zcw m (s.stack.getD i default) w true = true → P (landF m (s.stack.getD i default) (Zao m (s.stack.getD i default)).fin.pad w) (landF n (t.stack.getD i default) (Zao n (t.stack.getD i default)).fin.pad w)) :
  RelM P (Zbu m s w) (Zbu n t w) := by
 have hp := Zfm h hd
 have hL := hp.st hd
 have hlen := hL.len
 have hpl := Zcq (s := s)
 have hsl := (h.st hd).len
 have e1 : ∀ i, i < (popM s).stack.length → (popM s).stack.getD i default = s.stack.getD i default := fun i hi => Zbq _ (by omega)
 have e2 : ∀ i, i < (popM s).stack.length → (popM t).stack.getD i default = t.stack.getD i default := fun i hi => Zbq _ (by omega)
 have hC2 : ∀ i, i < (popM s).stack.length → ∀ c, Zbs m (popM s).stack w c i = Zbs n (popM t).stack w c i := fun i hi c => by
  unfold Zbs; rw [e1 i hi, e2 i hi]; exact hC i (by omega) c
 unfold Zbu
 dsimp only
 rw [← hlen, ← any_congr (fun i hi => hC2 i hi false)]
 split
 ·rename_i hany
  rw [List.any_eq_true] at hany
  obtain ⟨i, hi, hic⟩ := hany
  rw [List.mem_range] at hi
  have hK := Zfa (p := Zbs m (popM s).stack w true) (n := (popM s).stack.length - 1) ⟨i, by omega, Zf6 hic⟩
  rw [← downK_congr (p := Zbs m (popM s).stack w true) (fun i hi => hC2 i (by omega) true)]
  generalize Zex (Zbs m (popM s).stack w true) ((popM s).stack.length - 1) = K at hK
  have hKl : K < (popM s).stack.length := by omega
  rw [e1 K hKl, e2 K hKl]
  have hk := hK.1
  unfold Zbs at hk
  rw [e1 K hKl] at hk
  exact Zdd (relM_take hp (K + 1)) hd (hA K (by omega) hk)
 ·exact Zd4 hp (by decide)
end Go.Proofs.YtoelbgjpmpoolaaGreat
namespace Go.Proofs.YtoelbgjpmpoolaaGreat
open Go Dv
set_option maxRecDepth 10000
set_option linter.unusedSimpArgs false
theorem Zez {src : Dv.Id → Option Dv.Id} {m : Zai} {s : Mach} {h h' : Zal} {imm : Bool} {f : Nat → List AV} (hf : f 0 = macC m s) (sF : src jF = some jF) (sE : src jE = some jE) (hF : (h' jF).isSome = true) (hE : (h' jE).isSome = true) : GB src h h' (.row imm 22 1 f) (macB m s) := by
 cases e1 : h' jF with
 | none => rw [e1] at hF; cases hF
 | some b1 =>
  cases e2 : h' jE with
  | none => rw [e2] at hE; cases hE
  | some b2 =>
   refine GB.one ?_ (fun e => by cases e)
   rw [hf]
   exact (.cons (.rs e1 sF rfl rfl) (.i (.i (.i (.i (.i (.i (.i (.i (.i (.i (.i (.i (.i (.i (.i (.i (.i (.cons (.rs e2 sE rfl rfl) (.i (.i (.i .nil))))))))))))))))))))))
theorem Zcs {src : Dv.Id → Option Dv.Id} {m : Zai} {s : Mach} {h h' : Zal} (sB : src jB = some jB) (sF : src jF = some jF) (sE : src jE = some jE) (sT : src jT = some jT) (sW : ∀ q, src (945, 0, q) = some (945, 0, q)) (h1 : h jB = some (macB m s)) (h2 : h jF = some (Zch s.stack)) (h3 : h jE = some (evB s.events)) (h4 : h jT = some (regB (topF s).regs))
  (k2 : (h' jF).isSome = true) (k3 : (h' jE).isSome = true) (k4 : (h' jT).isSome = true) (k5 : ∀ q, q < s.stack.length - 1 → (h' (945, 0, q)).isSome = true) : HLs src h h' (memL m s) :=
 .old sB h1 (Zez rfl sF sE k2 k3) (.old sF h2 (GB_fr (fun q _ => sW q) sT k5 k4) (.old sE h3 (Zd8 _) (.old sT h4 (Zb0 _) .nil)))
theorem Zcf {l : List Zap} {q : Nat} (hq : q < l.length - 1) : (famW l (945, 0, q)).isSome = true := by rw [Za1 hq]; rfl
theorem map_regAV {ρ : Dv.Id → Option Dv.Id} {l : List Zap} (h1 : ∀ q, ρ (945, 0, q) = some (945, 0, q)) (h2 : ρ jT = some jT) (q : Nat) : Zbn ρ (Zbi l q) = Zbi l q := by
 unfold Zbi
 cases Nat.blt q (l.length - 1) with
 | true => show (match ρ (945, 0, q) with | some j => AV.rs j 1 0 _ | none => .any) = _; rw [h1]; rfl
 | false => show (match ρ jT with | some j => AV.rs j 1 0 _ | none => .any) = _; rw [h2]; rfl
theorem map_fr {ρ : Dv.Id → Option Dv.Id} {l : List Zap} (h1 : ∀ q, ρ (945, 0, q) = some (945, 0, q)) (h2 : ρ jT = some jT) : Dv.mapB ρ (Zch l) = Zch l := by
 show Zam.row false 5 l.length (fun q => Zbm ρ (frC l q)) = Zam.row false 5 l.length (frC l)
 congr 1
 funext q
 show [_, _, _, Zbn ρ (Zbi l q), _] = _
 rw [map_regAV h1 h2]; rfl
theorem killH_fam {h : Zal} {i : Dv.Id} {q : Nat} {l : List Int} (hi : idEq i (945, 0, q) = false) (e : h (945, 0, q) = some (regB l)) : killH i h (945, 0, q) = some (regB l) := by
 unfold killH; rw [hi, e]; rfl
theorem Zfj {d : List Dv.Id} {u h : Zal} {q : Nat} {l : List Int} (hu : u (945, 0, q) = none) (hd : memI (945, 0, q) d = false) (e : h (945, 0, q) = some (regB l)) : bigH d u h (945, 0, q) = some (regB l) := by
 unfold bigH; rw [hu, hd, e]
 cases d <;> rfl
theorem Zbg {s : Mach} (h : 0 < s.stack.length) {q : Nat} (hq : q = s.stack.length - 1) : Zbi s.stack q = .rs jT 1 0 (topF s).regs.length := by
 subst hq; unfold Zbi; rw [Zdc (Nat.le_refl _)]; rfl
set_option maxHeartbeats 4000000 in
theorem c_mCall (m : Zai) (s : Mach) (n : Int) (places : List Int) (hr : Zbd m = true) (h : 0 < s.stack.length) (h32 : s.stack.length ≤ 32) (h0 : 0 ≤ n) (h1 : n < m.funcs.length) (hp : (places.length : Int) = (m.funcs.getD n.toNat default).params)
  (hpl : ∀ p ∈ places, 0 ≤ p ∧ p < (topF s).regs.length) : HG Tryz.prog [jB] 116 (mem m s) [.bp jB 0, iv n, ints places] (.tup []) (mem m (Zb2 m s n places)) := by
 refine Za7 tok Tryz.func116 rfl (by decide +kernel) (nB rfl) ?_
 have hmx : mL = 4294967296 := rfl
 have hT := Zf7 m s h (by omega)
 have hp8 : places.length ≤ 8 := by
  have := (okF_funP (Zco hr (show n.toNat < m.funcs.length by omega))).2.1
  omega
 (repeat' ((fail_if_success (show Rg 1)); (fail_if_success (show Rg 2)); first | refine Zab ?_ | (refine Zaa tok (by rfl) ?_; conv => whnf) | (refine Zag ?_; conv => whnf) | refine Zaf rfl (fun hb => ?_) (fun hb => ?_)))
 ·have h32' : 32 ≤ s.stack.length := by simp only [decide_eq_true_eq] at hb; omega
  clear hb
  rw [show Zb2 m s n places = endM s 5 0 from if_pos h32']
  (repeat' (refine Zaa tok (by rfl) ?_; conv => whnf))
  refine .inr ⟨_, _, _, uG (QH.tnM (by simp) (by simp) (c_mEnd m s 5 0) h32 (Za3 rfl rfl rfl rfl (fun _ => rfl)) rfl (fun q hq => Zan hq)), ?_⟩
  conv => whnf
  (repeat' (refine Zak ?_; conv => whnf))
  refine ⟨_, srcL [], rfl, ?_⟩
  rw [← and_assoc]
  refine ⟨Zd1 (s := endM s 5 0) rfl rfl rfl (Zcm rfl rfl rfl) rfl rfl rfl (fun q hq => Za9 (s := endM s 5 0) hq), .tup .nil, fun i hi _ => ?_⟩
  rw [List.mem_singleton.1 hi]; exact ⟨rfl, rfl⟩
 have h32' : ¬ 32 ≤ s.stack.length := by simp only [decide_eq_false_iff_not] at hb; omega
 clear hb
 have hcm : Zb2 m s n places = { s with stack := s.stack ++ [frN m n (Zb6 (topF s) places)] } := if_neg h32'
 (repeat' ((fail_if_success (show Rg 4)); first | refine Zab ?_ | (refine Zaa tok (by rfl) ?_; conv => whnf) | refine Zah ?_))
 refine Zax (fun j : Nat => mkF [(0, .bp jB 0), (1, iv n), (2, ints places), (6, .rs (101, 0, 0) 1 0 j), (20, ints places), (21, iv places.length), (22, iv j)] ([((101, 0, 0), .row true 1 j (fun q => [.int .u16 ((Zb6 (topF s) places).getD q 0)]))] ++ memL m s) (famW s.stack)) (fun j => j ≤ places.length) (fun j => places.length - j) 0 (Nat.zero_le _) ?_ ?_
 ·refine Weak.fam (L := [jB]) (tl := [(0, .bp jB 0), (1, iv n), (2, ints places), (6, .rs (101, 0, 0) 1 0 0), (20, ints places), (21, iv places.length), (22, iv 0)]) (hl := [((101, 0, 0), .row true 1 0 (fun q => [.int .u16 ((Zb6 (topF s) places).getD q 0)]))] ++ memL m s) (F := famW s.stack) [((101, 0, 0), none)] rfl (fun c hc => by cases hc) ?_ ?_ ?_ (fun i hi _ => by rw [List.mem_singleton.1 hi]; exact ⟨rfl, rfl⟩)
  ·exact .cons (.bp rfl rfl) (.i (.i (.cons (.nil rfl rfl rfl) (.i (.i (.i .nil))))))
  ·exact .new rfl (Zcs rfl rfl rfl rfl (fun _ => rfl) rfl rfl rfl rfl rfl rfl rfl (fun q hq => Zcf hq))
  ·exact Zfh (fun _ _ => rfl) (fun q hq => Za1 hq)
 intro j hj
 (repeat' ((fail_if_success (show Rg 5)); (fail_if_success (show Rg 8)); first | refine Zab ?_ | (refine Zaa tok (by rfl) ?_; conv => whnf) | refine Zah ?_ | (refine Zag ?_; conv => whnf) | (refine Za0 ?_; conv => whnf) | refine Zaf rfl (fun hb => ?_) (fun hb => ?_)))
 ·have hlt : j < places.length := by simp only [decide_eq_true_eq] at hb; omega
  clear hb
  have hjz : (j : Int).toNat = j := by simp
  have hpj := hpl _ (Zde 0 hlt)
  have hpj' : 0 ≤ places.getD (j : Int).toNat 0 ∧ places.getD (j : Int).toNat 0 < (topF s).regs.length := by rw [hjz]; exact hpj
  ((repeat' first | (refine Zaa tok (by rfl) ?_; conv => whnf) | (refine uA ?_ ?_; rotate_left; (conv => whnf); rotate_right)); all_goals (try ((guard_target = Zac _ _ _ _); refine Zae ?_; (all_goals (try simp only [Zac, kZ, kA, kB, mL, Zad] at *)); all_goals omega)))
  refine .inr ⟨_, _, _, uG (QH.tnM (by simp) (by simp) hT h32 (Za3 rfl rfl rfl rfl (fun _ => rfl)) rfl (fun q hq => Zan hq)), ?_⟩
  conv => whnf
  ((repeat' (refine uA ?_ ?_; rotate_left; (conv => whnf); rotate_right)); all_goals (try ((guard_target = Zac _ _ _ _); refine Zae ?_; (all_goals (try simp only [Zac, kZ, kA, kB, mL, Zad] at *)); all_goals omega)))
  refine fAV (y := .rs jT 1 0 (topF s).regs.length) ?_ ?_
  ·exact Zbg h rfl
  conv => whnf
  have hv : (topF s).regs.getD (0 + (places.getD (j : Int).toNat 0).toNat) 0 = (Zb6 (topF s) places).getD j 0 := by
   unfold Zb6
   rw [Nat.zero_add, hjz, List.getD_eq_getElem?_getD (l := places.map _), List.getElem?_map, List.getElem?_eq_getElem hlt, Zca 0 hlt]; rfl
  ((repeat' first | (refine Zaa tok (by rfl) ?_; conv => whnf) | (refine uA ?_ ?_; rotate_left; (conv => whnf); rotate_right)); all_goals (try ((guard_target = Zac _ _ _ _); refine Zae ?_; (first | refine And.intro (Zfw rfl ?_) ?_ | skip); (all_goals (try simp only [Zac, kZ, kA, kB, mL, Zad] at *)); all_goals omega)))
  refine ⟨j + 1, hlt, by omega, ?_⟩
  refine Weak.fam (L := [jB]) (tl := [(0, .bp jB 0), (1, iv n), (2, ints places), (6, .rs (101, 0, 0) 1 0 (j + 1)), (20, ints places), (21, iv places.length), (22, iv (j + 1))]) (hl := [((101, 0, 0), .row true 1 (j + 1) (fun q => [.int .u16 ((Zb6 (topF s) places).getD q 0)]))] ++ memL m s) (F := famW s.stack) [((101, 0, 0), some (36, 0, 0))] rfl (fun c hc => ?_) ?_ ?_ ?_ (fun i hi _ => by rw [List.mem_singleton.1 hi]; exact ⟨rfl, rfl⟩)
  ·rw [List.mem_singleton.1 (show c ∈ [(36, 0, 0)] from hc)]; exact .inl rfl
  ·exact .cons (.bp rfl rfl) (.i (.i (.cons (.rs rfl rfl rfl rfl) (.i (.i (.cons (.int (wrap64 (by omega) (by omega))) .nil))))))
  ·refine .old rfl rfl (GB.rowI (Nat.le_refl _) (fun q hq => ?_)) (Zcs rfl rfl rfl rfl (fun _ => rfl) rfl ((congrArg (Option.map (Dv.mapB (kill (101, 0, 0)))) (rfl : some (Zch s.stack) = some (Zch s.stack))).trans (by rw [Option.map_some, map_fr (ρ := kill (101, 0, 0)) (fun _ => rfl) rfl])) rfl rfl rfl rfl rfl (fun q hq => Zcf hq))
   have e := appF (g := fun q => (Zb6 (topF s) places).getD q 0) hq hv
   simp only [allB, Zcy, Bool.true_and, Bool.and_true, Bool.and_self, cond_true]
   exact ⟨by rw [show appR j (fun q => [AV.int IntKind.u16 ((Zb6 (topF s) places).getD q 0)]) _ q = _ from e]; rfl, e⟩
  ·refine Zfh (fun _ _ => rfl) (fun q hq => ?_)
   refine killH_fam (i := (101, 0, 0)) rfl ?_
   exact Za9 hq
 ·have hjl : j = places.length := by simp only [decide_eq_false_iff_not] at hb; omega
  clear hb
  subst hjl
  have hal : (Zb6 (topF s) places).length = places.length := by simp [Zb6]
  have hN := c_fNew m n (Zb6 (topF s) places) hr h0 h1 (by rw [hal]; exact hp)
  (repeat' (refine Zaa tok (by rfl) ?_; conv => whnf))
  refine .inr ⟨_, _, _, uG (QH.giveF (rd := [(101, 0, 0)]) hN (.i (.i (.cons (.row rfl (.head _) rfl hal.symm (fun q hq => rfl)) .nil))) (fun i hi => by rw [Zdm hi]; rfl)), ?_⟩
  conv => whnf
  skip
  refine Zar (Weak.fam (L := [jB]) (tl := [(0, .bp jB 0), (1, iv n), (2, ints places), (9, .bp (9, 0, 0) 0)]) (hl := [((1, 7, 0), .row false 22 1 (fun _ => macX (103, 0, 0) m s)), ((103, 0, 0), Zch s.stack), ((942, 0, 0), evB s.events), ((944, 0, 0), regB (topF s).regs), ((9, 0, 0), .row false 5 1 (fun _ => frO (frN m n (Zb6 (topF s) places)) (.rs r0 1 0 (frN m n (Zb6 (topF s) places)).regs.length))), ((905, 0, 0), regB (frN m n (Zb6 (topF s) places)).regs)]) (F := famW s.stack) [((103, 0, 0), some jF)] rfl (fun c hc => ?_) ?_ ?_ ?_ (fun i hi _ => by rw [List.mem_singleton.1 hi]; exact ⟨rfl, rfl⟩)) ?_
  ·rw [List.mem_singleton.1 (show c ∈ [jF] from hc)]; exact .inl rfl
  ·exact .cons (.bp rfl rfl) (.i (.i (.cons (.bp rfl rfl) .nil)))
  ·refine .old rfl rfl (GB.one ?_ (fun e => by cases e)) (.old rfl rfl ?_ (.old rfl rfl (Zd8 _) (.old rfl rfl (Zb0 _) (.old rfl rfl (GB.one (.i (.i (.i (.cons (.rs rfl rfl rfl rfl) (.i .nil))))) (fun e => by cases e)) (.old rfl rfl (Zb0 _) .nil)))))
   rotate_left
   ·show GB _ _ _ (mapKB [(101, 0, 0)] (Zch s.stack)) (Zch s.stack)
    rw [mapKB_eq, map_fr (ρ := killL [(101, 0, 0)]) (fun _ => rfl) rfl]
    refine GB_fr (fun _ _ => rfl) rfl (fun q hq => ?_) rfl
    exact Zcf hq
   exact (.cons (.rs rfl rfl rfl rfl) (.i (.i (.i (.i (.i (.i (.i (.i (.i (.i (.i (.i (.i (.i (.i (.i (.i (.cons (.rs rfl rfl rfl rfl) (.i (.i (.i .nil))))))))))))))))))))))
  ·refine Zfh (fun _ _ => rfl) (fun q hq => ?_)
   refine Zfj (d := [(101, 0, 0)]) (u := oneR (frN m n (Zb6 (topF s) places)).regs) rfl rfl ?_
   exact Za1 hq
  refine Zdv tok mix (by rfl) [0, 1, 2, 3, 4, 5, 6, 9, 10, 11] 30 (by rfl) (by rfl) (by rfl) ?_
  conv => whnf
  repeat' first
   | (refine uA ?_ ?_; rotate_left; (conv => whnf); rotate_right)
   | (guard_target = And _ _; refine @And.intro (gOp _ _ _ _ _ _ _ _ _) _ (by (conv => whnf); exact ⟨rfl, rfl⟩) ?_; conv => whnf)
   | (guard_target = And _ _; refine And.intro ?_ ?_ <;> (conv => whnf))
  all_goals (try ((guard_target = Zac _ _ _ _); refine Zae ?_; (first | refine And.intro (Zfw rfl ?_) ?_ | skip); (all_goals (try simp only [Zac, kZ, kA, kB, mL, Zad] at *)); all_goals omega))
  all_goals skip
  rw [hcm]
  have hg : frN m n (Zb6 (topF s) places) = frN m n (Zb6 (topF s) places) := rfl
  generalize frN m n (Zb6 (topF s) places) = g
  have hlen : (s.stack ++ [g]).length = s.stack.length + 1 := by simp
  have htop : topF { s with stack := s.stack ++ [g] } = g := by
   unfold topF; show (s.stack ++ [g]).getD ((s.stack ++ [g]).length - 1) default = g
   rw [hlen, Zc5, if_neg (by omega), if_pos (by omega)]
  have hold : ∀ q, q < s.stack.length → (s.stack ++ [g]).getD q default = s.stack.getD q default := fun q hq => by rw [Zc5, if_pos hq]
  have hnew : (s.stack ++ [g]).getD s.stack.length default = g := by rw [Zc5, if_neg (by omega), if_pos rfl]
  have hs1 : ∀ q, q < s.stack.length - 1 → srcL [(jF, some (56, 0, 0)), (jT, some r0), ((945, 0, s.stack.length - 1), some jT)] (945, 0, q) = some (945, 0, q) := fun q hq => by
   show (bif idEq (945, 0, s.stack.length - 1) (945, 0, q) then some jT else some (945, 0, q)) = _
   rw [Zbz.2 (fun e => by injection e with _ e; injection e with e _; omega)]; rfl
  have hs2 : srcL [(jF, some (56, 0, 0)), (jT, some r0), ((945, 0, s.stack.length - 1), some jT)] (945, 0, s.stack.length - 1) = some jT := by
   show (bif idEq (945, 0, s.stack.length - 1) (945, 0, s.stack.length - 1) then some jT else some (945, 0, s.stack.length - 1)) = _
   rw [Zaz.2 rfl]; rfl
  refine ⟨_, srcL [(jF, some (56, 0, 0)), (jT, some r0), ((945, 0, s.stack.length - 1), some jT)], rfl, Zfl rfl (fun i hi => ?_), fun j b e => ?_, .tup .nil, fun i hi _ => ?_⟩
  ·rcases List.mem_cons.1 (show i ∈ [(56, 0, 0), r0, jT] from hi) with rfl | hi
   ·exact .inl rfl
   rcases List.mem_cons.1 hi with rfl | hi
   ·exact .inl rfl
   rw [List.mem_singleton.1 hi]; exact .inr (by simp)
  ·rcases Zcc e with ⟨rfl, rfl⟩ | ⟨rfl, rfl⟩ | ⟨rfl, rfl⟩ | ⟨rfl, rfl⟩ | ⟨q, rfl, hq2, rfl⟩
   ·refine HOk.mk rfl rfl (GB.one ?_ (fun e => by cases e))
    refine .cons (.rs rfl rfl rfl hlen.symm) (.i (.i (.i (.i (.i (.i (.i (.i (.i (.i (.i (.i (.i (.i (.i (.i (.i (.cons (.rs rfl rfl rfl rfl) (.i (.i (.i .nil)))))))))))))))))))))
   ·refine HOk.mk rfl rfl ?_
    refine GB.row (Nat.le_of_eq hlen) (fun q hq => ?_) (fun e => by cases e)
    have hq3 : q < s.stack.length + 1 := by rw [← hlen]; exact hq
    show GVs _ _ _ (Zbm (kill (103, 0, 0)) (appR s.stack.length (frC s.stack) (fun i => rowOf 5 (frO g (.rs r0 1 0 g.regs.length)) (0 + i)) q)) (frC (s.stack ++ [g]) q)
    by_cases e1 : q < s.stack.length
    ·have ea : appR s.stack.length (frC s.stack) (fun i => rowOf 5 (frO g (.rs r0 1 0 g.regs.length)) (0 + i)) q = frC s.stack q := by
      unfold appR; rw [show Nat.blt q s.stack.length = true from by rw [Nat.blt_eq]; exact e1]; rfl
     have eb : Zbm (kill (103, 0, 0)) (frC s.stack q) = frC s.stack q := by
      show [_, _, _, Zbn _ (Zbi s.stack q), _] = _
      rw [map_regAV (ρ := kill (103, 0, 0)) (fun _ => rfl) rfl]; rfl
     rw [ea, eb]
     unfold frC
     rw [hold q e1]
     refine .i (.i (.i (.cons ?_ (.i .nil))))
     unfold Zbi
     rw [hold q e1]
     have hq4 : q < (s.stack ++ [g]).length - 1 := by omega
     have hq5 : mem m { s with stack := s.stack ++ [g] } (945, 0, q) = some (regB ((s.stack ++ [g]).getD q default).regs) := Za1 hq4
     by_cases e2 : q < s.stack.length - 1
     ·exact .cc (Zcg e2) (Zcg hq4) (.rs hq5 (hs1 q e2) rfl rfl)
     ·have : q = s.stack.length - 1 := by omega
      subst this
      exact .cc (Zdc (Nat.le_refl _)) (Zcg hq4) (.rs hq5 hs2 rfl rfl)
    ·have : q = s.stack.length := by omega
     subst this
     have ea : appR s.stack.length (frC s.stack) (fun i => rowOf 5 (frO g (.rs r0 1 0 g.regs.length)) (0 + i)) s.stack.length = frO g (.rs r0 1 0 g.regs.length) := by
      unfold appR; rw [show Nat.blt s.stack.length s.stack.length = false from by rw [Bool.eq_false_iff]; intro h; rw [Nat.blt_eq] at h; omega, Nat.sub_self]; rfl
     rw [ea]
     unfold frC
     rw [hnew]
     refine .i (.i (.i (.cons ?_ (.i .nil))))
     unfold Zbi
     rw [hnew]
     exact .cc rfl (Zdc (by omega)) (.rs rfl rfl rfl rfl)
   ·exact HOk.mk rfl rfl (Zd8 _)
   ·refine HOk.mk rfl rfl ?_
    rw [htop]; exact Zb0 _
   ·have hq3 : q < s.stack.length := by have : q < (s.stack ++ [g]).length - 1 := hq2; omega
    show HOk _ _ _ _ (regB ((s.stack ++ [g]).getD q default).regs)
    rw [hold q hq3]
    by_cases e : q < s.stack.length - 1
    ·refine HOk.mk (hs1 q e) (b0 := regB (s.stack.getD q default).regs) ?_ (Zb0 _)
     refine killH_fam (i := (103, 0, 0)) rfl ?_
     exact Za1 e
    ·have : q = s.stack.length - 1 := by omega
     subst this
     exact HOk.mk hs2 rfl (Zb0 (topF s).regs)
  ·rw [List.mem_singleton.1 hi]; exact ⟨rfl, rfl⟩
set_option linter.unusedSimpArgs false
theorem with_len {s : Mach} {g : Zap} (h : 0 < s.stack.length) : (Zbx s g).stack.length = s.stack.length := by simp [Zbx]; omega
theorem with_old {s : Mach} {g : Zap} {q : Nat} (hq : q < s.stack.length - 1) : (Zbx s g).stack.getD q default = s.stack.getD q default := by
 show (s.stack.take (s.stack.length - 1) ++ [g]).getD q default = _
 rw [Zc5, List.length_take, if_pos (by omega), Zbq _ hq]
theorem with_top {s : Mach} {g : Zap} (h : 0 < s.stack.length) : (Zbx s g).stack.getD (s.stack.length - 1) default = g := by
 show (s.stack.take (s.stack.length - 1) ++ [g]).getD (s.stack.length - 1) default = g
 rw [Zc5, List.length_take, if_neg (by omega), if_pos (by omega)]
abbrev srcT (E T : Dv.Id) : Dv.Id → Option Dv.Id := srcL [(jE, some E), (jT, some T)]
theorem leaveG {m : Zai} {s s' : Mach} {g : Zap} {h : Zal} {E T : Dv.Id} {n' : Nat} {F : Nat → List AV} {b0 bE bT : Zam} (hp : 0 < s.stack.length) (hst : s'.stack = (Zbx s g).stack) (hnd : Zcv [E, T] = true)
  (hE : mem m s' E = none ∨ E = jE ∨ E = jT) (hT : mem m s' T = none ∨ T = jE ∨ T = jT) (h1 : h jB = some b0) (hB : GB (srcT E T) h (mem m s') b0 (macB m s')) (h2 : h jF = some (.row false 5 n' F)) (hn : s.stack.length ≤ n') (hF1 : ∀ q, q < s.stack.length - 1 → F q = frC s.stack q)
  (hF2 : F (s.stack.length - 1) = frO g (.rs T 1 0 g.regs.length)) (h3 : h E = some bE) (gE : GB (srcT E T) h (mem m s') bE (evB s'.events)) (h4 : h T = some bT) (gT : GB (srcT E T) h (mem m s') bT (regB g.regs)) (h5 : ∀ q, q < s.stack.length - 1 → h (945, 0, q) = some (regB (s.stack.getD q default).regs)) :
  (∀ j j' i, (mem m s' j).isSome = true → (mem m s' j').isSome = true → srcT E T j = some i → srcT E T j' = some i → j = j') ∧ ∀ j b, mem m s' j = some b → HOk (srcT E T) h (mem m s') j b := by
 have hl : s'.stack.length = s.stack.length := by rw [hst]; exact with_len hp
 have hold : ∀ q, q < s.stack.length - 1 → s'.stack.getD q default = s.stack.getD q default := fun q hq => by rw [hst]; exact with_old hq
 have hnew : s'.stack.getD (s.stack.length - 1) default = g := by rw [hst]; exact with_top hp
 have htop : topF s' = g := by unfold topF; rw [hl]; exact hnew
 refine ⟨Zfl hnd (fun i hi => ?_), fun j b e => ?_⟩
 ·rcases List.mem_cons.1 (show i ∈ [E, T] from hi) with rfl | hi
  ·rcases hE with h | h | h
   ·exact .inl h
   ·exact .inr (by rw [h]; simp)
   ·exact .inr (by rw [h]; simp)
  ·rw [List.mem_singleton.1 hi]
   rcases hT with h | h | h
   ·exact .inl h
   ·exact .inr (by rw [h]; simp)
   ·exact .inr (by rw [h]; simp)
 ·rcases Zcc e with ⟨rfl, rfl⟩ | ⟨rfl, rfl⟩ | ⟨rfl, rfl⟩ | ⟨rfl, rfl⟩ | ⟨q, rfl, hq2, rfl⟩
  ·exact HOk.mk rfl h1 hB
  ·refine HOk.mk rfl h2 ?_
   refine GB.row (by rw [hl]; exact hn) (fun q hq => ?_) (fun e => by cases e)
   rw [hl] at hq
   by_cases e1 : q < s.stack.length - 1
   ·rw [hF1 q e1]
    unfold frC
    rw [hold q e1]
    refine .i (.i (.i (.cons ?_ (.i .nil))))
    unfold Zbi
    rw [hold q e1]
    have hq5 : mem m s' (945, 0, q) = some (regB (s'.stack.getD q default).regs) := Za1 (by rw [hl]; exact e1)
    exact .cc (Zcg e1) (Zcg (by rw [hl]; exact e1)) (.rs hq5 rfl rfl rfl)
   ·have : q = s.stack.length - 1 := by omega
    subst this
    rw [hF2]
    unfold frC
    rw [hnew]
    refine .i (.i (.i (.cons ?_ (.i .nil))))
    unfold Zbi
    rw [hnew]
    exact .cc rfl (Zdc (by rw [hl]; exact Nat.le_refl _)) (.rs rfl rfl rfl rfl)
  ·exact HOk.mk rfl h3 gE
  ·refine HOk.mk rfl h4 ?_
   rw [htop]; exact gT
  ·rw [hl] at hq2
   rw [hold q hq2]
   exact HOk.mk rfl (h5 q hq2) (Zb0 _)
theorem frC_top {l : List Zap} (h : 0 < l.length) : frC l (l.length - 1) = frO (l.getD (l.length - 1) default) (.rs jT 1 0 (l.getD (l.length - 1) default).regs.length) := by
 unfold frC frO Zbi
 rw [Zdc (Nat.le_refl _)]
theorem keepT {m : Zai} {s' : Mach} {E T : Dv.Id} : ∀ i ∈ [jB, jF], Zer i = true → (mem m s' i).isSome = true ∧ srcT E T i = some i := fun i hi _ => by
 rcases List.mem_cons.1 hi with rfl | hi
 ·exact ⟨rfl, rfl⟩
 ·rw [List.mem_singleton.1 hi]; exact ⟨rfl, rfl⟩
theorem stack_top {s : Mach} (h : 0 < s.stack.length) : s.stack = s.stack.take (s.stack.length - 1) ++ [topF s] := by
 have e1 : s.stack.take (s.stack.length - 1 + 1) = s.stack.take (s.stack.length - 1) ++ [s.stack.getD (s.stack.length - 1) default] := by
  rw [List.take_add_one, List.getD_eq_getElem?_getD, List.getElem?_eq_getElem (by omega)]; rfl
 rw [show s.stack.length - 1 + 1 = s.stack.length by omega, List.take_length] at e1
 exact e1
theorem Zdq {m : Zai} {s : Mach} {g : Zap} (h : 0 < s.stack.length) : macC m (Zbx s g) = macC m s := by
 unfold macC; rw [with_len h]; rfl
end Go.Proofs.YtoelbgjpmpoolaaGreat
namespace Go.Proofs.YtoelbgjpmpoolaaGreat
open Go Dv
set_option maxRecDepth 10000
set_option linter.unusedSimpArgs false
set_option maxHeartbeats 4000000 in
theorem c_mIns8 (m : Zai) (s : Mach) (f : Zap) (x : Ins) (hf : topF s = f) (h : 0 < s.stack.length) (hl : s.stack.length ≤ 32) (hat0 : 0 ≤ f.at_) (hat : f.at_ < 1000000) (h1 : 1 ≤ x.op) (h8 : x.op ≤ 8) (hd : 0 ≤ x.dst ∧ x.dst < f.regs.length) (ha : 1 < x.op → 0 ≤ x.a ∧ x.a < f.regs.length) (hb' : 2 < x.op → 0 ≤ x.b ∧ x.b < f.regs.length) :
  HG Tryz.prog [jB, jF] 113 (mem m s) [.bp jB 0, .rp jF 5 (s.stack.length - 1) 0, .agg (Zbe x)] (.bool false) (mem m (insM m s f x)) := by
 refine Za7 tok Tryz.func113 rfl (by decide +kernel) (nB rfl) ?_
 have hmx : mL = 4294967296 := rfl
 have hM : insM m s f x = if (Zdi f x).2 = true then Zbx s (Zdi f x).1 else endM s 3 0 := by
  unfold insM; rw [if_neg (by omega), if_pos h8]
 rw [hM]
 have hR := c_fReckon f x hat0 hat h1 h8 hd ha hb'
 have hle : s.stack.length - 1 < (endM s 3 0).stack.length := by show s.stack.length - 1 < s.stack.length; omega
 have hft : s.stack.getD (s.stack.length - 1) default = f := hf
 (repeat' ((fail_if_success (show Rg 8)); (fail_if_success (show Rg 12)); first | refine Zab ?_ | (refine Zaa tok (by rfl) ?_; conv => whnf) | refine Zah ?_ | refine Zaf rfl (fun hb => ?_) (fun hb => ?_)))
 ·exfalso; simp only [decide_eq_true_eq] at hb; omega
 clear hb
 (repeat' ((fail_if_success (show Rg 13)); (fail_if_success (show Rg 17)); first | refine Zab ?_ | (refine Zaa tok (by rfl) ?_; conv => whnf) | refine Zaf rfl (fun hb => ?_) (fun hb => ?_)))
 ·exfalso; simp only [decide_eq_true_eq] at hb; omega
 clear hb
 (repeat' ((fail_if_success (show Rg 18)); (fail_if_success (show Rg 20)); first | refine Zab ?_ | (refine Zaa tok (by rfl) ?_; conv => whnf) | refine Zaf rfl (fun hb => ?_) (fun hb => ?_)))
 ·exfalso; simp only [decide_eq_true_eq] at hb; omega
 clear hb
 (repeat' ((fail_if_success (show Rg 21)); (fail_if_success (show Rg 22)); first | refine Zab ?_ | (refine Zaa tok (by rfl) ?_; conv => whnf) | refine Zaf rfl (fun hb => ?_) (fun hb => ?_)))
 ·exfalso; simp only [decide_eq_true_eq] at hb; omega
 clear hb
 (repeat' ((fail_if_success (show Rg 23)); (fail_if_success (show Rg 2)); first | refine Zab ?_ | (refine Zaa tok (by rfl) ?_; conv => whnf) | refine Zaf rfl (fun hb => ?_) (fun hb => ?_)))
 ·exfalso; simp only [decide_eq_true_eq] at hb; omega
 clear hb
 have hR' : HF Tryz.prog 156 [.agg (Zby (topF s)), .agg (Zbe x)] (.tup [.agg (frO (Zdi f x).1 (.rs r0 1 0 (Zdi f x).1.regs.length)), .bool (Zdi f x).2]) (oneR (Zdi f x).1.regs) := by rw [hf]; exact hR
 refine Zdv tok mix (by rfl) [0, 1, 2, 3] 30 (by rfl) (by rfl) (by rfl) ?_
 conv => whnf
 repeat' first
  | (refine fAV (x := Zbi s.stack (s.stack.length - 1)) (y := .rs jT 1 0 (topF s).regs.length) (Zbg h rfl) ?_; (conv => whnf))
  | (refine uA ?_ ?_; rotate_left; (conv => whnf); rotate_right)
  | (guard_target = And _ _; refine @And.intro (gOp _ _ _ _ _ _ _ _ _) _ (by (conv => whnf); first | exact ⟨rfl, rfl⟩ | (refine fAV (x := Zbi s.stack (s.stack.length - 1)) (y := .rs jT 1 0 (topF s).regs.length) (Zbg h rfl) ?_; (conv => whnf); exact ⟨rfl, rfl⟩)) ?_; conv => whnf)
  | (guard_target = And _ _; refine And.intro ?_ ?_ <;> (conv => whnf))
 all_goals (try ((guard_target = Zac _ _ _ _); refine Zae ?_; (all_goals (try simp only [Zac, kZ, kA, kB, mL, Zad] at *)); all_goals omega))
 all_goals (try (show AV.agg [_, _, _, Zbi s.stack (s.stack.length - 1), _] = AV.agg [_, _, _, .rs jT 1 0 (topF s).regs.length, _]; rw [Zbg h rfl]; done))
 all_goals refine .inr ⟨_, _, _, uG (QH.lendF (rd := [jT]) hR' (.cons (.agg (.i (.i (.i (.cons (.row rfl (.head _) rfl rfl (fun _ _ => rfl)) (.i .nil)))))) (.i .nil)) (fun i hi => by rw [Zdm hi]; rfl) rfl (fun j b e => by
  have := Zdm (i := j) (by rw [e]; rfl)
  subst this; cases e; exact fun i hi => rfl)), ?_⟩
 all_goals conv => whnf
 all_goals (repeat' first
  | (refine fAV (x := Zbi s.stack (s.stack.length - 1)) (y := .rs jT 1 0 (topF s).regs.length) (Zbg h rfl) ?_; (conv => whnf))
  | (refine uA ?_ ?_; rotate_left; (conv => whnf); rotate_right)
  | (guard_target = And _ _; refine @And.intro (gOp _ _ _ _ _ _ _ _ _) _ (by (conv => whnf); first | exact ⟨rfl, rfl⟩ | (refine fAV (x := Zbi s.stack (s.stack.length - 1)) (y := .rs jT 1 0 (topF s).regs.length) (Zbg h rfl) ?_; (conv => whnf); exact ⟨rfl, rfl⟩)) ?_; conv => whnf)
  | (guard_target = And _ _; refine And.intro ?_ ?_ <;> (conv => whnf)))
 all_goals (try ((guard_target = Zac _ _ _ _); refine Zae ?_; (all_goals (try simp only [Zac, kZ, kA, kB, mL, Zad] at *)); all_goals omega))
 all_goals (try (show AV.agg [_, _, _, Zbi s.stack (s.stack.length - 1), _] = AV.agg [_, _, _, .rs jT 1 0 (topF s).regs.length, _]; rw [Zbg h rfl]; done))
 all_goals
  refine Zar (Weak.fam (L := [jB, jF]) (tl := [(0, .bp jB 0), (1, .rp jF 5 (s.stack.length - 1) 0), (10, .bp (10, 0, 0) 0), (11, .bool (Zdi f x).2)]) (hl := [((10, 0, 0), .row false 5 1 (fun _ => frO (Zdi f x).1 (.rs r0 1 0 (Zdi f x).1.regs.length))), ((905, 0, 0), regB (Zdi f x).1.regs)] ++ memL m s) (F := famW s.stack) [] rfl (fun c hc => by cases hc) ?_ ?_ ?_ (fun i hi _ => ?_)) ?_
  ·exact .cons (.bp rfl rfl) (.cons (.rp rfl rfl rfl) (.cons (.bp rfl rfl) (.i .nil)))
  ·refine .old rfl rfl (GB.one (.i (.i (.i (.cons (.rs rfl rfl rfl rfl) (.i .nil))))) (fun e => by cases e)) (.old rfl rfl (Zb0 _) ?_)
   exact Zcs rfl rfl rfl rfl (fun _ => rfl) rfl rfl rfl rfl rfl rfl rfl (fun q hq => Zcf hq)
  ·refine Zfh (fun _ _ => rfl) (fun q hq => ?_)
   refine Zfj (d := []) (u := oneR (Zdi f x).1.regs) rfl rfl ?_
   exact Za1 hq
  ·rcases List.mem_cons.1 hi with rfl | hi
   ·exact ⟨rfl, rfl⟩
   ·rw [List.mem_singleton.1 hi]; exact ⟨rfl, rfl⟩
  (repeat' ((fail_if_success (show Rg 4)); (fail_if_success (show Rg 5)); first | refine Zab ?_ | (refine Zaa tok (by rfl) ?_; conv => whnf) | (refine Zag ?_; conv => whnf) | refine Zaf rfl (fun hb => ?_) (fun hb => ?_)))
  ·have hv : ¬ (Zdi f x).2 = true := by simpa using hb
   clear hb
   have hv1 : (Zdi f x).1 = f := by
    unfold Zdi at hv ⊢
    split
    ·rename_i h; rw [if_pos h] at hv; exact absurd rfl hv
    ·rfl
   rw [if_neg hv]
   (repeat' (refine Zaa tok (by rfl) ?_; conv => whnf))
   refine .inr ⟨_, _, _, uG (QH.tnM (by simp) (by simp) (c_mEnd m s 3 0) hl (Za3 rfl rfl rfl rfl (fun _ => rfl)) rfl (fun q hq => Zan hq)), ?_⟩
   conv => whnf
   ((repeat' first | refine Zab ?_ | (refine Zaa tok (by rfl) ?_; conv => whnf) | (refine Zak ?_; conv => whnf) | (refine uA ?_ ?_; rotate_left; (conv => whnf); rotate_right)); all_goals (try ((guard_target = Zac _ _ _ _); refine Zae ?_; (all_goals (try simp only [Zac, kZ, kA, kB, mL, Zad] at *)); all_goals omega)))
   refine ⟨_, srcT jE r0, rfl, ?_⟩
   rw [← and_assoc]
   refine ⟨leaveG (s := s) (g := (Zdi f x).1) (n' := s.stack.length) h ?_ rfl (.inr (.inl rfl)) (.inl rfl) rfl (Zez (s := endM s 3 0) rfl rfl rfl rfl rfl) rfl (Nat.le_refl _) (fun q hq => ?_) ?_ rfl (Zd8 _) rfl ?_ (fun q hq => ?_), .bool rfl, keepT⟩
   ·show s.stack = s.stack.take (s.stack.length - 1) ++ [(Zdi f x).1]
    rw [hv1, ← hf]; exact stack_top h
   ·exact Zct (by omega)
   ·exact Zds
   ·exact Zb0 _
   ·exact Za9 (s := endM s 3 0) hq
  ·have hv : (Zdi f x).2 = true := by simpa using hb
   clear hb
   rw [if_pos hv]
   ((repeat' first | refine Zab ?_ | (refine Zaa tok (by rfl) ?_; conv => whnf) | (refine Zak ?_; conv => whnf) | (refine uA ?_ ?_; rotate_left; (conv => whnf); rotate_right)); all_goals (try ((guard_target = Zac _ _ _ _); refine Zae ?_; (all_goals (try simp only [Zac, kZ, kA, kB, mL, Zad] at *)); all_goals omega)))
   refine ⟨_, srcT jE r0, rfl, ?_⟩
   rw [← and_assoc]
   refine ⟨leaveG (s := s) (g := (Zdi f x).1) (n' := s.stack.length) h rfl rfl (.inr (.inl rfl)) (.inl rfl) rfl ?_ rfl (Nat.le_refl _) (fun q hq => ?_) ?_ rfl (Zd8 _) rfl (Zb0 _) (fun q hq => ?_), .bool rfl, keepT⟩
   ·exact Zez (s := Zbx s (Zdi f x).1) (Zdq h).symm rfl rfl rfl rfl
   ·exact Zct (by omega)
   ·exact Zds
   ·exact Za1 hq
end Go.Proofs.YtoelbgjpmpoolaaGreat
namespace Go.Proofs.YtoelbgjpmpoolaaGreat
open Go Dv
set_option maxRecDepth 10000
set_option linter.unusedSimpArgs false
theorem cells22 {src : Dv.Id → Option Dv.Id} {h h' : Zal} {m : Zai} {s : Mach} {F F' : Dv.Id} (hF : (h' F').isSome = true) (sF : src F' = some F) (hE : (h' jE).isSome = true) (sE : src jE = some jE) : GVs src h h' (macX F m s) (macX F' m s) := by
 cases e1 : h' F' with
 | none => rw [e1] at hF; cases hF
 | some b1 =>
  cases e2 : h' jE with
  | none => rw [e2] at hE; cases hE
  | some b2 =>
   exact (.cons (.rs e1 sF rfl rfl) (.i (.i (.i (.i (.i (.i (.i (.i (.i (.i (.i (.i (.i (.i (.i (.i (.i (.cons (.rs e2 sE rfl rfl) (.i (.i (.i .nil))))))))))))))))))))))
theorem renN {m : Zai} {s s' : Mach} {f : FuncId} {args : List AV} {r : AV} (h : HG Tryz.prog [jB] f (mem m s) args r (mem m s')) (ha : GVs (srcL [(jF, some jN)]) (memN m s) (mem m s) args args) : HG Tryz.prog [jB] f (memN m s) args r (mem m s') := by
 refine h.ren (srcL [(jF, some jN)]) (Zfl rfl (fun i hi => ?_)) (fun j b e => ?_) ha (fun i hi _ => by rw [List.mem_singleton.1 hi]; exact ⟨rfl, rfl⟩)
 ·rw [List.mem_singleton.1 (show i ∈ [jN] from hi)]; exact .inl rfl
 ·rcases Zcc e with ⟨rfl, rfl⟩ | ⟨rfl, rfl⟩ | ⟨rfl, rfl⟩ | ⟨rfl, rfl⟩ | ⟨q, rfl, hq2, rfl⟩
  ·exact HOk.mk rfl rfl (GB.one (cells22 rfl rfl rfl rfl) (fun e => by cases e))
  ·exact HOk.mk rfl rfl (GB_fr (fun _ _ => rfl) rfl (fun q hq => by rw [Zef, Za1 hq]; rfl) rfl)
  ·exact HOk.mk rfl rfl (Zd8 _)
  ·exact HOk.mk rfl rfl (Zb0 _)
  ·exact HOk.mk rfl (Za1 (l := s.stack) hq2) (Zb0 _)
theorem memN_sub {m : Zai} {s : Mach} {h : Zal} (h1 : h jB = some (.row false 22 1 (fun _ => macX jN m s))) (h2 : h jN = some (Zch s.stack)) (h3 : h jE = some (evB s.events)) (h4 : h jT = some (regB (topF s).regs)) (h5 : ∀ q, h (945, 0, q) = famW s.stack (945, 0, q)) :
  ∀ j b, memN m s j = some b → h j = some b := fun j b e => by
 rcases memN_some e with ⟨rfl, rfl⟩ | ⟨rfl, rfl⟩ | ⟨rfl, rfl⟩ | ⟨rfl, rfl⟩ | ⟨q, rfl, hq, rfl⟩
 ·exact h1
 ·exact h2
 ·exact h3
 ·exact h4
 ·rw [h5 q, Za1 hq]
abbrev memNL (m : Zai) (s : Mach) : List (Dv.Id × Zam) := [(jB, .row false 22 1 (fun _ => macX jN m s)), (jN, Zch s.stack), (jE, evB s.events), (jT, regB (topF s).regs)]
theorem HLs_memN {src : Dv.Id → Option Dv.Id} {m : Zai} {s : Mach} {h h' : Zal} {imm : Bool} {f : Nat → List AV} (sB : src jB = some jB) (sF : src jN = some jF) (sE : src jE = some jE) (sT : src jT = some jT) (sW : ∀ q, src (945, 0, q) = some (945, 0, q)) (h1 : h jB = some (.row imm 22 1 f)) (hf : f 0 = macC m s) (h2 : h jF = some (Zch s.stack)) (h3 : h jE = some (evB s.events)) (h4 : h jT = some (regB (topF s).regs))
  (k2 : (h' jN).isSome = true) (k3 : (h' jE).isSome = true) (k4 : (h' jT).isSome = true) (k5 : ∀ q, q < s.stack.length - 1 → (h' (945, 0, q)).isSome = true) : HLs src h h' (memNL m s) :=
 .old sB h1 (GB.one (by rw [hf]; exact cells22 (F := jF) k2 sF k3 sE) (fun e => by cases e)) (.old sF h2 (GB_fr (fun q _ => sW q) sT k5 k4) (.old sE h3 (Zd8 _) (.old sT h4 (Zb0 _) .nil)))
set_option maxHeartbeats 4000000 in
theorem c_mIns11 (m : Zai) (s : Mach) (x : Ins) (p : Nat) (ho : x.op = 11) (h32 : s.stack.length ≤ 32) (hc : HG Tryz.prog [jB] 116 (mem m s) [.bp jB 0, iv x.f, ints x.args] (.tup []) (mem m (Zb2 m s x.f x.args))) :
  HG Tryz.prog [jB] 113 (mem m s) [.bp jB 0, .rp jF 5 p 0, .agg (Zbe x)] (.bool false) (mem m (Zb2 m s x.f x.args)) := by
 refine Za7 tok Tryz.func113 rfl (by decide +kernel) (nB rfl) ?_
 have hmx : mL = 4294967296 := rfl
 have hc' := renN hc (.cons (.bp rfl rfl) (.i (.i .nil)))
 (repeat' ((fail_if_success (show Rg 8)); (fail_if_success (show Rg 12)); first | refine Zab ?_ | (refine Zaa tok (by rfl) ?_; conv => whnf) | refine Zah ?_ | refine Zaf rfl (fun hb => ?_) (fun hb => ?_)))
 ·exfalso; simp only [decide_eq_true_eq] at hb; omega
 clear hb
 (repeat' ((fail_if_success (show Rg 13)); (fail_if_success (show Rg 17)); first | refine Zab ?_ | (refine Zaa tok (by rfl) ?_; conv => whnf) | refine Zaf rfl (fun hb => ?_) (fun hb => ?_)))
 ·exfalso; simp only [decide_eq_true_eq] at hb; omega
 clear hb
 (repeat' ((fail_if_success (show Rg 18)); (fail_if_success (show Rg 20)); first | refine Zab ?_ | (refine Zaa tok (by rfl) ?_; conv => whnf) | refine Zaf rfl (fun hb => ?_) (fun hb => ?_)))
 ·clear hb
  refine Zar (Weak.fam (L := [jB]) (tl := [(0, .bp jB 0), (5, .bp (5, 0, 0) 0)]) (hl := [((5, 0, 0), Za2 (Zbe x))] ++ memNL m s) (F := famW s.stack) [(jN, some jF)] rfl (fun c hc => ?_) ?_ ?_ ?_ (fun i hi _ => by rw [List.mem_singleton.1 hi]; exact ⟨rfl, rfl⟩)) ?_
  ·rw [List.mem_singleton.1 (show c ∈ [jF] from hc)]; exact .inl rfl
  ·exact .cons (.bp rfl rfl) (.cons (.bp rfl rfl) .nil)
  ·refine .old rfl rfl (GB.one (GVs.imm rfl) (fun _ => rfl)) ?_
   exact HLs_memN rfl rfl rfl rfl (fun _ => rfl) rfl rfl rfl rfl rfl rfl rfl rfl (fun q hq => Zcf hq)
  ·refine Zfh (fun _ _ => rfl) (fun q hq => ?_)
   exact Za1 hq
  (repeat' (refine Zaa tok (by rfl) ?_; conv => whnf))
  refine .inr ⟨_, _, _, uG (QH.ddM (by simp) hc' h32 (memN_sub rfl rfl rfl rfl (fun _ => rfl)) rfl rfl (fun q hq => Zan hq)), ?_⟩
  conv => whnf
  (repeat' first | refine Zab ?_ | (refine Zaa tok (by rfl) ?_; conv => whnf) | (refine Zak ?_; conv => whnf))
  refine ⟨_, srcL [], rfl, ?_⟩
  rw [← and_assoc]
  refine ⟨Zd1 (s := Zb2 m s x.f x.args) rfl rfl rfl (Zcm rfl rfl rfl) rfl rfl rfl (fun q hq => Za9 hq), .bool rfl, fun i hi _ => ?_⟩
  rw [List.mem_singleton.1 hi]; exact ⟨rfl, rfl⟩
 ·exfalso; simp only [decide_eq_false_iff_not] at hb; omega
end Go.Proofs.YtoelbgjpmpoolaaGreat
namespace Go.Proofs.YtoelbgjpmpoolaaGreat
open Go Dv
set_option maxRecDepth 10000
set_option linter.unusedSimpArgs false
set_option maxHeartbeats 4000000 in
theorem c_mIns12 (m : Zai) (s : Mach) (x : Ins) (ho : x.op = 12) (h : 0 < s.stack.length) (ha : 0 ≤ x.a ∧ x.a < (topF s).regs.length) (he : s.events.length < 1000000) :
  HG Tryz.prog [jB, jF] 113 (mem m s) [.bp jB 0, .rp jF 5 (s.stack.length - 1) 0, .agg (Zbe x)] (.bool true) (mem m (evM s ((topF s).regs.getD x.a.toNat 0))) := by
 refine Za7 tok Tryz.func113 rfl (by decide +kernel) (nB rfl) ?_
 have hmx : mL = 4294967296 := rfl
 (repeat' ((fail_if_success (show Rg 8)); (fail_if_success (show Rg 12)); first | refine Zab ?_ | (refine Zaa tok (by rfl) ?_; conv => whnf) | refine Zah ?_ | refine Zaf rfl (fun hb => ?_) (fun hb => ?_)))
 ·exfalso; simp only [decide_eq_true_eq] at hb; omega
 clear hb
 (repeat' ((fail_if_success (show Rg 13)); (fail_if_success (show Rg 17)); first | refine Zab ?_ | (refine Zaa tok (by rfl) ?_; conv => whnf) | refine Zaf rfl (fun hb => ?_) (fun hb => ?_)))
 ·exfalso; simp only [decide_eq_true_eq] at hb; omega
 clear hb
 (repeat' ((fail_if_success (show Rg 18)); (fail_if_success (show Rg 20)); first | refine Zab ?_ | (refine Zaa tok (by rfl) ?_; conv => whnf) | refine Zaf rfl (fun hb => ?_) (fun hb => ?_)))
 ·exfalso; simp only [decide_eq_true_eq] at hb; omega
 clear hb
 (repeat' ((fail_if_success (show Rg 21)); (fail_if_success (show Rg 22)); first | refine Zab ?_ | (refine Zaa tok (by rfl) ?_; conv => whnf) | refine Zaf rfl (fun hb => ?_) (fun hb => ?_)))
 ·clear hb
  refine Zdv tok mix (by rfl) [0, 1, 2, 3, 4, 5, 6, 7, 8, 9, 10, 11, 12, 13, 17, 18, 19] 30 (by rfl) (by rfl) (by rfl) ?_
  conv => whnf
  all_goals (repeat' first
   | (refine fAV (x := Zbi s.stack (s.stack.length - 1)) (y := .rs jT 1 0 (topF s).regs.length) (Zbg h rfl) ?_; (conv => whnf))
   | (refine uA ?_ ?_; rotate_left; (conv => whnf); rotate_right)
   | (guard_target = And _ _; refine @And.intro (gOp _ _ _ _ _ _ _ _ _) _ (by (conv => whnf); first | exact ⟨rfl, rfl⟩ | (refine fAV (x := Zbi s.stack (s.stack.length - 1)) (y := .rs jT 1 0 (topF s).regs.length) (Zbg h rfl) ?_; (conv => whnf); exact ⟨rfl, rfl⟩)) ?_; conv => whnf)
   | (guard_target = And _ _; refine And.intro ?_ ?_ <;> (conv => whnf)))
  all_goals (try ((guard_target = Zac _ _ _ _); refine Zae ?_; (first | refine And.intro (Zfw rfl ?_) ?_ | skip); (all_goals (try simp only [Zac, kZ, kA, kB, mL, Zad] at *)); all_goals omega))
  all_goals (try (show gval none (Zbi s.stack (s.stack.length - 1)) = AV.rs jT 1 0 (topF s).regs.length; rw [Zbg h rfl]; rfl))
  all_goals (try (show gval none (Zbn (kill jE) (Zbi s.stack (s.stack.length - 1))) = AV.rs jT 1 0 (topF s).regs.length; rw [map_regAV (ρ := kill jE) (fun _ => rfl) rfl, Zbg h rfl]; rfl))
  all_goals (try rfl)
  refine Zaw 100 (fun hl => ?_)
  have hreg : 0 ≤ (topF s).regs.getD (0 + x.a.toNat) 0 ∧ (topF s).regs.getD (0 + x.a.toNat) 0 ≤ 65535 := hl
  clear hl
  rw [Nat.zero_add] at hreg
  (repeat' first | refine Zab ?_ | (refine Zaa tok (by rfl) ?_; conv => whnf) | (refine Zak ?_; conv => whnf))
  refine ⟨_, srcT (103, 0, 0) jT, rfl, ?_⟩
  rw [← and_assoc]
  refine ⟨leaveG (s := s) (g := topF s) (n' := s.stack.length) (F := frC s.stack) h (stack_top h) rfl (.inl rfl) (.inr (.inr rfl)) rfl (GB.one ?_ (fun e => by cases e)) ?_ (Nat.le_refl _) (fun q hq => rfl) (frC_top h) rfl (GB.rowI (Nat.le_of_eq ?_) (fun z hz => ?_)) rfl (Zb0 _) (fun q hq => ?_), .bool rfl, keepT⟩
  ·refine (.cons (.rs rfl rfl rfl rfl) (.i (.i (.i (.i (.i (.i (.i (.i (.i (.i (.i (.i (.i (.i (.i (.i (.i (.cons (.rs rfl rfl rfl ?_) (.i (.i (.i .nil))))))))))))))))))))))
   show s.events.length + 1 = (s.events ++ [_]).length
   simp
  ·exact (congrArg (Option.map (Dv.mapB (kill jE))) (rfl : some (Zch s.stack) = some (Zch s.stack))).trans (by rw [Option.map_some, map_fr (ρ := kill jE) (fun _ => rfl) rfl]; rfl)
  ·show (s.events ++ [_]).length = s.events.length + 1
   simp
  ·have hz2 : z < s.events.length + 1 := by
    have : z < (s.events ++ [(topF s).regs.getD x.a.toNat 0]).length := hz
    simpa using this
   have e := appI (v := (topF s).regs.getD x.a.toNat 0) (F := fun i => [iv (s.events.getD i 0)]) rfl hz2 (show IntKind.i64.wrap ((topF s).regs.getD (0 + x.a.toNat) 0) = _ by rw [Nat.zero_add]; exact wrap64 (by omega) (by omega)) (fun i hi => rfl)
   simp only [allB, Zcy, Bool.true_and, Bool.and_true, Bool.and_self, cond_true]
   exact ⟨by rw [show appR s.events.length (fun i => [iv (s.events.getD i 0)]) _ z = _ from e]; rfl, e⟩
  ·refine killH_fam (i := jE) rfl ?_
   exact Za1 hq
 ·exfalso; simp only [decide_eq_false_iff_not] at hb; omega
end Go.Proofs.YtoelbgjpmpoolaaGreat
namespace Go.Proofs.YtoelbgjpmpoolaaGreat
open Go Dv
set_option maxRecDepth 10000
set_option linter.unusedSimpArgs false
theorem frO_W (f : Zap) (d w : Int) (T : Dv.Id) : frO f (.rs T 1 0 f.regs.length) = frO (frW f d w) (.rs T 1 0 (frW f d w).regs.length) := by
 rw [show (frW f d w).regs.length = f.regs.length by simp [frW]]; rfl
theorem keepE {hl : List (Dv.Id × Zam)} {F : Zal} {E : Dv.Id} (hB : (orH (Zay hl) F jB).isSome = true := by rfl) (hF : (orH (Zay hl) F jF).isSome = true := by rfl) : ∀ i ∈ [jB, jF], Zer i = true → (orH (Zay hl) F i).isSome = true ∧ srcL [(jE, some E)] i = some i := fun i hi _ => by
 rcases List.mem_cons.1 hi with rfl | hi
 ·exact ⟨hB, rfl⟩
 ·rw [List.mem_singleton.1 hi]; exact ⟨hF, rfl⟩
set_option maxHeartbeats 4000000 in
theorem c_mIns13a (m : Zai) (s : Mach) (x : Ins) (ho : x.op = 13) (h32 : s.stack.length ≤ 32) (hz : s.inputs.length = 0) :
  HG Tryz.prog [jB, jF] 113 (mem m s) [.bp jB 0, .rp jF 5 (s.stack.length - 1) 0, .agg (Zbe x)] (.bool false) (mem m (endM s 6 0)) := by
 refine Za7 tok Tryz.func113 rfl (by decide +kernel) (nB rfl) ?_
 have hmx : mL = 4294967296 := rfl
 (repeat' ((fail_if_success (show Rg 8)); (fail_if_success (show Rg 12)); first | refine Zab ?_ | (refine Zaa tok (by rfl) ?_; conv => whnf) | refine Zah ?_ | refine Zaf rfl (fun hb => ?_) (fun hb => ?_)))
 ·exfalso; simp only [decide_eq_true_eq] at hb; omega
 clear hb
 (repeat' ((fail_if_success (show Rg 13)); (fail_if_success (show Rg 17)); first | refine Zab ?_ | (refine Zaa tok (by rfl) ?_; conv => whnf) | refine Zaf rfl (fun hb => ?_) (fun hb => ?_)))
 ·exfalso; simp only [decide_eq_true_eq] at hb; omega
 clear hb
 (repeat' ((fail_if_success (show Rg 18)); (fail_if_success (show Rg 20)); first | refine Zab ?_ | (refine Zaa tok (by rfl) ?_; conv => whnf) | refine Zaf rfl (fun hb => ?_) (fun hb => ?_)))
 ·exfalso; simp only [decide_eq_true_eq] at hb; omega
 clear hb
 (repeat' ((fail_if_success (show Rg 21)); (fail_if_success (show Rg 22)); first | refine Zab ?_ | (refine Zaa tok (by rfl) ?_; conv => whnf) | refine Zaf rfl (fun hb => ?_) (fun hb => ?_)))
 ·exfalso; simp only [decide_eq_true_eq] at hb; omega
 clear hb
 (repeat' ((fail_if_success (show Rg 23)); (fail_if_success (show Rg 2)); first | refine Zab ?_ | (refine Zaa tok (by rfl) ?_; conv => whnf) | refine Zaf rfl (fun hb => ?_) (fun hb => ?_)))
 ·clear hb
  (repeat' ((fail_if_success (show Rg 24)); (fail_if_success (show Rg 26)); first | refine Zab ?_ | (refine Zaa tok (by rfl) ?_; conv => whnf) | (refine Zag ?_; conv => whnf) | refine Zaf rfl (fun hb => ?_) (fun hb => ?_)))
  ·(repeat' (refine Zaa tok (by rfl) ?_; conv => whnf))
   refine .inr ⟨_, _, _, uG (QH.tnM (by simp) (by simp) (c_mEnd m s 6 0) h32 (Za3 rfl rfl rfl rfl (fun _ => rfl)) rfl (fun q hq => Zan hq)), ?_⟩
   conv => whnf
   (repeat' first | refine Zab ?_ | (refine Zaa tok (by rfl) ?_; conv => whnf) | (refine Zak ?_; conv => whnf))
   refine ⟨_, srcL [], rfl, ?_⟩
   rw [← and_assoc]
   exact ⟨Zd1 (s := endM s 6 0) rfl rfl rfl (Zcm rfl rfl rfl) rfl rfl rfl (fun q hq => Za9 hq), .bool rfl, Zc4⟩
  ·exfalso; rw [hz] at hb; cases hb
 ·exfalso; simp only [decide_eq_false_iff_not] at hb; omega
set_option maxHeartbeats 4000000 in
theorem c_mIns13b (m : Zai) (s : Mach) (x : Ins) (ho : x.op = 13) (h : 0 < s.stack.length) (hz : ¬ s.inputs.length = 0) (hi : s.inputs.length < 1000000) (hd : 0 ≤ x.dst ∧ x.dst < (topF s).regs.length) (he : s.events.length < 1000000) :
  HG Tryz.prog [jB, jF] 113 (mem m s) [.bp jB 0, .rp jF 5 (s.stack.length - 1) 0, .agg (Zbe x)] (.bool true) (mem m (Zbx (inM s) (frW (topF s) x.dst (s.inputs.getD 0 0)))) := by
 refine Za7 tok Tryz.func113 rfl (by decide +kernel) (nB rfl) ?_
 have hmx : mL = 4294967296 := rfl
 (repeat' ((fail_if_success (show Rg 8)); (fail_if_success (show Rg 12)); first | refine Zab ?_ | (refine Zaa tok (by rfl) ?_; conv => whnf) | refine Zah ?_ | refine Zaf rfl (fun hb => ?_) (fun hb => ?_)))
 ·exfalso; simp only [decide_eq_true_eq] at hb; omega
 clear hb
 (repeat' ((fail_if_success (show Rg 13)); (fail_if_success (show Rg 17)); first | refine Zab ?_ | (refine Zaa tok (by rfl) ?_; conv => whnf) | refine Zaf rfl (fun hb => ?_) (fun hb => ?_)))
 ·exfalso; simp only [decide_eq_true_eq] at hb; omega
 clear hb
 (repeat' ((fail_if_success (show Rg 18)); (fail_if_success (show Rg 20)); first | refine Zab ?_ | (refine Zaa tok (by rfl) ?_; conv => whnf) | refine Zaf rfl (fun hb => ?_) (fun hb => ?_)))
 ·exfalso; simp only [decide_eq_true_eq] at hb; omega
 clear hb
 (repeat' ((fail_if_success (show Rg 21)); (fail_if_success (show Rg 22)); first | refine Zab ?_ | (refine Zaa tok (by rfl) ?_; conv => whnf) | refine Zaf rfl (fun hb => ?_) (fun hb => ?_)))
 ·exfalso; simp only [decide_eq_true_eq] at hb; omega
 clear hb
 (repeat' ((fail_if_success (show Rg 23)); (fail_if_success (show Rg 2)); first | refine Zab ?_ | (refine Zaa tok (by rfl) ?_; conv => whnf) | refine Zaf rfl (fun hb => ?_) (fun hb => ?_)))
 ·clear hb
  (repeat' ((fail_if_success (show Rg 24)); (fail_if_success (show Rg 26)); first | refine Zab ?_ | (refine Zaa tok (by rfl) ?_; conv => whnf) | (refine Zag ?_; conv => whnf) | refine Zaf rfl (fun hb => ?_) (fun hb => ?_)))
  ·exfalso; simp only [decide_eq_true_eq] at hb; omega
  clear hb
  ((repeat' ((fail_if_success (show Rg 27)); first | refine Zab ?_ | (refine Zaa tok (by rfl) ?_; conv => whnf) | (refine uA ?_ ?_; rotate_left; (conv => whnf); rotate_right))); all_goals (try ((guard_target = Zac _ _ _ _); refine Zae ?_; (all_goals (try simp only [Zac, kZ, kA, kB, mL, Zad] at *)); all_goals omega)))
  refine Zaw 9 (fun hl => ?_)
  have hreg : 0 ≤ s.inputs.getD (Int.toNat 0) 0 ∧ s.inputs.getD (Int.toNat 0) 0 ≤ 65535 := hl
  clear hl
  have hreg : 0 ≤ s.inputs.getD 0 0 ∧ s.inputs.getD 0 0 ≤ 65535 := hreg
  ((repeat' ((fail_if_success (show Rg 29)); first | refine Zab ?_ | (refine Zaa tok (by rfl) ?_; conv => whnf) | (refine uA ?_ ?_; rotate_left; (conv => whnf); rotate_right))); all_goals (try ((guard_target = Zac _ _ _ _); refine Zae ?_; (first | refine And.intro (Zfw rfl ?_) ?_ | skip); (all_goals (try simp only [Zac, kZ, kA, kB, mL, Zad] at *)); all_goals omega)))
  refine Zar (Weak.fam (L := [jB, jF]) (tl := [(0, .bp jB 0), (1, .rp jF 5 (s.stack.length - 1) 0), (5, .bp (5, 0, 0) 0), (9, .int .u16 (s.inputs.getD 0 0))]) (hl := [((5, 0, 0), Za2 (Zbe x))] ++ memL m (inM s)) (F := famW s.stack) [(jE, some (145, 0, 0))] rfl (fun c hc => ?_) ?_ ?_ ?_ keepE) ?_
  ·rw [List.mem_singleton.1 (show c ∈ [(145, 0, 0)] from hc)]; exact .inl rfl
  ·exact .cons (.bp rfl rfl) (.cons (.rp rfl rfl rfl) (.cons (.bp rfl rfl) (.i .nil)))
  ·refine .old rfl rfl (GB.one (GVs.imm rfl) (fun _ => rfl)) (.old rfl rfl (GB.one ?_ (fun e => by cases e)) (.old (b0 := Zch s.stack) rfl ?_ ?_ (.old rfl rfl (GB.rowI (Nat.le_of_eq ?_) (fun z hz => ?_)) (.old rfl rfl (Zb0 _) .nil))))
   ·refine (.cons (.rs rfl rfl rfl rfl) (.i (.i (.i (.i (.i (.i (.i (.i (.i (.i (.i (.i (.i (.i (.i (.i (.cons (.wk rfl (wk_drop hz ?_ (fun i => rfl))) (.cons (.rs rfl rfl rfl ?_) (.i (.i (.i .nil))))))))))))))))))))))
    ·simp
    ·show s.events.length + 1 = (s.events ++ [_]).length
     simp
   ·exact (congrArg (Option.map (Dv.mapB (kill jE))) (rfl : some (Zch s.stack) = some (Zch s.stack))).trans (by rw [Option.map_some, map_fr (ρ := kill jE) (fun _ => rfl) rfl])
   ·refine GB_fr (l := s.stack) (fun _ _ => rfl) rfl (fun q hq => ?_) rfl
    exact Zcf hq
   ·show (s.events ++ [_]).length = s.events.length + 1
    simp
   ·have hz2 : z < s.events.length + 1 := by
     have : z < (s.events ++ [s.inputs.getD 0 0 + 65536]).length := hz
     simpa using this
    have e := appI (v := s.inputs.getD 0 0 + 65536) (F := fun i => [iv (s.events.getD i 0)]) rfl hz2 (show IntKind.i64.wrap (IntKind.i64.wrap (s.inputs.getD (Int.toNat 0) 0) + 65536) = _ by
     show IntKind.i64.wrap (IntKind.i64.wrap (s.inputs.getD 0 0) + 65536) = _
     rw [wrap64 (x := s.inputs.getD 0 0) (by omega) (by omega), wrap64 (by omega) (by omega)]) (fun i hi => rfl)
    simp only [allB, Zcy, Bool.true_and, Bool.and_true, Bool.and_self, cond_true]
    exact ⟨by rw [show appR s.events.length (fun i => [iv (s.events.getD i 0)]) _ z = _ from e]; rfl, e⟩
  ·refine Zfh (fun _ _ => rfl) (fun q hq => ?_)
   refine killH_fam (i := jE) rfl ?_
   exact Za1 hq
  have hzz : x.dst.toNat < (topF s).regs.length := by omega
  have hft : (topF (inM s)) = topF s := rfl
  have hle : s.stack.length - 1 < (inM s).stack.length := by show s.stack.length - 1 < s.stack.length; omega
  have hdd : x.dst.toNat < (topF (inM s)).regs.length := hzz
  ((repeat' first | (refine Zas tok mix (by rfl) ?_; conv => whnf) | (refine uA ?_ ?_; rotate_left; (conv => whnf); rotate_right)); all_goals (try ((guard_target = Zac _ _ _ _); refine Zae ?_; (all_goals (try simp only [Zac, kZ, kA, kB, mL, Zad] at *)); all_goals omega)))
  refine fAV (x := Zbi s.stack (s.stack.length - 1)) (y := .rs jT 1 0 (topF s).regs.length) (Zbg h rfl) ?_
  conv => whnf
  ((repeat' first | refine Zab ?_ | (refine Zaa tok (by rfl) ?_; conv => whnf) | (refine Zak ?_; conv => whnf) | (refine uA ?_ ?_; rotate_left; (conv => whnf); rotate_right)); all_goals (try ((guard_target = Zac _ _ _ _); refine Zae ?_; (all_goals (try simp only [Zac, kZ, kA, kB, mL, Zad] at *)); all_goals omega)))
  refine ⟨_, srcT jE jT, rfl, ?_⟩
  rw [← and_assoc]
  refine ⟨leaveG (s := inM s) (g := frW (topF s) x.dst (s.inputs.getD 0 0)) (n' := s.stack.length) (F := frC s.stack) h rfl rfl (.inr (.inl rfl)) (.inr (.inr rfl)) rfl ?_ rfl (Nat.le_refl _) (fun q hq => rfl) ((frC_top h).trans (frO_W _ _ _ _)) rfl (Zd8 _) rfl (GB.rowI (Nat.le_of_eq (by simp [frW]; rfl)) (fun q hq => ⟨?_, ?_⟩)) (fun q hq => ?_), .bool rfl, keepT⟩
  ·exact Zez (s := Zbx (inM s) (frW (topF s) x.dst (s.inputs.getD 0 0))) (Zdq (s := inM s) h).symm rfl rfl rfl rfl
  ·rw [Nat.zero_add, rowSet (l := (topF (inM s)).regs) hzz]; rfl
  ·rw [Nat.zero_add]; exact rowSet (l := (topF s).regs) hzz
  ·exact Za1 hq
 ·exfalso; simp only [decide_eq_false_iff_not] at hb; omega
set_option linter.unusedSimpArgs false
theorem c_mCellN (m : Zai) (s : Mach) (n : Int) (h32 : s.stack.length ≤ 32) (h : 16 ≤ n) : HG Tryz.prog LW 154 (mem m s) [.bp jB 0, .int .u16 n] .np (mem m (endM s 4 0)) := by
 refine Za7 tok Tryz.func154 rfl (by decide +kernel) (nB rfl) ?_
 refine Zaw 1 (fun hl => ?_)
 have hreg : 0 ≤ n ∧ n ≤ 65535 := hl
 clear hl
 have hw : IntKind.i64.wrap n = n := wrap64 (by omega) (by omega)
 (repeat' ((fail_if_success (show Rg 2)); (fail_if_success (show Rg 4)); first | refine Zab ?_ | (refine Zaa tok (by rfl) ?_; conv => whnf) | (refine Zag ?_; conv => whnf) | refine Zaf rfl (fun hb => ?_) (fun hb => ?_)))
 ·(repeat' (refine Zaa tok (by rfl) ?_; conv => whnf))
  refine .inr ⟨_, _, _, uG (QH.tnM (by simp) (by simp) (c_mEnd m s 4 0) h32 (Za3 rfl rfl rfl rfl (fun _ => rfl)) rfl (fun q hq => Zan hq)), ?_⟩
  conv => whnf
  (repeat' first | refine Zab ?_ | (refine Zaa tok (by rfl) ?_; conv => whnf) | (refine Zak ?_; conv => whnf))
  refine ⟨_, srcL [], rfl, ?_⟩
  rw [← and_assoc]
  exact ⟨Zd1 (s := endM s 4 0) rfl rfl rfl (Zcm rfl rfl rfl) rfl rfl rfl (fun q hq => Za9 hq), .imm rfl, Zc4⟩
 ·exfalso; rw [hw] at hb; simp only [decide_eq_false_iff_not] at hb; omega
theorem c_mCellY (m : Zai) (s : Mach) (n : Int) (hn : n < 16) : HG Tryz.prog LW 154 (mem m s) [.bp jB 0, .int .u16 n] (.bp jB (1 + n.toNat)) (mem m s) := by
 refine Za7 tok Tryz.func154 rfl (by decide +kernel) (nB rfl) ?_
 refine Zaw 1 (fun hl => ?_)
 have hreg : 0 ≤ n ∧ n ≤ 65535 := hl
 clear hl
 have hw : IntKind.i64.wrap n = n := wrap64 (by omega) (by omega)
 (repeat' ((fail_if_success (show Rg 2)); (fail_if_success (show Rg 4)); first | refine Zab ?_ | (refine Zaa tok (by rfl) ?_; conv => whnf) | (refine Zag ?_; conv => whnf) | refine Zaf rfl (fun hb => ?_) (fun hb => ?_)))
 ·exfalso; rw [hw] at hb; simp only [decide_eq_true_eq] at hb; omega
 clear hb
 ((repeat' first | (refine Zaa tok (by rfl) ?_; conv => whnf) | (refine Zak ?_; conv => whnf) | (refine uA ?_ ?_; rotate_left; (conv => whnf); rotate_right)); all_goals (try ((guard_target = Zac _ _ _ _); refine Zae ?_; all_goals omega)))
 refine ⟨_, srcL [], rfl, ?_⟩
 rw [← and_assoc]
 refine ⟨Zd1 rfl rfl rfl (Zcm rfl rfl rfl) rfl rfl rfl (fun q hq => Za1 hq), .cc ?_ rfl (.bp rfl rfl), Zc4⟩
 show AV.bp jB (0 + 0 + 1 + n.toNat * 1) = AV.bp jB (1 + n.toNat)
 rw [Nat.mul_one]
end Go.Proofs.YtoelbgjpmpoolaaGreat
namespace Go.Proofs.YtoelbgjpmpoolaaGreat
open Go Dv
set_option maxRecDepth 10000
set_option linter.unusedSimpArgs false
set_option maxHeartbeats 4000000 in
theorem c_mIns9n (m : Zai) (s : Mach) (x : Ins) (ho : x.op = 9) (h : 0 < s.stack.length) (h32 : s.stack.length ≤ 32) (ha : 0 ≤ x.a ∧ x.a < (topF s).regs.length) (h16 : 16 ≤ (topF s).regs.getD x.a.toNat 0) :
  HG Tryz.prog [jB, jF] 113 (mem m s) [.bp jB 0, .rp jF 5 (s.stack.length - 1) 0, .agg (Zbe x)] (.bool false) (mem m (endM s 4 0)) := by
 refine Za7 tok Tryz.func113 rfl (by decide +kernel) (nB rfl) ?_
 have hmx : mL = 4294967296 := rfl
 have hC : ∀ y, y = (topF s).regs.getD x.a.toNat 0 → HG Tryz.prog LW 154 (mem m s) [.bp jB 0, .int .u16 y] .np (mem m (endM s 4 0)) := fun y e => by rw [e]; exact c_mCellN m s _ h32 h16
 (repeat' ((fail_if_success (show Rg 8)); (fail_if_success (show Rg 12)); first | refine Zab ?_ | (refine Zaa tok (by rfl) ?_; conv => whnf) | refine Zah ?_ | refine Zaf rfl (fun hb => ?_) (fun hb => ?_)))
 ·clear hb
  ((repeat' first | (refine Zas tok mix (by rfl) ?_; conv => whnf) | (refine uA ?_ ?_; rotate_left; (conv => whnf); rotate_right)); all_goals (try ((guard_target = Zac _ _ _ _); refine Zae ?_; (all_goals (try simp only [Zac, kZ, kA, kB, mL, Zad] at *)); all_goals omega)))
  refine fAV (x := Zbi s.stack (s.stack.length - 1)) (y := .rs jT 1 0 (topF s).regs.length) (Zbg h rfl) ?_
  conv => whnf
  ((repeat' (refine uA ?_ ?_; rotate_left; (conv => whnf); rotate_right)); all_goals (try ((guard_target = Zac _ _ _ _); refine Zae ?_; (all_goals (try simp only [Zac, kZ, kA, kB, mL, Zad] at *)); all_goals omega)))
  refine .inr ⟨_, _, _, uG (QH.tnM (by simp) (by simp) (hC _ (by rw [Nat.zero_add])) h32 (Za3 rfl rfl rfl rfl (fun _ => rfl)) rfl (fun q hq => Zan hq)), ?_⟩
  conv => whnf
  (repeat' ((fail_if_success (show Rg 9)); refine Zab ?_))
  refine AWp_hand tok [_] _ [] rfl (by rfl) (by rfl) rfl ?_
  conv => whnf
  intro X ι a w s0
  refine ⟨⟨.bool true, .none, []⟩, ptrNil_ok s0 rfl Tryz.underlying187 rfl (.inl ⟨rfl, rfl⟩), rfl, ?_⟩
  conv => whnf
  (repeat' ((fail_if_success (show Rg 10)); (fail_if_success (show Rg 11)); first | refine Zab ?_ | (refine Zag ?_; conv => whnf) | refine Zaf rfl (fun hb => ?_) (fun hb => ?_)))
  all_goals (try (exfalso; cases hb; done))
  clear hb
  (repeat' first | (refine Zaa tok (by rfl) ?_; conv => whnf) | (refine Zak ?_; conv => whnf))
  refine ⟨_, srcL [], rfl, ?_⟩
  rw [← and_assoc]
  exact ⟨Zd1 (s := endM s 4 0) rfl rfl rfl (Zcm rfl rfl rfl) rfl rfl rfl (fun q hq => Za9 hq), .bool rfl, Zc4⟩
 ·exfalso; simp only [decide_eq_false_iff_not] at hb; omega
set_option maxHeartbeats 4000000 in
theorem c_mIns9y (m : Zai) (s : Mach) (x : Ins) (k : Nat) (ho : x.op = 9) (h : 0 < s.stack.length) (h32 : s.stack.length ≤ 32) (ha : 0 ≤ x.a ∧ x.a < (topF s).regs.length) (hd : 0 ≤ x.dst ∧ x.dst < (topF s).regs.length) (hv : (topF s).regs.getD x.a.toNat 0 < 16) (hk : ((topF s).regs.getD x.a.toNat 0).toNat = k) :
  HG Tryz.prog [jB, jF] 113 (mem m s) [.bp jB 0, .rp jF 5 (s.stack.length - 1) 0, .agg (Zbe x)] (.bool true) (mem m (Zbx s (frW (topF s) x.dst (s.cells.getD k 0)))) := by
 refine Za7 tok Tryz.func113 rfl (by decide +kernel) (nB rfl) ?_
 have hmx : mL = 4294967296 := rfl
 have hC : ∀ y, y = (topF s).regs.getD x.a.toNat 0 → HG Tryz.prog LW 154 (mem m s) [.bp jB 0, .int .u16 y] (.bp jB (1 + k)) (mem m s) := fun y e => by rw [e, ← hk]; exact c_mCellY m s _ hv
 (repeat' ((fail_if_success (show Rg 8)); (fail_if_success (show Rg 12)); first | refine Zab ?_ | (refine Zaa tok (by rfl) ?_; conv => whnf) | refine Zah ?_ | refine Zaf rfl (fun hb => ?_) (fun hb => ?_)))
 ·clear hb
  ((repeat' first | (refine Zas tok mix (by rfl) ?_; conv => whnf) | (refine uA ?_ ?_; rotate_left; (conv => whnf); rotate_right)); all_goals (try ((guard_target = Zac _ _ _ _); refine Zae ?_; (all_goals (try simp only [Zac, kZ, kA, kB, mL, Zad] at *)); all_goals omega)))
  refine fAV (x := Zbi s.stack (s.stack.length - 1)) (y := .rs jT 1 0 (topF s).regs.length) (Zbg h rfl) ?_
  conv => whnf
  ((repeat' (refine uA ?_ ?_; rotate_left; (conv => whnf); rotate_right)); all_goals (try ((guard_target = Zac _ _ _ _); refine Zae ?_; (all_goals (try simp only [Zac, kZ, kA, kB, mL, Zad] at *)); all_goals omega)))
  refine .inr ⟨_, _, _, uG (QH.tnM (by simp) (by simp) (hC _ (by rw [Nat.zero_add])) h32 (Za3 rfl rfl rfl rfl (fun _ => rfl)) rfl (fun q hq => Zan hq)), ?_⟩
  conv => whnf
  (repeat' ((fail_if_success (show Rg 9)); refine Zab ?_))
  refine AWp_hand tok [_] _ [] rfl (by rfl) (by rfl) rfl ?_
  conv => whnf
  intro X ι a w s0
  refine ⟨⟨.bool false, .none, []⟩, ptrNil_ok s0 rfl Tryz.underlying187 rfl (.inr ⟨⟨_, _, rfl⟩, rfl⟩), rfl, ?_⟩
  conv => whnf
  (repeat' ((fail_if_success (show Rg 10)); (fail_if_success (show Rg 11)); first | refine Zab ?_ | (refine Zag ?_; conv => whnf) | refine Zaf rfl (fun hb => ?_) (fun hb => ?_)))
  all_goals (try (exfalso; cases hb; done))
  clear hb
  have hzz : x.dst.toNat < (topF s).regs.length := by omega
  have hk16 : k = 0 ∨ k = 1 ∨ k = 2 ∨ k = 3 ∨ k = 4 ∨ k = 5 ∨ k = 6 ∨ k = 7 ∨ k = 8 ∨ k = 9 ∨ k = 10 ∨ k = 11 ∨ k = 12 ∨ k = 13 ∨ k = 14 ∨ k = 15 := by omega
  clear hC hk
  rcases hk16 with rfl | rfl | rfl | rfl | rfl | rfl | rfl | rfl | rfl | rfl | rfl | rfl | rfl | rfl | rfl | rfl
  all_goals
   ((repeat' first | (refine Zas tok mix (by rfl) ?_; conv => whnf) | (refine uA ?_ ?_; rotate_left; (conv => whnf); rotate_right)); all_goals (try ((guard_target = Zac _ _ _ _); refine Zae ?_; (all_goals (try simp only [Zac, kZ, kA, kB, mL, Zad] at *)); all_goals omega)))
   refine fAV (x := Zbi s.stack (s.stack.length - 1)) (y := .rs jT 1 0 (topF s).regs.length) (Zbg h rfl) ?_
   conv => whnf
   ((repeat' first | refine Zab ?_ | (refine Zaa tok (by rfl) ?_; conv => whnf) | (refine Zak ?_; conv => whnf) | (refine uA ?_ ?_; rotate_left; (conv => whnf); rotate_right)); all_goals (try ((guard_target = Zac _ _ _ _); refine Zae ?_; (all_goals (try simp only [Zac, kZ, kA, kB, mL, Zad] at *)); all_goals omega)))
   refine ⟨_, srcT jE jT, rfl, ?_⟩
   rw [← and_assoc]
   refine ⟨leaveG (s := s) (g := frW (topF s) x.dst (s.cells.getD _ 0)) (n' := s.stack.length) (F := frC s.stack) h rfl rfl (.inr (.inl rfl)) (.inr (.inr rfl)) rfl ?_ rfl (Nat.le_refl _) (fun q hq => rfl) ((frC_top h).trans (frO_W _ _ _ _)) rfl (Zd8 _) rfl (GB.rowI (Nat.le_of_eq (by simp [frW])) (fun q hq => ⟨?_, ?_⟩)) (fun q hq => ?_), .bool rfl, keepT⟩
   ·exact Zez (s := Zbx s (frW (topF s) x.dst (s.cells.getD _ 0))) (Zdq (s := s) h).symm rfl rfl rfl rfl
   ·rw [Nat.zero_add, rowSet (l := (topF s).regs) hzz]; rfl
   ·rw [Nat.zero_add]; exact rowSet (l := (topF s).regs) hzz
   ·exact Za9 hq
 ·exfalso; simp only [decide_eq_false_iff_not] at hb; omega
set_option maxHeartbeats 4000000 in
theorem c_mIns10n (m : Zai) (s : Mach) (x : Ins) (ho : x.op = 10) (h : 0 < s.stack.length) (h32 : s.stack.length ≤ 32) (ha : 0 ≤ x.a ∧ x.a < (topF s).regs.length) (h16 : 16 ≤ (topF s).regs.getD x.a.toNat 0) :
  HG Tryz.prog [jB, jF] 113 (mem m s) [.bp jB 0, .rp jF 5 (s.stack.length - 1) 0, .agg (Zbe x)] (.bool false) (mem m (endM s 4 0)) := by
 refine Za7 tok Tryz.func113 rfl (by decide +kernel) (nB rfl) ?_
 have hmx : mL = 4294967296 := rfl
 have hC : ∀ y, y = (topF s).regs.getD x.a.toNat 0 → HG Tryz.prog LW 154 (mem m s) [.bp jB 0, .int .u16 y] .np (mem m (endM s 4 0)) := fun y e => by rw [e]; exact c_mCellN m s _ h32 h16
 (repeat' ((fail_if_success (show Rg 8)); (fail_if_success (show Rg 12)); first | refine Zab ?_ | (refine Zaa tok (by rfl) ?_; conv => whnf) | refine Zah ?_ | refine Zaf rfl (fun hb => ?_) (fun hb => ?_)))
 ·exfalso; simp only [decide_eq_true_eq] at hb; omega
 clear hb
 (repeat' ((fail_if_success (show Rg 13)); (fail_if_success (show Rg 17)); first | refine Zab ?_ | (refine Zaa tok (by rfl) ?_; conv => whnf) | refine Zaf rfl (fun hb => ?_) (fun hb => ?_)))
 ·clear hb
  ((repeat' first | (refine Zas tok mix (by rfl) ?_; conv => whnf) | (refine uA ?_ ?_; rotate_left; (conv => whnf); rotate_right)); all_goals (try ((guard_target = Zac _ _ _ _); refine Zae ?_; (all_goals (try simp only [Zac, kZ, kA, kB, mL, Zad] at *)); all_goals omega)))
  refine fAV (x := Zbi s.stack (s.stack.length - 1)) (y := .rs jT 1 0 (topF s).regs.length) (Zbg h rfl) ?_
  conv => whnf
  ((repeat' (refine uA ?_ ?_; rotate_left; (conv => whnf); rotate_right)); all_goals (try ((guard_target = Zac _ _ _ _); refine Zae ?_; (all_goals (try simp only [Zac, kZ, kA, kB, mL, Zad] at *)); all_goals omega)))
  refine .inr ⟨_, _, _, uG (QH.tnM (by simp) (by simp) (hC _ (by rw [Nat.zero_add])) h32 (Za3 rfl rfl rfl rfl (fun _ => rfl)) rfl (fun q hq => Zan hq)), ?_⟩
  conv => whnf
  (repeat' ((fail_if_success (show Rg 14)); refine Zab ?_))
  refine AWp_hand tok [_] _ [] rfl (by rfl) (by rfl) rfl ?_
  conv => whnf
  intro X ι a w s0
  refine ⟨⟨.bool true, .none, []⟩, ptrNil_ok s0 rfl Tryz.underlying187 rfl (.inl ⟨rfl, rfl⟩), rfl, ?_⟩
  conv => whnf
  (repeat' ((fail_if_success (show Rg 15)); (fail_if_success (show Rg 16)); first | refine Zab ?_ | (refine Zag ?_; conv => whnf) | refine Zaf rfl (fun hb => ?_) (fun hb => ?_)))
  all_goals (try (exfalso; cases hb; done))
  clear hb
  (repeat' first | (refine Zaa tok (by rfl) ?_; conv => whnf) | (refine Zak ?_; conv => whnf))
  refine ⟨_, srcL [], rfl, ?_⟩
  rw [← and_assoc]
  exact ⟨Zd1 (s := endM s 4 0) rfl rfl rfl (Zcm rfl rfl rfl) rfl rfl rfl (fun q hq => Za9 hq), .bool rfl, Zc4⟩
 ·exfalso; simp only [decide_eq_false_iff_not] at hb; omega
set_option maxHeartbeats 4000000 in
theorem c_mIns10y (m : Zai) (s : Mach) (x : Ins) (k : Nat) (ho : x.op = 10) (h : 0 < s.stack.length) (h32 : s.stack.length ≤ 32) (ha : 0 ≤ x.a ∧ x.a < (topF s).regs.length) (hd : 0 ≤ x.b ∧ x.b < (topF s).regs.length) (hcl : s.cells.length = 16) (hv : (topF s).regs.getD x.a.toNat 0 < 16) (hk : ((topF s).regs.getD x.a.toNat 0).toNat = k) :
  HG Tryz.prog [jB, jF] 113 (mem m s) [.bp jB 0, .rp jF 5 (s.stack.length - 1) 0, .agg (Zbe x)] (.bool true) (mem m (stM s k ((topF s).regs.getD x.b.toNat 0))) := by
 refine Za7 tok Tryz.func113 rfl (by decide +kernel) (nB rfl) ?_
 have hmx : mL = 4294967296 := rfl
 have hC : ∀ y, y = (topF s).regs.getD x.a.toNat 0 → HG Tryz.prog LW 154 (mem m s) [.bp jB 0, .int .u16 y] (.bp jB (1 + k)) (mem m s) := fun y e => by rw [e, ← hk]; exact c_mCellY m s _ hv
 (repeat' ((fail_if_success (show Rg 8)); (fail_if_success (show Rg 12)); first | refine Zab ?_ | (refine Zaa tok (by rfl) ?_; conv => whnf) | refine Zah ?_ | refine Zaf rfl (fun hb => ?_) (fun hb => ?_)))
 ·exfalso; simp only [decide_eq_true_eq] at hb; omega
 clear hb
 (repeat' ((fail_if_success (show Rg 13)); (fail_if_success (show Rg 17)); first | refine Zab ?_ | (refine Zaa tok (by rfl) ?_; conv => whnf) | refine Zaf rfl (fun hb => ?_) (fun hb => ?_)))
 ·clear hb
  ((repeat' first | (refine Zas tok mix (by rfl) ?_; conv => whnf) | (refine uA ?_ ?_; rotate_left; (conv => whnf); rotate_right)); all_goals (try ((guard_target = Zac _ _ _ _); refine Zae ?_; (all_goals (try simp only [Zac, kZ, kA, kB, mL, Zad] at *)); all_goals omega)))
  refine fAV (x := Zbi s.stack (s.stack.length - 1)) (y := .rs jT 1 0 (topF s).regs.length) (Zbg h rfl) ?_
  conv => whnf
  ((repeat' (refine uA ?_ ?_; rotate_left; (conv => whnf); rotate_right)); all_goals (try ((guard_target = Zac _ _ _ _); refine Zae ?_; (all_goals (try simp only [Zac, kZ, kA, kB, mL, Zad] at *)); all_goals omega)))
  refine .inr ⟨_, _, _, uG (QH.tnM (by simp) (by simp) (hC _ (by rw [Nat.zero_add])) h32 (Za3 rfl rfl rfl rfl (fun _ => rfl)) rfl (fun q hq => Zan hq)), ?_⟩
  conv => whnf
  (repeat' ((fail_if_success (show Rg 14)); refine Zab ?_))
  refine AWp_hand tok [_] _ [] rfl (by rfl) (by rfl) rfl ?_
  conv => whnf
  intro X ι a w s0
  refine ⟨⟨.bool false, .none, []⟩, ptrNil_ok s0 rfl Tryz.underlying187 rfl (.inr ⟨⟨_, _, rfl⟩, rfl⟩), rfl, ?_⟩
  conv => whnf
  (repeat' ((fail_if_success (show Rg 15)); (fail_if_success (show Rg 16)); first | refine Zab ?_ | (refine Zag ?_; conv => whnf) | refine Zaf rfl (fun hb => ?_) (fun hb => ?_)))
  all_goals (try (exfalso; cases hb; done))
  clear hb
  have hzz : x.b.toNat < (topF s).regs.length := by omega
  have hk16 : k = 0 ∨ k = 1 ∨ k = 2 ∨ k = 3 ∨ k = 4 ∨ k = 5 ∨ k = 6 ∨ k = 7 ∨ k = 8 ∨ k = 9 ∨ k = 10 ∨ k = 11 ∨ k = 12 ∨ k = 13 ∨ k = 14 ∨ k = 15 := by omega
  clear hC hk
  rcases hk16 with rfl | rfl | rfl | rfl | rfl | rfl | rfl | rfl | rfl | rfl | rfl | rfl | rfl | rfl | rfl | rfl
  all_goals
   ((repeat' first | (refine Zas tok mix (by rfl) ?_; conv => whnf) | (refine uA ?_ ?_; rotate_left; (conv => whnf); rotate_right)); all_goals (try ((guard_target = Zac _ _ _ _); refine Zae ?_; (all_goals (try simp only [Zac, kZ, kA, kB, mL, Zad] at *)); all_goals omega)))
   refine fAV (x := Zbi s.stack (s.stack.length - 1)) (y := .rs jT 1 0 (topF s).regs.length) (Zbg h rfl) ?_
   conv => whnf
   ((repeat' first | refine Zab ?_ | (refine Zaa tok (by rfl) ?_; conv => whnf) | (refine Zak ?_; conv => whnf) | (refine uA ?_ ?_; rotate_left; (conv => whnf); rotate_right)); all_goals (try ((guard_target = Zac _ _ _ _); refine Zae ?_; (all_goals (try simp only [Zac, kZ, kA, kB, mL, Zad] at *)); all_goals omega)))
   refine ⟨_, srcL [], rfl, ?_⟩
   rw [← and_assoc]
   refine ⟨Zd1 (s := stM s _ ((topF s).regs.getD x.b.toNat 0)) rfl rfl rfl (GB.one ?_ (fun e => by cases e)) rfl rfl rfl (fun q hq => Za9 hq), .bool rfl, Zc4⟩
   show GVs _ _ _ _ (macC m (stM s _ ((topF s).regs.getD x.b.toNat 0)))
   refine .cons (.rs rfl rfl rfl rfl) ?_
   repeat' first | refine GVs.cons (.wk rfl (wkc (by decide))) ?_ | refine GVs.cons (.wk rfl (by rw [Nat.zero_add]; exact wks (by omega))) ?_ | refine GVs.cons (.imm rfl) ?_ | refine GVs.cons (.rs rfl rfl rfl rfl) ?_ | exact .nil
 ·exfalso; simp only [decide_eq_false_iff_not] at hb; omega
end Go.Proofs.YtoelbgjpmpoolaaGreat
namespace Go.Proofs.YtoelbgjpmpoolaaGreat
open Go Dv
set_option maxRecDepth 10000
set_option linter.unusedSimpArgs false
theorem LW_keepL {tl : List (Dv.Id × Zam)} {F : Zal} (hB : (orH (Zay tl) F jB).isSome = true := by rfl) (hF : (orH (Zay tl) F jF).isSome = true := by rfl) : ∀ i ∈ LW, Zer i = true → (orH (Zay tl) F i).isSome = true ∧ srcL [] i = some i := fun i hi _ => by
 rcases List.mem_cons.1 hi with rfl | hi
 ·exact ⟨hB, rfl⟩
 ·rw [List.mem_singleton.1 hi]; exact ⟨hF, rfl⟩
theorem big_far {m : Zai} {p : Mach} {h : Zal} {q : Nat} (hp : p.stack.length ≤ 32) (hq : 32 ≤ q) (hh : h (945, 0, q) = none) : bigH dK (mem m p) h (945, 0, q) = none := by
 unfold bigH
 rw [Zef, Zan (by omega), hh]
 cases memI (945, 0, q) dK <;> rfl
theorem Zbw {m : Zai} {p : Mach} {h : Zal} {q : Nat} (hh : 32 ≤ q → h (945, 0, q) = none) : bigH dK (mem m p) h (945, 0, q) = famW p.stack (945, 0, q) := by
 unfold bigH
 rw [Zef]
 cases e : famW p.stack (945, 0, q) with
 | some b => rfl
 | none =>
  by_cases hq : q < 32
  ·rw [show memI (945, 0, q) dK = true from Zb9.2 (List.mem_cons_of_mem _ (List.mem_cons_of_mem _ (Zg0.2 ⟨q, hq, rfl⟩)))]; rfl
  ·rw [hh (by omega)]; cases memI (945, 0, q) dK <;> rfl
set_option maxHeartbeats 4000000 in
theorem c_mAns1 (m : Zai) (s : Mach) (w : Int) (h1 : s.stack.length = 1) :
  HG Tryz.prog LW 114 (mem m s) [.bp jB 0, .int .u16 w] (.tup []) (mem m (endM (popM s) 1 w)) := by
 refine Za7 tok Tryz.func114 rfl (by decide +kernel) (nB rfl) ?_
 have hmx : mL = 4294967296 := rfl
 have hpl := Zcq (s := s)
 (repeat' ((fail_if_success (show Rg 1)); first | refine Zab ?_ | (refine Zaa tok (by rfl) ?_; conv => whnf)))
 refine .inr ⟨_, _, _, uG (QH.tnM (by simp) (by simp) (c_mPop m s (by omega) (by omega)) (by omega) (Za3 rfl rfl rfl rfl (fun _ => rfl)) rfl (fun q hq => Zan hq)), ?_⟩
 conv => whnf
 (repeat' ((fail_if_success (show Rg 2)); (fail_if_success (show Rg 3)); first | refine Zab ?_ | (refine Zaa tok (by rfl) ?_; conv => whnf) | (refine Zag ?_; conv => whnf) | refine Zaf rfl (fun hb => ?_) (fun hb => ?_)))
 ·(repeat' (refine Zaa tok (by rfl) ?_; conv => whnf))
  refine .inr ⟨_, _, _, uG (QH.tnM (by simp) (by simp) (c_mEnd m (popM s) 1 w) (by omega) (Za3 rfl rfl rfl rfl (fun q => Zbw (fun hq => Zan (by omega)))) rfl (fun q hq => (Zbw (fun hq => Zan (by omega))).trans (Zan hq))), ?_⟩
  conv => whnf
  (repeat' (refine Zak ?_; conv => whnf))
  refine ⟨_, srcL [], rfl, ?_⟩
  rw [← and_assoc]
  exact ⟨Zd1 (s := endM (popM s) 1 w) rfl rfl rfl (Zcm rfl rfl rfl) rfl rfl rfl (fun q hq => Za9 hq), .tup .nil, Zc4⟩
 ·exfalso; rw [hpl, h1] at hb; cases hb
set_option maxHeartbeats 4000000 in
theorem c_mAns2 (m : Zai) (s p : Mach) (f : Zap) (w d : Int) (hp : popM s = p) (hf : topF p = f) (h2 : 1 < s.stack.length) (h32 : s.stack.length ≤ 32) (hF : OkF m f) (hn : endB m f = false) (hdd : ((Zao m f).ins.getD f.at_.toNat default).dst = d) (hd : 0 ≤ d ∧ d < f.regs.length) (hat : f.at_ < 1000000) :
  HG Tryz.prog LW 114 (mem m s) [.bp jB 0, .int .u16 w] (.tup []) (mem m (Zbx p { frW f d w with at_ := f.at_ + 1 })) := by
 refine Za7 tok Tryz.func114 rfl (by decide +kernel) (nB rfl) ?_
 have hmx : mL = 4294967296 := rfl
 have hpl : p.stack.length = s.stack.length - 1 := by rw [← hp]; exact Zcq
 have hP := c_mPop m s (by omega) (by omega)
 rw [hp] at hP
 have hft : p.stack.getD (p.stack.length - 1) default = f := hf
 have hB : HG Tryz.prog LW 112 (mem m p) [.bp jB 0, .rp jF 5 (p.stack.length - 1) 0] (.agg (Za5 (Zao m f))) (mem m p) := by
  have := Zdu m p (p.stack.length - 1) (by omega) (by rw [hft]; exact hF)
  rw [hft] at this; exact this
 have hE : ¬ f.at_ = (Zao m f).ins.length := fun e => by
  have : endB m f = true := decide_eq_true e
  rw [hn] at this; cases this
 have hgen : ∃ b, Zao m f = b := ⟨_, rfl⟩
 obtain ⟨b, hbe⟩ := hgen
 have a0 := hF.a0
 have a1 := hF.a1
 rw [hbe] at hB hE hdd a1
 have hp0 : 0 < p.stack.length := by omega
 (repeat' ((fail_if_success (show Rg 1)); first | refine Zab ?_ | (refine Zaa tok (by rfl) ?_; conv => whnf)))
 refine .inr ⟨_, _, _, uG (QH.tnM (by simp) (by simp) hP (by omega) (Za3 rfl rfl rfl rfl (fun _ => rfl)) rfl (fun q hq => Zan hq)), ?_⟩
 conv => whnf
 (repeat' ((fail_if_success (show Rg 2)); (fail_if_success (show Rg 3)); first | refine Zab ?_ | (refine Zaa tok (by rfl) ?_; conv => whnf) | (refine Zag ?_; conv => whnf) | refine Zaf rfl (fun hb => ?_) (fun hb => ?_)))
 ·exfalso; simp only [decide_eq_true_eq] at hb; omega
 clear hb
 (repeat' ((fail_if_success (show Rg 4)); (refine Zaa tok (by rfl) ?_; conv => whnf)))
 refine .inr ⟨_, _, _, uG (QH.tnM (by simp) (by simp) (Zf7 m p hp0 (by omega)) (by omega) (Za3 rfl rfl rfl rfl (fun q => Zbw (fun hq => Zan (by omega)))) rfl (fun q hq => (Zbw (fun hq => Zan (by omega))).trans (Zan hq))), ?_⟩
 conv => whnf
 (repeat' ((fail_if_success (show Rg 5)); first | refine Zab ?_ | (refine Zaa tok (by rfl) ?_; conv => whnf)))
 refine .inr ⟨_, _, _, uG (QH.tnM (by simp) (by simp) hB (by omega) (Za3 rfl rfl rfl rfl (fun q => Zbw (fun hq => big_far (by omega) hq (Zan (by omega))))) rfl (fun q hq => (Zbw (fun hq => big_far (by omega) hq (Zan (by omega)))).trans (Zan hq))), ?_⟩
 conv => whnf
 ((repeat' ((fail_if_success (show Rg 6)); (fail_if_success (show Rg 8)); first | refine Zab ?_ | (refine Zas tok mix (by rfl) ?_; conv => whnf) | (refine Zag ?_; conv => whnf) | refine Zaf rfl (fun hb => ?_) (fun hb => ?_) | (refine uA ?_ ?_; rotate_left; (conv => whnf); rotate_right))); all_goals (try ((guard_target = Zac _ _ _ _); refine Zae ?_; (all_goals (try simp only [Zac, kZ, kA, kB, mL, Zad] at *)); all_goals omega)))
 ·clear hb
  refine Zar (Weak.fam (L := LW) (tl := [(0, .bp jB 0), (1, .int .u16 w), (4, .rp jF 5 (p.stack.length - 1) 0), (5, .bp (5, 0, 0) 0)]) (hl := [((5, 0, 0), Za2 (Za5 b))] ++ memL m p) (F := famW p.stack) [] rfl (fun c hc => by cases hc) ?_ ?_ ?_ LW_keepL) ?_
  ·exact .cons (.bp rfl rfl) (.i (.cons (.rp rfl rfl rfl) (.cons (.bp rfl rfl) .nil)))
  ·exact .old rfl rfl (GB.one (GVs.imm rfl) (fun _ => rfl)) (Zcs rfl rfl rfl rfl (fun _ => rfl) rfl rfl rfl rfl rfl rfl rfl (fun q hq => Zcf hq))
  ·exact Zfh (fun _ _ => rfl) (fun q hq => Za9 hq)
  have hle : p.stack.length - 1 < p.stack.length := by omega
  have hzz : d.toNat < (p.stack.getD (p.stack.length - 1) default).regs.length := by rw [hft]; omega
  have hat1 : (p.stack.getD (p.stack.length - 1) default).at_.toNat < b.ins.length := by rw [hft]; omega
  have hat0 : 0 ≤ (p.stack.getD (p.stack.length - 1) default).at_ := by rw [hft]; omega
  have hdl : 0 ≤ (b.ins.getD (p.stack.getD (p.stack.length - 1) default).at_.toNat default).dst ∧ (b.ins.getD (p.stack.getD (p.stack.length - 1) default).at_.toNat default).dst.toNat < (topF p).regs.length := by rw [hft, hdd, hf]; omega
  ((repeat' first | (refine Zas tok mix (by rfl) ?_; conv => whnf) | (refine uA ?_ ?_; rotate_left; (conv => whnf); rotate_right)); all_goals (try ((guard_target = Zac _ _ _ _); refine Zae ?_; (all_goals (try simp only [Zac, kZ, kA, kB, mL, Zad] at *)); all_goals omega)))
  refine fAV (x := Zbi p.stack (p.stack.length - 1)) (y := .rs jT 1 0 (topF p).regs.length) (Zbg hp0 rfl) ?_
  conv => whnf
  ((repeat' first | refine Zab ?_ | (refine Zaa tok (by rfl) ?_; conv => whnf) | (refine uA ?_ ?_; rotate_left; (conv => whnf); rotate_right)); all_goals (try ((guard_target = Zac _ _ _ _); refine Zae ?_; (all_goals (try simp only [Zac, kZ, kA, kB, mL, Zad] at *)); all_goals omega)))
  refine fAV (x := Zbi p.stack (p.stack.length - 1)) (y := .rs jT 1 0 (topF p).regs.length) (Zbg hp0 rfl) ?_
  conv => whnf
  (repeat' (refine Zak ?_; conv => whnf))
  refine ⟨_, srcT jE jT, rfl, ?_⟩
  rw [← and_assoc]
  refine ⟨leaveG (s := p) (g := { frW f d w with at_ := f.at_ + 1 }) (n' := p.stack.length) hp0 rfl rfl (.inr (.inl rfl)) (.inr (.inr rfl)) rfl ?_ rfl (Nat.le_refl _) (fun q hq => ?_) ?_ rfl (Zd8 _) rfl (GB.rowI (Nat.le_of_eq (by simp [frW, hf])) (fun q hq => ⟨?_, ?_⟩)) (fun q hq => ?_), .tup .nil, keepT⟩
  ·exact Zez (s := Zbx p { frW f d w with at_ := f.at_ + 1 }) (Zdq (s := p) hp0).symm rfl rfl rfl rfl
  ·exact Zct (by omega)
  ·refine Zds.trans ?_
   rw [hft, hf, wrap64 (by omega) (by omega)]
   simp [frO, frW]
  ·rw [Nat.zero_add, hft, hdd, rowSet (l := (topF p).regs) (by rw [hf]; omega)]; rfl
  ·rw [Nat.zero_add, hft, hdd, rowSet (l := (topF p).regs) (by rw [hf]; omega), hf]; rfl
  ·exact Za1 hq
 ·exfalso
  rw [hft] at hb
  simp only [decide_eq_false_iff_not] at hb
  omega
end Go.Proofs.YtoelbgjpmpoolaaGreat
namespace Go.Proofs.YtoelbgjpmpoolaaGreat
open Go Dv
set_option maxRecDepth 10000
set_option linter.unusedSimpArgs false
set_option maxHeartbeats 4000000 in
theorem c_mAns3 (m : Zai) (s p : Mach) (f : Zap) (w d : Int) (hp : popM s = p) (hf : topF p = f) (h2 : 1 < s.stack.length) (h32 : s.stack.length ≤ 32) (hF : OkF m f) (hn : endB m f = true) (hdd : (Zao m f).fin.dst = d) (hd : 0 ≤ d ∧ d < f.regs.length) (hat : f.at_ < 1000000) :
  HG Tryz.prog LW 114 (mem m s) [.bp jB 0, .int .u16 w] (.tup []) (mem m (Zbx p { frW f d w with block := (Zao m f).fin.to, at_ := 0 })) := by
 refine Za7 tok Tryz.func114 rfl (by decide +kernel) (nB rfl) ?_
 have hmx : mL = 4294967296 := rfl
 have hpl : p.stack.length = s.stack.length - 1 := by rw [← hp]; exact Zcq
 have hP := c_mPop m s (by omega) (by omega)
 rw [hp] at hP
 have hft : p.stack.getD (p.stack.length - 1) default = f := hf
 have hB : HG Tryz.prog LW 112 (mem m p) [.bp jB 0, .rp jF 5 (p.stack.length - 1) 0] (.agg (Za5 (Zao m f))) (mem m p) := by
  have := Zdu m p (p.stack.length - 1) (by omega) (by rw [hft]; exact hF)
  rw [hft] at this; exact this
 have hE : f.at_ = (Zao m f).ins.length := of_decide_eq_true hn
 have hgen : ∃ b, Zao m f = b := ⟨_, rfl⟩
 obtain ⟨b, hbe⟩ := hgen
 have a0 := hF.a0
 have a1 := hF.a1
 rw [hbe] at hB hE hdd a1 ⊢
 have hp0 : 0 < p.stack.length := by omega
 (repeat' ((fail_if_success (show Rg 1)); first | refine Zab ?_ | (refine Zaa tok (by rfl) ?_; conv => whnf)))
 refine .inr ⟨_, _, _, uG (QH.tnM (by simp) (by simp) hP (by omega) (Za3 rfl rfl rfl rfl (fun _ => rfl)) rfl (fun q hq => Zan hq)), ?_⟩
 conv => whnf
 (repeat' ((fail_if_success (show Rg 2)); (fail_if_success (show Rg 3)); first | refine Zab ?_ | (refine Zaa tok (by rfl) ?_; conv => whnf) | (refine Zag ?_; conv => whnf) | refine Zaf rfl (fun hb => ?_) (fun hb => ?_)))
 ·exfalso; simp only [decide_eq_true_eq] at hb; omega
 clear hb
 (repeat' ((fail_if_success (show Rg 4)); (refine Zaa tok (by rfl) ?_; conv => whnf)))
 refine .inr ⟨_, _, _, uG (QH.tnM (by simp) (by simp) (Zf7 m p hp0 (by omega)) (by omega) (Za3 rfl rfl rfl rfl (fun q => Zbw (fun hq => Zan (by omega)))) rfl (fun q hq => (Zbw (fun hq => Zan (by omega))).trans (Zan hq))), ?_⟩
 conv => whnf
 (repeat' ((fail_if_success (show Rg 5)); first | refine Zab ?_ | (refine Zaa tok (by rfl) ?_; conv => whnf)))
 refine .inr ⟨_, _, _, uG (QH.tnM (by simp) (by simp) hB (by omega) (Za3 rfl rfl rfl rfl (fun q => Zbw (fun hq => big_far (by omega) hq (Zan (by omega))))) rfl (fun q hq => (Zbw (fun hq => big_far (by omega) hq (Zan (by omega)))).trans (Zan hq))), ?_⟩
 conv => whnf
 ((repeat' ((fail_if_success (show Rg 6)); (fail_if_success (show Rg 8)); first | refine Zab ?_ | (refine Zas tok mix (by rfl) ?_; conv => whnf) | (refine Zag ?_; conv => whnf) | refine Zaf rfl (fun hb => ?_) (fun hb => ?_) | (refine uA ?_ ?_; rotate_left; (conv => whnf); rotate_right))); all_goals (try ((guard_target = Zac _ _ _ _); refine Zae ?_; (all_goals (try simp only [Zac, kZ, kA, kB, mL, Zad] at *)); all_goals omega)))
 ·exfalso
  rw [hft] at hb
  simp only [decide_eq_true_eq] at hb
  omega
 clear hb
 refine Zar (Weak.fam (L := LW) (tl := [(0, .bp jB 0), (1, .int .u16 w), (4, .rp jF 5 (p.stack.length - 1) 0), (5, .bp (5, 0, 0) 0)]) (hl := [((5, 0, 0), Za2 (Za5 b))] ++ memL m p) (F := famW p.stack) [] rfl (fun c hc => by cases hc) ?_ ?_ ?_ LW_keepL) ?_
 ·exact .cons (.bp rfl rfl) (.i (.cons (.rp rfl rfl rfl) (.cons (.bp rfl rfl) .nil)))
 ·exact .old rfl rfl (GB.one (GVs.imm rfl) (fun _ => rfl)) (Zcs rfl rfl rfl rfl (fun _ => rfl) rfl rfl rfl rfl rfl rfl rfl (fun q hq => Zcf hq))
 ·exact Zfh (fun _ _ => rfl) (fun q hq => Za9 hq)
 have hle : p.stack.length - 1 < p.stack.length := by omega
 have hzz : d.toNat < (p.stack.getD (p.stack.length - 1) default).regs.length := by rw [hft]; omega
 have hdl : 0 ≤ b.fin.dst ∧ b.fin.dst.toNat < (topF p).regs.length := by rw [hdd, hf]; omega
 have hG := c_Go (frW (topF p) d w) b.fin.to
 ((repeat' first | (refine Zas tok mix (by rfl) ?_; conv => whnf) | (refine uA ?_ ?_; rotate_left; (conv => whnf); rotate_right)); all_goals (try ((guard_target = Zac _ _ _ _); refine Zae ?_; (all_goals (try simp only [Zac, kZ, kA, kB, mL, Zad] at *)); all_goals omega)))
 refine fAV (x := Zbi p.stack (p.stack.length - 1)) (y := .rs jT 1 0 (topF p).regs.length) (Zbg hp0 rfl) ?_
 conv => whnf
 ((repeat' ((fail_if_success (show Rg 9)); (refine uA ?_ ?_; rotate_left; (conv => whnf); rotate_right))); all_goals (try ((guard_target = Zac _ _ _ _); refine Zae ?_; (all_goals (try simp only [Zac, kZ, kA, kB, mL, Zad] at *)); all_goals omega)))
 refine Zdv tok mix (by rfl) [0, 1, 2, 3, 4, 5, 6, 8] 30 (by rfl) (by rfl) (by rfl) ?_
 conv => whnf
 repeat' first
  | (refine fAV (x := Zbi p.stack (p.stack.length - 1)) (y := .rs jT 1 0 (topF p).regs.length) (Zbg hp0 rfl) ?_; (conv => whnf))
  | (refine uA ?_ ?_; rotate_left; (conv => whnf); rotate_right)
  | (guard_target = And _ _; refine @And.intro (gOp _ _ _ _ _ _ _ _ _) _ (by (conv => whnf); first | exact ⟨rfl, rfl⟩ | (refine fAV (x := Zbi p.stack (p.stack.length - 1)) (y := .rs jT 1 0 (topF p).regs.length) (Zbg hp0 rfl) ?_; (conv => whnf); exact ⟨rfl, rfl⟩)) ?_; conv => whnf)
  | (guard_target = And _ _; refine And.intro ?_ ?_ <;> (conv => whnf))
 all_goals (try ((guard_target = Zac _ _ _ _); refine Zae ?_; (all_goals (try simp only [Zac, kZ, kA, kB, mL, Zad] at *)); all_goals omega))
 all_goals (try (show AV.agg [_, _, _, Zbi p.stack (p.stack.length - 1), _] = AV.agg [_, _, _, .rs jT 1 0 (topF p).regs.length, _]; rw [Zbg hp0 rfl]; done))
 all_goals refine .inr ⟨_, _, _, uG (QH.lendF (rd := [jT]) hG (.cons (.agg (.i (.i (.i (.cons (.row rfl (.head _) rfl ?_ (fun q hq => ?_)) (.i .nil)))))) (.i .nil)) (fun i hi => by rw [Zdm hi]; rfl) rfl (fun j b e => by
  have := Zdm (i := j) (by rw [e]; rfl)
  subst this; cases e; exact fun i hi => rfl)), ?_⟩
 all_goals (try (show (topF p).regs.length = _; simp [frW]; done))
 all_goals (try (rw [Nat.zero_add, hdd]; exact (rowSet (l := (topF p).regs) (by rw [hf]; omega)); done))
 all_goals conv => whnf
 all_goals (repeat' first
  | (refine fAV (x := Zbi p.stack (p.stack.length - 1)) (y := .rs jT 1 0 (topF p).regs.length) (Zbg hp0 rfl) ?_; (conv => whnf))
  | (refine uA ?_ ?_; rotate_left; (conv => whnf); rotate_right)
  | (guard_target = And _ _; refine @And.intro (gOp _ _ _ _ _ _ _ _ _) _ (by (conv => whnf); first | exact ⟨rfl, rfl⟩ | (refine fAV (x := Zbi p.stack (p.stack.length - 1)) (y := .rs jT 1 0 (topF p).regs.length) (Zbg hp0 rfl) ?_; (conv => whnf); exact ⟨rfl, rfl⟩)) ?_; conv => whnf)
  | (guard_target = And _ _; refine And.intro ?_ ?_ <;> (conv => whnf)))
 all_goals (try ((guard_target = Zac _ _ _ _); refine Zae ?_; (all_goals (try simp only [Zac, kZ, kA, kB, mL, Zad] at *)); all_goals omega))
 all_goals (try (show AV.agg [_, _, _, Zbi p.stack (p.stack.length - 1), _] = AV.agg [_, _, _, .rs jT 1 0 (topF p).regs.length, _]; rw [Zbg hp0 rfl]; done))
 skip
 refine ⟨_, srcT jE r0, rfl, ?_⟩
 rw [← and_assoc]
 refine ⟨leaveG (s := p) (g := { frW (topF p) d w with block := b.fin.to, at_ := 0 }) (n' := p.stack.length) hp0 ?_ rfl (.inr (.inl rfl)) (.inl rfl) rfl ?_ rfl (Nat.le_refl _) (fun q hq => ?_) ?_ rfl (Zd8 _) rfl (Zb0 _) (fun q hq => ?_), .tup .nil, keepT⟩
 ·rw [hf]
 ·exact Zez (s := Zbx p { frW f d w with block := b.fin.to, at_ := 0 }) (Zdq (s := p) hp0).symm rfl rfl rfl rfl
 ·exact Zct (by omega)
 ·exact Zds
 ·refine Zfj (d := []) (u := oneR (frW (topF p) d w).regs) rfl rfl ?_
  exact Za1 hq
theorem c_mAns (m : Zai) (s : Mach) (w : Int) (h : 0 < s.stack.length) (h32 : s.stack.length ≤ 32) (hF : 1 < s.stack.length → OkF m (topF (popM s))) (hat : 1 < s.stack.length → (topF (popM s)).at_ < 1000000)
  (hd1 : 1 < s.stack.length → endB m (topF (popM s)) = true → 0 ≤ (Zao m (topF (popM s))).fin.dst ∧ (Zao m (topF (popM s))).fin.dst < (topF (popM s)).regs.length)
  (hd2 : 1 < s.stack.length → endB m (topF (popM s)) = false → 0 ≤ ((Zao m (topF (popM s))).ins.getD (topF (popM s)).at_.toNat default).dst ∧ ((Zao m (topF (popM s))).ins.getD (topF (popM s)).at_.toNat default).dst < (topF (popM s)).regs.length) :
  HG Tryz.prog LW 114 (mem m s) [.bp jB 0, .int .u16 w] (.tup []) (mem m (Zbr m s w)) := by
 unfold Zbr
 by_cases h1 : s.stack.length = 1
 ·rw [if_pos h1]; exact c_mAns1 m s w h1
 ·have h2 : 1 < s.stack.length := by omega
  rw [if_neg h1]
  unfold answF
  cases e : endB m (topF (popM s)) with
  | true => rw [if_pos rfl]; exact c_mAns3 m s _ _ w _ rfl rfl h2 h32 (hF h2) e rfl (hd1 h2 e) (hat h2)
  | false => rw [if_neg (by decide)]; exact c_mAns2 m s _ _ w _ rfl rfl h2 h32 (hF h2) e rfl (hd2 h2 e) (hat h2)
end Go.Proofs.YtoelbgjpmpoolaaGreat
namespace Go.Proofs.YtoelbgjpmpoolaaGreat
open Go Dv
set_option maxRecDepth 10000
set_option linter.unusedSimpArgs false
def memE (el : List (Dv.Id × Zam)) (m : Zai) (s : Mach) : Zal := orH (Zay (el ++ memL m s)) (famW s.stack)
theorem lookH_app (a b : List (Dv.Id × Zam)) (j : Dv.Id) : Zay (a ++ b) j = match Zay a j with
  | some x => some x
  | none => Zay b j := by
 induction a with
 | nil => rfl
 | cons p r ih =>
  simp only [List.cons_append, Zay]
  cases idEq p.1 j with
  | true => rfl
  | false => exact ih
theorem memE_eq {el : List (Dv.Id × Zam)} {m : Zai} {s : Mach} {j : Dv.Id} : memE el m s j = match Zay el j with
  | some x => some x
  | none => mem m s j := by
 unfold memE mem orH
 rw [lookH_app]
 cases Zay el j <;> rfl
theorem Zfn {el : List (Dv.Id × Zam)} {m : Zai} {s : Mach} {j : Dv.Id} (h : Zay el j = none) : memE el m s j = mem m s j := by rw [memE_eq, h]
theorem mem_map {m : Zai} {s : Mach} {ρ : Dv.Id → Option Dv.Id} (hF : ρ jF = some jF) (hE : ρ jE = some jE) (hT : ρ jT = some jT) (hq : ∀ q, q < s.stack.length - 1 → ρ (945, 0, q) = some (945, 0, q)) {j : Dv.Id} {b : Zam} (h : mem m s j = some b) : Dv.mapB ρ b = b := by
 rcases Zcc h with ⟨rfl, rfl⟩ | ⟨rfl, rfl⟩ | ⟨rfl, rfl⟩ | ⟨rfl, rfl⟩ | ⟨q, rfl, hq, rfl⟩
 ·show Zam.row false 22 1 (fun _ => Zbm ρ (macC m s)) = Zam.row false 22 1 (fun _ => macC m s)
  congr 1
  funext x
  show (match ρ jF with | some j => AV.rs j 5 0 s.stack.length | none => .any) :: _ = _
  rw [hF]
  unfold macC
  show _ :: [_, _, _, _, _, _, _, _, _, _, _, _, _, _, _, _, _, (match ρ jE with | some j => AV.rs j 1 0 s.events.length | none => .any), _, _, _] = _
  rw [hE]; rfl
 ·show Zam.row false 5 s.stack.length (fun q => Zbm ρ (frC s.stack q)) = Zam.row false 5 s.stack.length (frC s.stack)
  congr 1
  funext q
  show [_, _, _, Zbn _ (Zbi s.stack q), _] = _
  unfold frC
  congr 4
  unfold Zbi
  by_cases hq2 : q < s.stack.length - 1
  ·rw [Zcg hq2]
   show (match ρ (945, 0, q) with | some j => AV.rs j 1 0 _ | none => .any) = _
   rw [hq q hq2]
  ·rw [Zdc (by omega)]
   show (match ρ jT with | some j => AV.rs j 1 0 _ | none => .any) = _
   rw [hT]
 ·rfl
 ·rfl
 ·rfl
theorem kpH_is {h : Zal} {i : Dv.Id} (e : (h i).isSome = true) : kpH h i = some i := by
 unfold kpH; cases e2 : h i with
 | none => rw [e2] at e; cases e
 | some b => rfl
abbrev jX : Dv.Id := (3, 7, 0)
abbrev LX : List Dv.Id := [jB, jF, jX]
def frA (f : Zap) : List AV := [iv f.f, iv f.block, iv f.at_, .any, .int .u16 f.fly]
def xL (s : Mach) (i : Nat) : List (Dv.Id × Zam) := [(jX, .row false 5 1 (fun _ => frA (s.stack.getD i default)))]
theorem memX_kp {m : Zai} {s : Mach} {i q : Nat} (h : q < s.stack.length - 1) : kpH (memE (xL s i) m s) (945, 0, q) = some (945, 0, q) :=
 kpH_is (show (famW s.stack (945, 0, q)).isSome = true by rw [Za1 h]; rfl)
theorem memX_closed (m : Zai) (s : Mach) (i : Nat) : ∀ j b, memE (xL s i) m s j = some b → Dv.mapB (kpH (memE (xL s i) m s)) b = b := by
 intro j b e
 rw [memE_eq] at e
 cases e1 : idEq jX j with
 | true =>
  rw [show Zay (xL s i) j = some (.row false 5 1 (fun _ => frA (s.stack.getD i default))) from by simp only [xL, Zay, e1]; rfl] at e
  cases e
  show Zam.row false 5 1 (fun _ => Zbm _ (frA (s.stack.getD i default))) = _
  rfl
 | false =>
  rw [show Zay (xL s i) j = none from by simp only [xL, Zay, e1]; rfl] at e
  exact mem_map (kpH_is rfl) (kpH_is rfl) (kpH_is rfl) (fun q hq => memX_kp hq) e
theorem memX_sub {m : Zai} {s : Mach} {i : Nat} {h : Zal} (h0 : h jX = some (.row false 5 1 (fun _ => frA (s.stack.getD i default)))) (h1 : h jB = some (macB m s)) (h2 : h jF = some (Zch s.stack)) (h3 : h jE = some (evB s.events)) (h4 : h jT = some (regB (topF s).regs)) (h5 : ∀ q, h (945, 0, q) = famW s.stack (945, 0, q)) : ∀ j b, memE (xL s i) m s j = some b → h j = some b := fun j b e => by
 rw [memE_eq] at e
 cases e1 : idEq jX j with
 | true =>
  rw [show Zay (xL s i) j = some (.row false 5 1 (fun _ => frA (s.stack.getD i default))) from by simp only [xL, Zay, e1]; rfl] at e
  cases e
  rw [← Zaz.1 e1]; exact h0
 | false =>
  rw [show Zay (xL s i) j = none from by simp only [xL, Zay, e1]; rfl] at e
  exact Za3 h1 h2 h3 h4 h5 j b e
theorem QH.tnX {P : Program} {f : FuncId} {m : Zai} {s : Mach} {i : Nat} {args : List AV} {r : AV} {h : Zal} (hc : HG P LX f (memE (xL s i) m s) args r (memE (xL s i) m s)) (h32 : s.stack.length ≤ 32) (hsub : ∀ j b, memE (xL s i) m s j = some b → h j = some b)
  (hag : Zbm (kpH (memE (xL s i) m s)) args = args) (hfree : ∀ q, famW s.stack (945, 0, q) = none → h (945, 0, q) = none) : QH P h f args dK (memE (xL s i) m s) r := by
 refine QH.frame hc hsub (memX_closed m s i) hag (fun j hj => ?_) (fun j hj => .inl hj) (fun j hj => ?_)
 ·cases e : memE (xL s i) m s j with
  | none => rw [e] at hj; cases hj
  | some b =>
   rw [memE_eq] at e
   cases e1 : idEq jX j with
   | true => rw [← Zaz.1 e1]; exact .inr ⟨.tail _ (.tail _ (.head _)), rfl, rfl⟩
   | false =>
    rw [show Zay (xL s i) j = none from by simp only [xL, Zay, e1]; rfl] at e
    rcases Zcc e with ⟨rfl, _⟩ | ⟨rfl, _⟩ | ⟨rfl, _⟩ | ⟨rfl, _⟩ | ⟨q, rfl, hq, _⟩
    ·exact .inr ⟨.head _, rfl, rfl⟩
    ·exact .inr ⟨.tail _ (.head _), rfl, rfl⟩
    ·exact .inl rfl
    ·exact .inl rfl
    ·exact .inl (Zb9.2 (List.mem_cons_of_mem _ (List.mem_cons_of_mem _ (Zg0.2 ⟨q, by omega, rfl⟩))))
 ·rcases List.mem_cons.1 (Zb9.1 hj) with rfl | hj
  ·exact .inl rfl
  rcases List.mem_cons.1 hj with rfl | hj
  ·exact .inl rfl
  obtain ⟨q, _, rfl⟩ := Zg0.1 hj
  by_cases hq2 : q < s.stack.length - 1
  ·exact .inl (show (famW s.stack (945, 0, q)).isSome = true by rw [Za1 hq2]; rfl)
  ·exact .inr (hfree q (Zan (by omega)))
theorem leaveX {m : Zai} {s : Mach} {i : Nat} {h : Zal} (h0 : h jX = some (.row false 5 1 (fun _ => frA (s.stack.getD i default)))) {b0 : Zam} (h1 : h jB = some b0) (hB : GB (srcL []) h (memE (xL s i) m s) b0 (macB m s)) (h2 : h jF = some (Zch s.stack)) (h3 : h jE = some (evB s.events)) (h4 : h jT = some (regB (topF s).regs)) (h5 : ∀ q, q < s.stack.length - 1 → h (945, 0, q) = some (regB (s.stack.getD q default).regs)) :
  (∀ j j' k, (memE (xL s i) m s j).isSome = true → (memE (xL s i) m s j').isSome = true → srcL [] j = some k → srcL [] j' = some k → j = j') ∧ ∀ j b, memE (xL s i) m s j = some b → HOk (srcL []) h (memE (xL s i) m s) j b := by
 refine ⟨fun j j' k _ _ e1 e2 => by cases e1; cases e2; rfl, fun j b e => ?_⟩
 have hfam : ∀ q, q < s.stack.length - 1 → (memE (xL s i) m s (945, 0, q)).isSome = true := fun q hq => by
  show (famW s.stack (945, 0, q)).isSome = true; rw [Za1 hq]; rfl
 rw [memE_eq] at e
 cases e1 : idEq jX j with
 | true =>
  rw [show Zay (xL s i) j = some (.row false 5 1 (fun _ => frA (s.stack.getD i default))) from by simp only [xL, Zay, e1]; rfl] at e
  cases e
  rw [← Zaz.1 e1]
  refine HOk.mk rfl h0 (GB.one ?_ (fun e => by cases e))
  exact .i (.i (.i (.cons .any (.i .nil))))
 | false =>
  rw [show Zay (xL s i) j = none from by simp only [xL, Zay, e1]; rfl] at e
  rcases Zcc e with ⟨rfl, rfl⟩ | ⟨rfl, rfl⟩ | ⟨rfl, rfl⟩ | ⟨rfl, rfl⟩ | ⟨q, rfl, hq, rfl⟩
  ·exact HOk.mk rfl h1 hB
  ·exact HOk.mk rfl h2 (GB_fr (fun _ _ => rfl) rfl hfam rfl)
  ·exact HOk.mk rfl h3 (Zd8 _)
  ·exact HOk.mk rfl h4 (Zb0 _)
  ·exact HOk.mk rfl (h5 q hq) (Zb0 _)
theorem LW_keepX {m : Zai} {s : Mach} {i : Nat} : ∀ j ∈ LX, Zer j = true → (memE (xL s i) m s j).isSome = true ∧ srcL [] j = some j := fun j hj _ => by
 rcases List.mem_cons.1 hj with rfl | hj
 ·exact ⟨rfl, rfl⟩
 rcases List.mem_cons.1 hj with rfl | hj
 ·exact ⟨rfl, rfl⟩
 ·rw [List.mem_singleton.1 hj]; exact ⟨rfl, rfl⟩
theorem c_mBlockX (m : Zai) (s : Mach) (i : Nat) (hi : i < s.stack.length) (hF : OkF m (s.stack.getD i default)) : HG Tryz.prog LX 112 (memE (xL s i) m s) [.bp jB 0, .bp jX 0] (.agg (Za5 (Zao m (s.stack.getD i default)))) (memE (xL s i) m s) := by
 refine Za7 tok Tryz.func112 rfl (by decide +kernel) (nB rfl) ?_
 have hmx : mL = 4294967296 := rfl
 have f0 := hF.f0
 have f1 := hF.f1
 have b0 := hF.b0
 have b1 : (s.stack.getD i default).block < (m.funcs.getD (s.stack.getD i default).f.toNat default).blocks.length := hF.b1
 ((repeat' first | refine Zab ?_ | (refine Zaa tok (by rfl) ?_; conv => whnf) | (refine Zas tok mix (by rfl) ?_; conv => whnf) | (refine Zak ?_; conv => whnf) | (refine uA ?_ ?_; rotate_left; (conv => whnf); rotate_right)); all_goals (try ((guard_target = Zac _ _ _ _); refine Zae ?_; (all_goals (try simp only [Zac, kZ, kA, kB, mL, Zad] at *)); all_goals omega)))
 refine ⟨_, srcL [], rfl, ?_⟩
 rw [← and_assoc]
 exact ⟨leaveX rfl rfl (Zcm rfl rfl rfl) rfl rfl rfl (fun q hq => Za1 hq), .agg (GVs.imm rfl), LW_keepX⟩
theorem bigX_fam {m : Zai} {s : Mach} {i : Nat} {d : List Dv.Id} {h : Zal} {q : Nat} (hq : q < s.stack.length - 1) : bigH d (memE (xL s i) m s) h (945, 0, q) = some (regB (s.stack.getD q default).regs) := by
 unfold bigH
 rw [show memE (xL s i) m s (945, 0, q) = famW s.stack (945, 0, q) from rfl, Za1 hq]
set_option maxHeartbeats 2000000 in
theorem c_mPadX (m : Zai) (s : Mach) (i : Nat) (hi : i < s.stack.length) (h32 : s.stack.length ≤ 32) (hF : OkF m (s.stack.getD i default)) (hp : (Zao m (s.stack.getD i default)).fin.kind = 4 → 0 ≤ (Zao m (s.stack.getD i default)).fin.pad ∧ (Zao m (s.stack.getD i default)).fin.pad < (Zb7 m (s.stack.getD i default)).blocks.length) :
  HG Tryz.prog LX 161 (memE (xL s i) m s) [.bp jB 0, .bp jX 0] (.tup [iv (padV m (s.stack.getD i default)).1, .agg (encPad (padV m (s.stack.getD i default)).2.1), .bool (padV m (s.stack.getD i default)).2.2]) (memE (xL s i) m s) := by
 refine Za7 tok Tryz.func161 rfl (by decide +kernel) (nB rfl) ?_
 have hmx : mL = 4294967296 := rfl
 have hB := c_mBlockX m s i hi hF
 have f0 := hF.f0
 have f1 := hF.f1
 have a0 := hF.a0
 have a1 := hF.a1
 have hE : endB m (s.stack.getD i default) = decide ((s.stack.getD i default).at_ = (Zao m (s.stack.getD i default)).ins.length) := rfl
 have hpl : (Zao m (s.stack.getD i default)).fin.kind = 4 → 0 ≤ (Zao m (s.stack.getD i default)).fin.pad ∧ (Zao m (s.stack.getD i default)).fin.pad < (m.funcs.getD (s.stack.getD i default).f.toNat default).blocks.length := hp
 have hpf : padF m (s.stack.getD i default) = ((m.funcs.getD (s.stack.getD i default).f.toNat default).blocks.getD (Zao m (s.stack.getD i default)).fin.pad.toNat default).pad := rfl
 have hV : padV m (s.stack.getD i default) = if endB m (s.stack.getD i default) = true ∧ (Zao m (s.stack.getD i default)).fin.kind = 4 then ((Zao m (s.stack.getD i default)).fin.pad, padF m (s.stack.getD i default), true) else (0, ⟨0, [], false, false⟩, false) := rfl
 have hgen : ∃ b, Zao m (s.stack.getD i default) = b := ⟨_, rfl⟩
 obtain ⟨b, hbe⟩ := hgen
 rw [hbe] at hB hE hpl hpf hV a1
 (repeat' first | refine Zab ?_ | (refine Zaa tok (by rfl) ?_; conv => whnf))
 refine .inr ⟨_, _, _, uG (QH.tnX hB h32 (memX_sub rfl rfl rfl rfl rfl (fun _ => rfl)) rfl (fun q hq => hq)), ?_⟩
 conv => whnf
 (repeat' ((fail_if_success (show Rg 3)); (fail_if_success (show Rg 4)); first | refine Zab ?_ | (refine Zas tok mix (by rfl) ?_; conv => whnf) | (refine Zag ?_; conv => whnf) | refine Zaf rfl (fun hb => ?_) (fun hb => ?_)))
 ·have hn : ¬ (endB m (s.stack.getD i default) = true ∧ b.fin.kind = 4) := by
   rintro ⟨h1, h2⟩
   rw [hE, decide_eq_true_eq] at h1
   rw [decide_eq_false (show ¬ (s.stack.getD i default).at_ < (b.ins.length : Int) by omega), decide_eq_true h2] at hb
   cases hb
  rw [if_neg hn] at hV
  rw [hV]
  (repeat' first | (refine Zaa tok (by rfl) ?_; conv => whnf) | (refine Zak ?_; conv => whnf))
  refine ⟨_, srcL [], rfl, ?_⟩
  rw [← and_assoc]
  exact ⟨leaveX rfl rfl (Zcm rfl rfl rfl) rfl rfl rfl (fun q hq => bigX_fam hq), .tup (.i (.cons (.agg (.i (.cons (.wk rfl (.nsl rfl)) (.i (.i .nil))))) (.i .nil))), LW_keepX⟩
 have hy : endB m (s.stack.getD i default) = true ∧ b.fin.kind = 4 := by
  rw [hE, decide_eq_true_eq]
  by_cases e1 : (s.stack.getD i default).at_ < (b.ins.length : Int)
  ·rw [decide_eq_true e1] at hb; cases hb
  ·rw [decide_eq_false e1] at hb
   by_cases e2 : b.fin.kind = 4
   ·exact ⟨by omega, e2⟩
   ·rw [decide_eq_false e2] at hb; cases hb
 clear hb
 rw [if_pos hy] at hV
 rw [hV]
 obtain ⟨hp0, hp1⟩ := hpl hy.2
 ((repeat' first | (refine Zas tok mix (by rfl) ?_; conv => whnf) | (refine Zak ?_; conv => whnf) | (refine uA ?_ ?_; rotate_left; (conv => whnf); rotate_right)); all_goals (try ((guard_target = Zac _ _ _ _); refine Zae ?_; (all_goals (try simp only [Zac, kZ, kA, kB, mL, Zad] at *)); all_goals omega)))
 refine ⟨_, srcL [], rfl, ?_⟩
 rw [← and_assoc]
 rw [hpf]
 exact ⟨leaveX rfl rfl (Zcm rfl rfl rfl) rfl rfl rfl (fun q hq => bigX_fam hq), .tup (.i (.cons (.agg (GVs.imm rfl)) (.i .nil))), LW_keepX⟩
end Go.Proofs.YtoelbgjpmpoolaaGreat
namespace Go.Proofs.YtoelbgjpmpoolaaGreat
open Go Dv
set_option maxRecDepth 10000
set_option linter.unusedSimpArgs false
section
variable {P : Program} {f : FuncId} {m : Zai} {s : Mach} {args : List AV} {r : AV} {h : Zal} {el : List (Dv.Id × Zam)} {L : List Dv.Id}
theorem memE_some {j : Dv.Id} {b : Zam} (e : memE el m s j = some b) : Zay el j = some b ∨ (Zay el j = none ∧ mem m s j = some b) := by
 rw [memE_eq] at e
 cases e1 : Zay el j with
 | some x => rw [e1] at e; exact .inl e
 | none => rw [e1] at e; exact .inr ⟨rfl, e⟩
theorem memE_closed (hB : Zay el jF = none) (hE : Zay el jE = none) (hT : Zay el jT = none) (hq : ∀ q, Zay el (945, 0, q) = none) (hc : ∀ j b, Zay el j = some b → Dv.mapB (kpH (memE el m s)) b = b) : ∀ j b, memE el m s j = some b → Dv.mapB (kpH (memE el m s)) b = b := by
 intro j b e
 rcases memE_some e with e | ⟨_, e⟩
 ·exact hc j b e
 ·exact mem_map (kpH_is (by rw [Zfn hB]; rfl)) (kpH_is (by rw [Zfn hE]; rfl)) (kpH_is (by rw [Zfn hT]; rfl)) (fun q hq2 => kpH_is (by rw [Zfn (hq q), Zef, Za1 hq2]; rfl)) e
theorem QH.tnE (hm1 : jB ∈ L) (hm2 : jF ∈ L) (hB : Zay el jB = none) (hF : Zay el jF = none) (hE : Zay el jE = none) (hT : Zay el jT = none) (hq : ∀ q, Zay el (945, 0, q) = none) (hcl : ∀ j b, Zay el j = some b → Dv.mapB (kpH (memE el m s)) b = b) (hp : ∀ j b, Zay el j = some b → j ∈ L ∧ Zer j = true)
  (hc : HG P L f (memE el m s) args r (memE el m s)) (h32 : s.stack.length ≤ 32) (hsub : ∀ j b, memE el m s j = some b → h j = some b)
  (hag : Zbm (kpH (memE el m s)) args = args) (hfree : ∀ q, famW s.stack (945, 0, q) = none → h (945, 0, q) = none) : QH P h f args dK (memE el m s) r := by
 refine QH.frame hc hsub (memE_closed hF hE hT hq hcl) hag (fun j hj => ?_) (fun j hj => .inl hj) (fun j hj => ?_)
 ·cases e : memE el m s j with
  | none => rw [e] at hj; cases hj
  | some b =>
   rcases memE_some e with e1 | ⟨_, e1⟩
   ·have := hp j b e1
    exact .inr ⟨this.1, this.2, rfl⟩
   ·rcases Zcc e1 with ⟨rfl, _⟩ | ⟨rfl, _⟩ | ⟨rfl, _⟩ | ⟨rfl, _⟩ | ⟨q, rfl, hq2, _⟩
    ·exact .inr ⟨hm1, rfl, rfl⟩
    ·exact .inr ⟨hm2, rfl, rfl⟩
    ·exact .inl rfl
    ·exact .inl rfl
    ·exact .inl (Zb9.2 (List.mem_cons_of_mem _ (List.mem_cons_of_mem _ (Zg0.2 ⟨q, by omega, rfl⟩))))
 ·rcases List.mem_cons.1 (Zb9.1 hj) with rfl | hj
  ·exact .inl (by rw [Zfn hE]; rfl)
  rcases List.mem_cons.1 hj with rfl | hj
  ·exact .inl (by rw [Zfn hT]; rfl)
  obtain ⟨q, _, rfl⟩ := Zg0.1 hj
  by_cases hq2 : q < s.stack.length - 1
  ·exact .inl (by rw [Zfn (hq q), Zef, Za1 hq2]; rfl)
  ·exact .inr (hfree q (Zan (by omega)))
theorem memE_sub (hel : ∀ j b, Zay el j = some b → h j = some b) (h1 : h jB = some (macB m s)) (h2 : h jF = some (Zch s.stack)) (h3 : h jE = some (evB s.events)) (h4 : h jT = some (regB (topF s).regs)) (h5 : ∀ q, h (945, 0, q) = famW s.stack (945, 0, q)) : ∀ j b, memE el m s j = some b → h j = some b := fun j b e => by
 rcases memE_some e with e1 | ⟨_, e1⟩
 ·exact hel j b e1
 ·exact Za3 h1 h2 h3 h4 h5 j b e1
end
abbrev c1 : Dv.Id := (4, 7, 0)
abbrev c2 : Dv.Id := (5, 7, 0)
abbrev LC : List Dv.Id := [jB, jF, c1, c2]
abbrev c1B : Zam := .row false 1 1 (fun _ => [.bp jB 0])
abbrev c2B (w : Int) : Zam := .row true 1 1 (fun _ => [.int .u16 w])
def cL (w : Int) : List (Dv.Id × Zam) := [(c1, c1B), (c2, c2B w)]
theorem cL_some {w : Int} {j : Dv.Id} {b : Zam} (h : Zay (cL w) j = some b) : (j = c1 ∧ b = c1B) ∨ (j = c2 ∧ b = c2B w) := by
 simp only [cL, Zay] at h
 cases e1 : idEq c1 j with
 | true => rw [e1] at h; exact .inl ⟨(Zaz.1 e1).symm, (Option.some.inj h).symm⟩
 | false =>
  cases e2 : idEq c2 j with
  | true => rw [e1, e2] at h; exact .inr ⟨(Zaz.1 e2).symm, (Option.some.inj h).symm⟩
  | false => rw [e1, e2] at h; cases h
theorem cL_closed {m : Zai} {s : Mach} {w : Int} : ∀ j b, Zay (cL w) j = some b → Dv.mapB (kpH (memE (cL w) m s)) b = b := fun j b e => by
 rcases cL_some e with ⟨rfl, rfl⟩ | ⟨rfl, rfl⟩ <;> rfl
theorem cL_pin {w : Int} : ∀ j b, Zay (cL w) j = some b → j ∈ LC ∧ Zer j = true := fun j b e => by
 rcases cL_some e with ⟨rfl, rfl⟩ | ⟨rfl, rfl⟩
 ·exact ⟨.tail _ (.tail _ (.head _)), rfl⟩
 ·exact ⟨.tail _ (.tail _ (.tail _ (.head _))), rfl⟩
theorem LC_keep {m : Zai} {s : Mach} {w : Int} : ∀ j ∈ LC, Zer j = true → (memE (cL w) m s j).isSome = true ∧ srcL [] j = some j := fun j hj _ => by
 rcases List.mem_cons.1 hj with rfl | hj
 ·exact ⟨rfl, rfl⟩
 rcases List.mem_cons.1 hj with rfl | hj
 ·exact ⟨rfl, rfl⟩
 rcases List.mem_cons.1 hj with rfl | hj
 ·exact ⟨rfl, rfl⟩
 ·rw [List.mem_singleton.1 hj]; exact ⟨rfl, rfl⟩
theorem LC_keep2 {tl : List (Dv.Id × Zam)} {F : Zal} {S : List (Dv.Id × Option Dv.Id)} (hB : (orH (Zay tl) F jB).isSome = true ∧ srcL S jB = some jB := by exact ⟨rfl, rfl⟩) (hF : (orH (Zay tl) F jF).isSome = true ∧ srcL S jF = some jF := by exact ⟨rfl, rfl⟩) (h1 : (orH (Zay tl) F c1).isSome = true ∧ srcL S c1 = some c1 := by exact ⟨rfl, rfl⟩) (h2 : (orH (Zay tl) F c2).isSome = true ∧ srcL S c2 = some c2 := by exact ⟨rfl, rfl⟩) : ∀ i ∈ LC, Zer i = true → (orH (Zay tl) F i).isSome = true ∧ srcL S i = some i := fun i hi _ => by
 rcases List.mem_cons.1 hi with rfl | hi
 ·exact hB
 rcases List.mem_cons.1 hi with rfl | hi
 ·exact hF
 rcases List.mem_cons.1 hi with rfl | hi
 ·exact h1
 ·rw [List.mem_singleton.1 hi]; exact h2
theorem leaveC {m : Zai} {s : Mach} {w : Int} {h : Zal} (k1 : h c1 = some c1B) (k2 : h c2 = some (c2B w)) {b0 : Zam} (h1 : h jB = some b0) (hB : GB (srcL []) h (memE (cL w) m s) b0 (macB m s)) (h2 : h jF = some (Zch s.stack)) (h3 : h jE = some (evB s.events)) (h4 : h jT = some (regB (topF s).regs)) (h5 : ∀ q, q < s.stack.length - 1 → h (945, 0, q) = some (regB (s.stack.getD q default).regs)) :
  (∀ j j' k, (memE (cL w) m s j).isSome = true → (memE (cL w) m s j').isSome = true → srcL [] j = some k → srcL [] j' = some k → j = j') ∧ ∀ j b, memE (cL w) m s j = some b → HOk (srcL []) h (memE (cL w) m s) j b := by
 refine ⟨fun j j' k _ _ e1 e2 => by cases e1; cases e2; rfl, fun j b e => ?_⟩
 have hfam : ∀ q, q < s.stack.length - 1 → (memE (cL w) m s (945, 0, q)).isSome = true := fun q hq => by
  show (famW s.stack (945, 0, q)).isSome = true; rw [Za1 hq]; rfl
 rcases memE_some e with e | ⟨_, e⟩
 ·rcases cL_some e with ⟨rfl, rfl⟩ | ⟨rfl, rfl⟩
  ·exact HOk.mk rfl k1 (GB.one (.cons (.bp rfl rfl) .nil) (fun e => by cases e))
  ·exact HOk.mk rfl k2 (GB.one (.i .nil) (fun _ => rfl))
 ·rcases Zcc e with ⟨rfl, rfl⟩ | ⟨rfl, rfl⟩ | ⟨rfl, rfl⟩ | ⟨rfl, rfl⟩ | ⟨q, rfl, hq, rfl⟩
  ·exact HOk.mk rfl h1 hB
  ·exact HOk.mk rfl h2 (GB_fr (fun _ _ => rfl) rfl hfam rfl)
  ·exact HOk.mk rfl h3 (Zd8 _)
  ·exact HOk.mk rfl h4 (Zb0 _)
  ·exact HOk.mk rfl (h5 q hq) (Zb0 _)
theorem padV_catch {m : Zai} {f : Zap} {w : Int} : (bif (padV m f).2.2 then catchF (padV m f).2.1 w else false) = Zcw m f w false := by
 unfold padV Zcw
 cases endB m f <;> by_cases h : (Zao m f).fin.kind = 4 <;> simp [h]
theorem padV_catch2 {m : Zai} {f : Zap} {w : Int} : (bif (padV m f).2.2 then (bif (padV m f).2.1.cleanup then true else catchF (padV m f).2.1 w) else false) = Zcw m f w true := by
 unfold padV Zcw
 cases endB m f <;> by_cases h : (Zao m f).fin.kind = 4 <;> simp [h]
 cases (padF m f).cleanup <;> simp
set_option maxHeartbeats 4000000 in
theorem c_mThr1 (m : Zai) (s : Mach) (w : Int) (i : Nat) (hi : i < s.stack.length) (h32 : s.stack.length ≤ 32) (hF : OkF m (s.stack.getD i default)) (hp : (Zao m (s.stack.getD i default)).fin.kind = 4 → 0 ≤ (Zao m (s.stack.getD i default)).fin.pad ∧ (Zao m (s.stack.getD i default)).fin.pad < (Zb7 m (s.stack.getD i default)).blocks.length) :
  HG Tryz.prog LC 160 (memE (cL w) m s) [.agg (frC s.stack i), .bp c1 0, .bp c2 0] (.bool (Zbs m s.stack w false i)) (memE (cL w) m s) := by
 refine Za7 tok Tryz.func160 rfl (by decide +kernel) (nB rfl) ?_
 have hP := c_mPadX m s i hi h32 hF hp
 refine Zab ?_
 refine Zdk (α := Unit) (fun _ => ⟨lookT [(1, .bp c1 0), (2, .bp c2 0), (3, .bp jX 0), (4, .bool false)], orH (Zay (xL s i ++ (cL w ++ memL m s))) (famW s.stack)⟩) (fun _ => True) ?_ ?_
 ·by_cases hq : i < s.stack.length - 1
  ·refine Zar (Weak.fam (L := LC) (tl := [(0, .agg [iv (s.stack.getD i default).f, iv (s.stack.getD i default).block, iv (s.stack.getD i default).at_, .rs (945, 0, i) 1 0 (s.stack.getD i default).regs.length, .int .u16 (s.stack.getD i default).fly]), (1, .bp c1 0), (2, .bp c2 0)]) (hl := cL w ++ memL m s) (F := famW s.stack) [] rfl (fun c hc => by cases hc) ?_ ?_ ?_ LC_keep) ?_
   ·exact .cons (.agg (.i (.i (.i (.cons (.cc (Zcg hq) rfl (.rs (Za1 hq) rfl rfl rfl)) (.i .nil)))))) (.cons (.bp rfl rfl) (.cons (.bp rfl rfl) .nil))
   ·refine .old rfl rfl (GB.one (.cons (.bp rfl rfl) .nil) (fun e => by cases e)) (.old rfl rfl (GB.one (.i .nil) (fun _ => rfl)) ?_)
    exact Zcs rfl rfl rfl rfl (fun _ => rfl) rfl rfl rfl rfl rfl rfl rfl (fun q hq => Zcf hq)
   ·exact Zfh (fun _ _ => rfl) (fun q hq => Za1 hq)
   (repeat' (refine Zaa tok (by rfl) ?_; conv => whnf))
   refine ⟨(), trivial, Weak.fam [(jX, some (3, 0, 0))] rfl (fun c hc => ?_) ?_ ?_ ?_ LC_keep2⟩
   ·rw [List.mem_singleton.1 (show c ∈ [(3, 0, 0)] from hc)]; exact .inl rfl
   ·exact .cons (.bp rfl rfl) (.cons (.bp rfl rfl) (.cons (.bp rfl rfl) (.i .nil)))
   ·refine .old rfl rfl (GB.one (.i (.i (.i (.cons .any (.i .nil))))) (fun e => by cases e)) (.old rfl rfl (GB.one (.cons (.bp rfl rfl) .nil) (fun e => by cases e)) (.old rfl rfl (GB.one (.i .nil) (fun _ => rfl)) ?_))
    exact Zcs rfl rfl rfl rfl (fun _ => rfl) rfl rfl rfl rfl rfl rfl rfl (fun q hq => Zcf hq)
   ·exact Zfh (fun _ _ => rfl) (fun q hq => Za1 hq)
  ·refine Zar (Weak.fam (L := LC) (tl := [(0, .agg [iv (s.stack.getD i default).f, iv (s.stack.getD i default).block, iv (s.stack.getD i default).at_, .rs jT 1 0 (s.stack.getD i default).regs.length, .int .u16 (s.stack.getD i default).fly]), (1, .bp c1 0), (2, .bp c2 0)]) (hl := cL w ++ memL m s) (F := famW s.stack) [] rfl (fun c hc => by cases hc) ?_ ?_ ?_ LC_keep) ?_
   ·exact .cons (.agg (.i (.i (.i (.cons (.cc (Zdc (by omega)) rfl (.rs rfl rfl rfl rfl)) (.i .nil)))))) (.cons (.bp rfl rfl) (.cons (.bp rfl rfl) .nil))
   ·refine .old rfl rfl (GB.one (.cons (.bp rfl rfl) .nil) (fun e => by cases e)) (.old rfl rfl (GB.one (.i .nil) (fun _ => rfl)) ?_)
    exact Zcs rfl rfl rfl rfl (fun _ => rfl) rfl rfl rfl rfl rfl rfl rfl (fun q hq => Zcf hq)
   ·exact Zfh (fun _ _ => rfl) (fun q hq => Za1 hq)
   (repeat' (refine Zaa tok (by rfl) ?_; conv => whnf))
   refine ⟨(), trivial, Weak.fam [(jX, some (3, 0, 0))] rfl (fun c hc => ?_) ?_ ?_ ?_ LC_keep2⟩
   ·rw [List.mem_singleton.1 (show c ∈ [(3, 0, 0)] from hc)]; exact .inl rfl
   ·exact .cons (.bp rfl rfl) (.cons (.bp rfl rfl) (.cons (.bp rfl rfl) (.i .nil)))
   ·refine .old rfl rfl (GB.one (.i (.i (.i (.cons .any (.i .nil))))) (fun e => by cases e)) (.old rfl rfl (GB.one (.cons (.bp rfl rfl) .nil) (fun e => by cases e)) (.old rfl rfl (GB.one (.i .nil) (fun _ => rfl)) ?_))
    exact Zcs rfl rfl rfl rfl (fun _ => rfl) rfl rfl rfl rfl rfl rfl rfl (fun q hq => Zcf hq)
   ·exact Zfh (fun _ _ => rfl) (fun q hq => Za1 hq)
 rintro _ _ τ hτ
 refine Zar hτ ?_
 (repeat' first | refine Zab ?_ | (refine Zaa tok (by rfl) ?_; conv => whnf))
 refine .inr ⟨_, _, _, uG (QH.tnX hP h32 (memX_sub rfl rfl rfl rfl rfl (fun _ => rfl)) rfl (fun q hq => hq)), ?_⟩
 conv => whnf
 (repeat' first | refine Zab ?_ | (refine Zaa tok (by rfl) ?_; conv => whnf))
 refine .inl ⟨_, _, _, uG (QC.fc (c_fCatches (padV m (s.stack.getD i default)).2.1 w) rfl), ?_⟩
 conv => whnf
 (repeat' (refine Zak ?_; conv => whnf))
 refine ⟨_, srcL [], rfl, ?_⟩
 rw [← and_assoc]
 refine ⟨leaveC rfl rfl rfl (Zcm rfl rfl rfl) rfl rfl rfl (fun q hq => bigX_fam hq), GV.bool ?_, LC_keep⟩
 exact padV_catch
end Go.Proofs.YtoelbgjpmpoolaaGreat
namespace Go.Proofs.YtoelbgjpmpoolaaGreat
open Go Dv
set_option maxRecDepth 10000
set_option linter.unusedSimpArgs false
def idxP (p : Nat → Bool) (n : Nat) : Int := match (List.range n).find? p with
 | some i => i
 | none => -1
theorem idxP_at {p : Nat → Bool} {n i : Nat} (hi : i < n) (h : p i = true) (hl : ∀ j, j < i → p j = false) : idxP p n = i := by
 unfold idxP
 rw [List.find?_range_eq_some.2 ⟨h, List.mem_range.2 hi, fun j hj => by rw [hl j hj]; rfl⟩]
theorem idxP_none {p : Nat → Bool} {n : Nat} (hl : ∀ j, j < n → p j = false) : idxP p n = -1 := by
 unfold idxP
 rw [List.find?_range_eq_none.2 (fun j hj => by rw [hl j hj]; rfl)]
theorem idxP_any {p : Nat → Bool} {n : Nat} : decide (0 ≤ idxP p n) = (List.range n).any p := by
 unfold idxP
 cases e : (List.range n).find? p with
 | none =>
  have : (List.range n).any p = false := by
   rw [Bool.eq_false_iff]; intro h
   obtain ⟨x, hx, hp⟩ := List.any_eq_true.1 h
   have := List.find?_eq_none.1 e x hx
   exact this hp
  rw [this]; rfl
 | some i =>
  have h1 := List.find?_some e
  have h2 := List.mem_of_find?_eq_some e
  rw [List.any_eq_true.2 ⟨i, h2, h1⟩]
  exact decide_eq_true (Int.natCast_nonneg i)
theorem weakC {n : Nat} {tl : List (Nat × AV)} {m : Zai} {s : Mach} {w : Int} {σ : ASt} (ht : TLg (srcL []) σ.h (orH (Zay (cL w ++ memL m s)) (famW s.stack)) σ.tm tl) (k1 : σ.h c1 = some c1B) (k2 : σ.h c2 = some (c2B w)) (h1 : σ.h jB = some (macB m s)) (h2 : σ.h jF = some (Zch s.stack)) (h3 : σ.h jE = some (evB s.events)) (h4 : σ.h jT = some (regB (topF s).regs)) (h5 : ∀ q, q < s.stack.length - 1 → σ.h (945, 0, q) = some (regB (s.stack.getD q default).regs)) :
  Weak n LC σ (mkF tl (cL w ++ memL m s) (famW s.stack)) := by
 refine Weak.fam [] rfl (fun c hc => by cases hc) ht ?_ ?_ LC_keep
 ·refine .old rfl k1 (GB.one (.cons (.bp rfl rfl) .nil) (fun e => by cases e)) (.old rfl k2 (GB.one (.i .nil) (fun _ => rfl)) ?_)
  exact Zcs rfl rfl rfl rfl (fun _ => rfl) h1 h2 h3 h4 rfl rfl rfl (fun q hq => Zcf hq)
 ·exact Zfh (fun _ _ => rfl) h5
theorem Zgy {m : Zai} {s : Mach} {w : Int} {d : List Dv.Id} {h : Zal} {q : Nat} (hq : q < s.stack.length - 1) : bigH d (memE (cL w) m s) h (945, 0, q) = some (regB (s.stack.getD q default).regs) := by
 unfold bigH
 rw [show memE (cL w) m s (945, 0, q) = famW s.stack (945, 0, q) from rfl, Za1 hq]
set_option maxHeartbeats 4000000 in
theorem c_IndexFr (m : Zai) (s : Mach) (w : Int) (h32 : s.stack.length ≤ 32) (hF : ∀ i, i < s.stack.length → OkF m (s.stack.getD i default)) (hp : ∀ i, i < s.stack.length → (Zao m (s.stack.getD i default)).fin.kind = 4 → 0 ≤ (Zao m (s.stack.getD i default)).fin.pad ∧ (Zao m (s.stack.getD i default)).fin.pad < (Zb7 m (s.stack.getD i default)).blocks.length) :
  HG Tryz.prog LC 196 (memE (cL w) m s) [.rs jF 5 0 s.stack.length, .fn 160 [.bp c1 0, .bp c2 0]] (iv (idxP (Zbs m s.stack w false) s.stack.length)) (memE (cL w) m s) := by
 refine Za7 tok Tryz.func196 rfl (by decide +kernel) (nB rfl) ?_
 have hmx : mL = 4294967296 := rfl
 have hC : ∀ k (hk : k < s.stack.length) T, Zbi s.stack k = .rs T 1 0 (s.stack.getD k default).regs.length → HG Tryz.prog LC 160 (memE (cL w) m s) [.agg [iv (s.stack.getD k default).f, iv (s.stack.getD k default).block, iv (s.stack.getD k default).at_, .rs T 1 0 (s.stack.getD k default).regs.length, .int .u16 (s.stack.getD k default).fly], .bp c1 0, .bp c2 0] (.bool (Zbs m s.stack w false k)) (memE (cL w) m s) := fun k hk T e => by
  have := c_mThr1 m s w k hk h32 (hF k hk) (hp k hk)
  unfold frC at this
  rw [e] at this; exact this
 (repeat' first | refine Zab ?_ | (refine Zaa tok (by rfl) ?_; conv => whnf) | refine Zah ?_)
 refine Zax (fun i : Nat => mkF [(0, .rs jF 5 0 s.stack.length), (1, .fn 160 [.bp c1 0, .bp c2 0]), (7, iv s.stack.length), (8, iv i)] (cL w ++ memL m s) (famW s.stack)) (fun i => i ≤ s.stack.length ∧ ∀ j, j < i → Zbs m s.stack w false j = false) (fun i => s.stack.length - i) 0 ⟨Nat.zero_le _, fun j h => absurd h (Nat.not_lt_zero j)⟩ ?_ ?_
 ·exact weakC (.cons (.rs rfl rfl rfl rfl) (.cons (.fn (.cons (.bp rfl rfl) (.cons (.bp rfl rfl) .nil))) (.i (.i .nil)))) rfl rfl rfl rfl rfl rfl (fun q hq => Za1 hq)
 rintro i ⟨hi, hno⟩
 have hz : 0 + (i : Int).toNat = i := by simp
 (repeat' ((fail_if_success (show Rg 3)); (fail_if_success (show Rg 7)); first | refine Zab ?_ | (refine Zaa tok (by rfl) ?_; conv => whnf) | refine Zah ?_ | (refine Zag ?_; conv => whnf) | (refine Za0 ?_; conv => whnf) | refine Zaf rfl (fun hb => ?_) (fun hb => ?_)))
 ·have hlt : i < s.stack.length := by simp only [decide_eq_true_eq] at hb; omega
  clear hb
  have hkl : 0 + (i : Int).toNat < s.stack.length := by omega
  by_cases hq : 0 + (i : Int).toNat < s.stack.length - 1
  all_goals ((repeat' first | refine Zab ?_ | (refine Zaa tok (by rfl) ?_; conv => whnf) | (refine uA ?_ ?_; rotate_left; (conv => whnf); rotate_right)); all_goals (try ((guard_target = Zac _ _ _ _); refine Zae ?_; (all_goals (try simp only [Zac, kZ, kA, kB, mL, Zad] at *)); all_goals omega)))
  ·refine fAV (x := Zbi s.stack (0 + (i : Int).toNat)) (y := .rs (945, 0, 0 + (i : Int).toNat) 1 0 (s.stack.getD (0 + (i : Int).toNat) default).regs.length) (Zcg hq) ?_
   conv => whnf
   skip
   refine .inr ⟨_, _, _, uG (QH.tnE (.head _) (.tail _ (.head _)) rfl rfl rfl rfl (fun _ => rfl) cL_closed cL_pin (hC _ hkl _ (Zcg hq)) h32 (memE_sub (fun j b e => ?_) rfl rfl rfl rfl (fun _ => rfl)) ?_ (fun q hq => hq)), ?_⟩
   ·rcases cL_some e with ⟨rfl, rfl⟩ | ⟨rfl, rfl⟩ <;> rfl
   ·show [AV.agg [_, _, _, match kpH (memE (cL w) m s) (945, 0, 0 + (i : Int).toNat) with | some j => AV.rs j 1 0 _ | none => .any, _], _, _] = _
    rw [kpH_is (by rw [Zfn rfl, Zef, Za1 hq]; rfl)]; rfl
   conv => whnf
   (repeat' first | refine Zab ?_ | (refine Zaa tok (by rfl) ?_; conv => whnf) | (refine Zag ?_; conv => whnf) | (refine Zak ?_; conv => whnf) | refine Zaf rfl (fun hb => ?_) (fun hb => ?_))
   ·refine ⟨_, srcL [], rfl, ?_⟩
    rw [← and_assoc]
    refine ⟨leaveC rfl rfl rfl (Zcm rfl rfl rfl) rfl rfl rfl (fun q hq => Zgy hq), GV.int ?_, LC_keep⟩
    exact (idxP_at hlt (by rw [← hz]; exact hb) hno).symm
   ·refine ⟨i + 1, ⟨by omega, fun j hj => ?_⟩, by omega, weakC (.cons (.rs rfl rfl rfl rfl) (.cons (.fn (.cons (.bp rfl rfl) (.cons (.bp rfl rfl) .nil))) (.i (.cons (.int ?_) .nil)))) rfl rfl rfl rfl rfl rfl (fun q hq => Zgy hq)⟩
    ·by_cases e : j = i
     ·subst e; rw [← hz]; simpa using hb
     ·exact hno j (by omega)
    ·rw [wrap64 (by omega) (by omega)]; omega
  ·refine fAV (x := Zbi s.stack (0 + (i : Int).toNat)) (y := .rs jT 1 0 (s.stack.getD (0 + (i : Int).toNat) default).regs.length) (Zdc (by omega)) ?_
   conv => whnf
   skip
   refine .inr ⟨_, _, _, uG (QH.tnE (.head _) (.tail _ (.head _)) rfl rfl rfl rfl (fun _ => rfl) cL_closed cL_pin (hC _ hkl _ (Zdc (by omega))) h32 (memE_sub (fun j b e => ?_) rfl rfl rfl rfl (fun _ => rfl)) ?_ (fun q hq => hq)), ?_⟩
   ·rcases cL_some e with ⟨rfl, rfl⟩ | ⟨rfl, rfl⟩ <;> rfl
   ·show [AV.agg [_, _, _, match kpH (memE (cL w) m s) jT with | some j => AV.rs j 1 0 _ | none => .any, _], _, _] = _
    rw [kpH_is rfl]; rfl
   conv => whnf
   (repeat' first | refine Zab ?_ | (refine Zaa tok (by rfl) ?_; conv => whnf) | (refine Zag ?_; conv => whnf) | (refine Zak ?_; conv => whnf) | refine Zaf rfl (fun hb => ?_) (fun hb => ?_))
   ·refine ⟨_, srcL [], rfl, ?_⟩
    rw [← and_assoc]
    refine ⟨leaveC rfl rfl rfl (Zcm rfl rfl rfl) rfl rfl rfl (fun q hq => Zgy hq), GV.int ?_, LC_keep⟩
    exact (idxP_at hlt (by rw [← hz]; exact hb) hno).symm
   ·refine ⟨i + 1, ⟨by omega, fun j hj => ?_⟩, by omega, weakC (.cons (.rs rfl rfl rfl rfl) (.cons (.fn (.cons (.bp rfl rfl) (.cons (.bp rfl rfl) .nil))) (.i (.cons (.int ?_) .nil)))) rfl rfl rfl rfl rfl rfl (fun q hq => Zgy hq)⟩
    ·by_cases e : j = i
     ·subst e; rw [← hz]; simpa using hb
     ·exact hno j (by omega)
    ·rw [wrap64 (by omega) (by omega)]; omega
 ·have hge : ¬ i < s.stack.length := by simp only [decide_eq_false_iff_not] at hb; omega
  (repeat' first | (refine Zaa tok (by rfl) ?_; conv => whnf) | (refine Zak ?_; conv => whnf))
  refine ⟨_, srcL [], rfl, ?_⟩
  rw [← and_assoc]
  refine ⟨leaveC rfl rfl rfl (Zcm rfl rfl rfl) rfl rfl rfl (fun q hq => Za1 hq), GV.int ?_, LC_keep⟩
  rw [idxP_none (fun j hj => hno j (by omega))]
theorem c_ContainsFr (m : Zai) (s : Mach) (w : Int) (h32 : s.stack.length ≤ 32) (hF : ∀ i, i < s.stack.length → OkF m (s.stack.getD i default)) (hp : ∀ i, i < s.stack.length → (Zao m (s.stack.getD i default)).fin.kind = 4 → 0 ≤ (Zao m (s.stack.getD i default)).fin.pad ∧ (Zao m (s.stack.getD i default)).fin.pad < (Zb7 m (s.stack.getD i default)).blocks.length) :
  HG Tryz.prog LC 159 (memE (cL w) m s) [.rs jF 5 0 s.stack.length, .fn 160 [.bp c1 0, .bp c2 0]] (.bool ((List.range s.stack.length).any (Zbs m s.stack w false))) (memE (cL w) m s) := by
 refine Za7 tok Tryz.func159 rfl (by decide +kernel) (nB rfl) ?_
 have hI := c_IndexFr m s w h32 hF hp
 (repeat' first | refine Zab ?_ | (refine Zaa tok (by rfl) ?_; conv => whnf))
 refine .inr ⟨_, _, _, uG (QH.tnE (.head _) (.tail _ (.head _)) rfl rfl rfl rfl (fun _ => rfl) cL_closed cL_pin hI h32 (fun j b e => e) rfl (fun q hq => hq)), ?_⟩
 conv => whnf
 (repeat' (refine Zak ?_; conv => whnf))
 refine ⟨_, srcL [], rfl, ?_⟩
 rw [← and_assoc]
 exact ⟨leaveC rfl rfl rfl (Zcm rfl rfl rfl) rfl rfl rfl (fun q hq => Zgy hq), GV.bool idxP_any, LC_keep⟩
set_option linter.unusedSimpArgs false
theorem weakCW {n : Nat} {tl : List (Nat × AV)} {m : Zai} {s : Mach} {w : Int} {σ : ASt} (ht : TLg (srcL []) σ.h (orH (Zay (cL w ++ memL m s)) (famW s.stack)) σ.tm tl) (k1 : σ.h c1 = some c1B) (k2 : σ.h c2 = some (c2B w)) (h1 : σ.h jB = some (macB m s)) (h2 : σ.h jF = some (Zch s.stack)) (h3 : σ.h jE = some (evB s.events)) (h4 : σ.h jT = some (regB (topF s).regs)) (h5 : ∀ q, q < s.stack.length - 1 → σ.h (945, 0, q) = some (regB (s.stack.getD q default).regs)) :
  Weak n LW σ (mkF tl (cL w ++ memL m s) (famW s.stack)) := by
 refine Weak.fam [] rfl (fun c hc => by cases hc) ht ?_ ?_ LW_keepL
 ·refine .old rfl k1 (GB.one (.cons (.bp rfl rfl) .nil) (fun e => by cases e)) (.old rfl k2 (GB.one (.i .nil) (fun _ => rfl)) ?_)
  exact Zcs rfl rfl rfl rfl (fun _ => rfl) h1 h2 h3 h4 rfl rfl rfl (fun q hq => Zcf hq)
 ·exact Zfh (fun _ _ => rfl) h5
theorem lendOne {l : List Int} : ∀ j b, oneR l j = some b → j = r0 ∧ b = regB l := fun j b e => by
 have := Zdm (i := j) (by rw [e]; rfl)
 subst this
 exact ⟨rfl, (Option.some.inj e).symm⟩
theorem LW_keepS {tl : List (Dv.Id × Zam)} {F : Zal} {S : List (Dv.Id × Option Dv.Id)} (hB : (orH (Zay tl) F jB).isSome = true ∧ srcL S jB = some jB := by exact ⟨rfl, rfl⟩) (hF : (orH (Zay tl) F jF).isSome = true ∧ srcL S jF = some jF := by exact ⟨rfl, rfl⟩) : ∀ i ∈ LW, Zer i = true → (orH (Zay tl) F i).isSome = true ∧ srcL S i = some i := fun i hi _ => by
 rcases List.mem_cons.1 hi with rfl | hi
 ·exact hB
 ·rw [List.mem_singleton.1 hi]; exact hF
set_option maxHeartbeats 4000000 in
theorem c_mThr (m : Zai) (s : Mach) (w : Int) (hr : Zbd m = true) (h : 0 < s.stack.length) (h32 : s.stack.length ≤ 32) (hF : ∀ i, i < s.stack.length → OkF m (s.stack.getD i default)) :
  HG Tryz.prog LW 117 (mem m s) [.bp jB 0, .int .u16 w] (.tup []) (mem m (Zbu m s w)) := by
 refine Za7 tok Tryz.func117 rfl (by decide +kernel) (nB rfl) ?_
 have hmx : mL = 4294967296 := rfl
 have hpl := Zcq (s := s)
 have hgen : ∃ p, popM s = p := ⟨_, rfl⟩
 obtain ⟨p, hp⟩ := hgen
 have hP := c_mPop m s h (by omega)
 have hF2 : ∀ i, i < p.stack.length → OkF m (p.stack.getD i default) := fun i hi => by
  rw [← hp] at hi ⊢
  rw [show (popM s).stack.getD i default = s.stack.getD i default from Zbq _ (by omega)]
  exact hF i (by omega)
 have hpp : ∀ i, i < p.stack.length → (Zao m (p.stack.getD i default)).fin.kind = 4 → 0 ≤ (Zao m (p.stack.getD i default)).fin.pad ∧ (Zao m (p.stack.getD i default)).fin.pad < (Zb7 m (p.stack.getD i default)).blocks.length := fun i hi hk => (okF_pad hr (hF2 i hi) hk).1
 have hT0 : Zbu m s w = if (List.range p.stack.length).any (Zbs m p.stack w false) = true then
   Zbx (Zdo p (Zex (Zbs m p.stack w true) (p.stack.length - 1) + 1)) (landF m (p.stack.getD (Zex (Zbs m p.stack w true) (p.stack.length - 1)) default) (Zao m (p.stack.getD (Zex (Zbs m p.stack w true) (p.stack.length - 1)) default)).fin.pad w)
   else endM p 2 w := by rw [← hp]; rfl
 rw [hp] at hP hpl
 have hC := c_ContainsFr m p w (by omega) hF2 hpp
 rw [hT0]
 (repeat' ((fail_if_success (show Rg 1)); first | refine Zab ?_ | (refine Zaa tok (by rfl) ?_; conv => whnf)))
 refine Zar (Weak.fam (L := LW) (tl := [(2, .bp c1 0), (3, .bp c2 0)]) (hl := cL w ++ memL m s) (F := famW s.stack) [(c1, some (2, 0, 0)), (c2, some (3, 0, 0))] rfl (fun c hc => ?_) ?_ ?_ ?_ LW_keepS) ?_
 ·rcases List.mem_cons.1 (show c ∈ [(2, 0, 0), (3, 0, 0)] from hc) with rfl | hc
  ·exact .inl rfl
  ·rw [List.mem_singleton.1 hc]; exact .inl rfl
 ·exact .cons (.bp rfl rfl) (.cons (.bp rfl rfl) .nil)
 ·refine .old rfl rfl (GB.one (.cons (.bp rfl rfl) .nil) (fun e => by cases e)) (.old rfl rfl (GB.one (.i .nil) (fun _ => rfl)) ?_)
  exact Zcs rfl rfl rfl rfl (fun _ => rfl) rfl rfl rfl rfl rfl rfl rfl (fun q hq => Zcf hq)
 ·exact Zfh (fun _ _ => rfl) (fun q hq => Za1 hq)
 (repeat' (refine Zaa tok (by rfl) ?_; conv => whnf))
 refine .inr ⟨_, _, _, uG (QH.tnM (by simp) (by simp) hP (by omega) (Za3 rfl rfl rfl rfl (fun _ => rfl)) rfl (fun q hq => Zan hq)), ?_⟩
 conv => whnf
 (repeat' ((fail_if_success (show Rg 2)); refine Zab ?_))
 refine Zar (weakCW (tl := [(2, .bp c1 0), (3, .bp c2 0)]) (.cons (.bp rfl rfl) (.cons (.bp rfl rfl) .nil)) rfl rfl rfl rfl rfl rfl (fun q hq => Za9 hq)) ?_
 (repeat' (refine Zaa tok (by rfl) ?_; conv => whnf))
 refine .inr ⟨_, _, _, uG (QH.tnE (.head _) (.tail _ (.head _)) rfl rfl rfl rfl (fun _ => rfl) cL_closed cL_pin hC (by omega) (fun j b e => e) rfl (fun q hq => hq)), ?_⟩
 conv => whnf
 (repeat' ((fail_if_success (show Rg 4)); (fail_if_success (show Rg 5)); first | refine Zab ?_ | (refine Zaa tok (by rfl) ?_; conv => whnf) | refine Zah ?_ | (refine Zag ?_; conv => whnf) | refine Zaf rfl (fun hb => ?_) (fun hb => ?_)))
 ·have hn : ¬ (List.range p.stack.length).any (Zbs m p.stack w false) = true := by simpa using hb
  rw [if_neg hn]
  refine Zar (weakCW (tl := [(2, .bp c1 0), (3, .bp c2 0)]) (.cons (.bp rfl rfl) (.cons (.bp rfl rfl) .nil)) rfl rfl rfl rfl rfl rfl (fun q hq => Zgy hq)) ?_
  (repeat' (refine Zaa tok (by rfl) ?_; conv => whnf))
  refine .inr ⟨_, _, _, uG (QH.tnM (by simp) (by simp) (c_mEnd m p 2 w) (by omega) (Za3 rfl rfl rfl rfl (fun q => rfl)) rfl (fun q hq => Zan hq)), ?_⟩
  conv => whnf
  (repeat' (refine Zak ?_; conv => whnf))
  refine ⟨_, srcL [], rfl, ?_⟩
  rw [← and_assoc]
  exact ⟨Zd1 (s := endM p 2 w) rfl rfl rfl (Zcm rfl rfl rfl) rfl rfl rfl (fun q hq => Za9 hq), .tup .nil, Zc4⟩
 have hany : (List.range p.stack.length).any (Zbs m p.stack w false) = true := by simpa using hb
 clear hb
 rw [if_pos hany]
 obtain ⟨i0, hi0, hci⟩ := List.any_eq_true.1 hany
 rw [List.mem_range] at hi0
 have hex : ∃ j, j ≤ p.stack.length - 1 ∧ Zbs m p.stack w true j = true := ⟨i0, by omega, Zf6 hci⟩
 have hgen : ∃ K, Zex (Zbs m p.stack w true) (p.stack.length - 1) = K := ⟨_, rfl⟩
 obtain ⟨K, hK⟩ := hgen
 obtain ⟨hK1, hK2⟩ := Zfa hex
 rw [hK] at hK1 hK2 ⊢
 have hKl : K < p.stack.length := by omega
 have htl : ∀ n, n ≤ p.stack.length - 1 → (Zdo p (n + 1)).stack.length = n + 1 := fun n hn => by simp [Zdo]; omega
 have htk : ∀ n, n ≤ p.stack.length - 1 → (Zdo p (n + 1)).stack.getD n default = p.stack.getD n default := fun n hn => Zbq _ (by omega)
 have hfull : Zdo p (p.stack.length - 1 + 1) = p := by
  unfold Zdo
  rw [show p.stack.length - 1 + 1 = p.stack.length by omega, List.take_length]
 refine Zax (fun n : Nat => mkF [(2, .bp c1 0), (3, .bp c2 0)] (cL w ++ memL m (Zdo p (n + 1))) (famW (Zdo p (n + 1)).stack)) (fun n => n ≤ p.stack.length - 1 ∧ Zex (Zbs m p.stack w true) n = K ∧ ∃ j, j ≤ n ∧ Zbs m p.stack w true j = true) (fun n => n) (p.stack.length - 1) ⟨Nat.le_refl _, hK, hex⟩ ?_ ?_
 ·rw [hfull]
  exact weakCW (.cons (.bp rfl rfl) (.cons (.bp rfl rfl) .nil)) rfl rfl rfl rfl rfl rfl (fun q hq => Zgy hq)
 rintro n ⟨hn1, hn2, hn3⟩
 have hgen : ∃ u, Zdo p (n + 1) = u := ⟨_, rfl⟩
 obtain ⟨u, hu⟩ := hgen
 have hul := htl n hn1
 have hut := htk n hn1
 rw [hu] at hul hut ⊢
 have hu1 : u.stack.length - 1 = n := by omega
 have hPd := c_mPad m u n (by omega) (by omega) (by rw [hut]; exact hF2 n (by omega)) (by rw [hut]; exact hpp n (by omega))
 rw [hut] at hPd
 have hTp := Zf7 m u (by omega) (by omega)
 rw [hu1] at hTp
 (repeat' first | refine Zab ?_ | (refine Zaa tok (by rfl) ?_; conv => whnf) | refine Zah ?_)
 refine .inr ⟨_, _, _, uG (QH.tnM (by simp) (by simp) hTp (by omega) (Za3 rfl rfl rfl rfl (fun q => rfl)) rfl (fun q hq => Zan hq)), ?_⟩
 conv => whnf
 (repeat' first | refine Zab ?_ | (refine Zaa tok (by rfl) ?_; conv => whnf))
 refine .inr ⟨_, _, _, uG (QH.tnM (by simp) (by simp) hPd (by omega) (Za3 rfl rfl rfl rfl (fun q => Zbw (fun hq => Zan (by omega)))) rfl (fun q hq => (Zbw (fun hq => Zan (by omega))).trans (Zan hq))), ?_⟩
 conv => whnf
 (repeat' first | refine Zab ?_ | (refine Zaa tok (by rfl) ?_; conv => whnf))
 refine .inl ⟨_, _, _, uG (QC.fc (c_fCatches (padV m (p.stack.getD n default)).2.1 w) rfl), ?_⟩
 conv => whnf
 (repeat' ((fail_if_success (show Rg 8)); (fail_if_success (show Rg 9)); first | refine Zab ?_ | (refine Zag ?_; conv => whnf) | refine Zaf rfl (fun hb => ?_) (fun hb => ?_)))
 ·have hyes : Zbs m p.stack w true n = true := by
   show Zcw m (p.stack.getD n default) w true = true
   rw [← padV_catch2]
   simpa using hb
  clear hb
  have hnK : n = K := by rw [← hn2, downK_yes hyes]
  subst hnK
  rw [hu]
  have htop : topF u = p.stack.getD n default := by unfold topF; rw [hu1]; exact hut
  have hk4 : (Zao m (p.stack.getD n default)).fin.kind = 4 := by
   unfold Zbs Zcw at hyes
   simp only [Bool.and_eq_true, decide_eq_true_eq] at hyes
   exact hyes.2.1
  have hkE : endB m (p.stack.getD n default) = true := by
   unfold Zbs Zcw at hyes
   simp only [Bool.and_eq_true, decide_eq_true_eq] at hyes
   exact hyes.1
  have hpv : (padV m (p.stack.getD n default)).1 = (Zao m (p.stack.getD n default)).fin.pad := by
   unfold padV; rw [if_pos ⟨hkE, hk4⟩]
  obtain ⟨⟨g1, g2⟩, g3, g4, g5⟩ := okF_pad hr (hF2 n hKl) hk4
  have hL := c_fLand m (p.stack.getD n default) (Zao m (p.stack.getD n default)).fin.pad w hr (hF2 n hKl) g1 g2 g3 ⟨g4, g5⟩
  rw [← hpv, ← htop] at hL ⊢
  have hgen : ∃ k, (padV m (topF u)).1 = k := ⟨_, rfl⟩
  obtain ⟨k, hk⟩ := hgen
  rw [hk] at hL ⊢
  have hgen : ∃ g, landF m (topF u) k w = g := ⟨_, rfl⟩
  obtain ⟨g, hg⟩ := hgen
  rw [hg] at hL ⊢
  have hle : n < u.stack.length := by omega
  have hrt : Zbi u.stack n = .rs jT 1 0 (topF u).regs.length := Zbg (by omega) hu1.symm
  have hut2 : u.stack.getD n default = topF u := by rw [htop]; exact hut
  refine Zar (weakCW (tl := [(2, .bp c1 0), (3, .bp c2 0), (5, .rp jF 5 n 0), (6, iv k)]) (.cons (.bp rfl rfl) (.cons (.bp rfl rfl) (.cons (.rp rfl rfl rfl) (.cons (.int (by rw [← hk, htop])) .nil)))) rfl rfl rfl rfl rfl rfl (fun q hq => Za9 hq)) ?_
  refine Zdv tok mix (by rfl) [0, 1, 2, 3, 4, 5, 6, 8, 9, 14] 30 (by rfl) (by rfl) (by rfl) ?_
  conv => whnf
  (repeat' first
   | (refine fAV (x := Zbi u.stack n) (y := .rs jT 1 0 (topF u).regs.length) hrt ?_; (conv => whnf))
   | (refine uA ?_ ?_; rotate_left; (conv => whnf); rotate_right)
   | (guard_target = And _ _; refine @And.intro (gOp _ _ _ _ _ _ _ _ _) _ (by (conv => whnf); first | exact ⟨rfl, rfl⟩ | (refine fAV (x := Zbi u.stack n) (y := .rs jT 1 0 (topF u).regs.length) hrt ?_; (conv => whnf); exact ⟨rfl, rfl⟩)) ?_; conv => whnf)
   | (guard_target = And _ _; refine And.intro ?_ ?_ <;> (conv => whnf)))
  all_goals (try ((guard_target = Zac _ _ _ _); refine Zae ?_; (all_goals (try simp only [Zac, kZ, kA, kB, mL, Zad] at *)); all_goals omega))
  all_goals (try (show AV.agg [_, _, _, Zbi u.stack n, _] = AV.agg [_, _, _, .rs jT 1 0 (topF u).regs.length, _]; rw [hrt]; done))
  have hut3 : (u.stack.getD n default) = (u.stack.getD (u.stack.length - 1) default) := by rw [hu1]
  have hL' : HF Tryz.prog 163 [.agg (Zbf m), .agg (Zby (u.stack.getD n default)), iv k, .int .u16 w] (.tup [.agg (frO g (.rs r0 1 0 g.regs.length)), iv 0]) (oneR g.regs) := by rw [hut2]; exact hL
  refine .inr ⟨_, _, _, uG (QH.lendF (rd := [jT]) hL' (.i (.cons (.agg (.i (.i (.i (.cons (.row rfl (.head _) rfl (by rw [hut2]) (fun q hq => by rw [hut2])) (.i .nil)))))) (.i (.i .nil)))) (fun i hi => by rw [Zdm hi]; rfl) rfl (fun j b e => by
   obtain ⟨rfl, rfl⟩ := lendOne j b e
   exact fun i hi => rfl)), ?_⟩
  conv => whnf
  (repeat' first
   | (refine fAV (x := Zbi u.stack n) (y := .rs jT 1 0 (topF u).regs.length) hrt ?_; (conv => whnf))
   | (refine uA ?_ ?_; rotate_left; (conv => whnf); rotate_right)
   | (guard_target = And _ _; refine @And.intro (gOp _ _ _ _ _ _ _ _ _) _ (by (conv => whnf); first | exact ⟨rfl, rfl⟩ | (refine fAV (x := Zbi u.stack n) (y := .rs jT 1 0 (topF u).regs.length) hrt ?_; (conv => whnf); exact ⟨rfl, rfl⟩)) ?_; conv => whnf)
   | (guard_target = And _ _; refine And.intro ?_ ?_ <;> (conv => whnf)))
  all_goals (try ((guard_target = Zac _ _ _ _); refine Zae ?_; (all_goals (try simp only [Zac, kZ, kA, kB, mL, Zad] at *)); all_goals omega))
  all_goals (try (show AV.agg [_, _, _, Zbi u.stack n, _] = AV.agg [_, _, _, .rs jT 1 0 (topF u).regs.length, _]; rw [hrt]; done))
  all_goals
   (repeat' (refine Zak ?_; conv => whnf))
   refine ⟨_, srcT jE r0, rfl, ?_⟩
   rw [← and_assoc]
   refine ⟨leaveG (s := u) (g := g) (n' := u.stack.length) (by omega) rfl rfl (.inr (.inl rfl)) (.inl rfl) rfl ?_ rfl (Nat.le_refl _) (fun q hq => ?_) ?_ rfl (Zd8 _) rfl (Zb0 _) (fun q hq => ?_), .tup .nil, keepT⟩
   ·exact Zez (s := Zbx u g) (Zdq (s := u) (by omega)).symm rfl rfl rfl rfl
   ·exact Zct (by omega)
   ·rw [hu1]; exact Zds
   ·refine Zfj (d := []) (u := oneR g.regs) rfl rfl ?_
    exact Za1 hq
 ·have hno : ¬ Zbs m p.stack w true n = true := by
   show ¬ Zcw m (p.stack.getD n default) w true = true
   rw [← padV_catch2]
   simpa using hb
  clear hb
  obtain ⟨e1, e2⟩ := downK_no hn3 hno
  have hPu := c_mPop m u (by omega) (by omega)
  have hpu : popM u = Zdo p (n - 1 + 1) := by
   rw [← hu]
   unfold popM Zdo
   simp only [List.length_take, List.take_take]
   congr 2
   omega
  rw [hpu] at hPu
  refine Zar (weakCW (tl := [(2, .bp c1 0), (3, .bp c2 0)]) (.cons (.bp rfl rfl) (.cons (.bp rfl rfl) .nil)) rfl rfl rfl rfl rfl rfl (fun q hq => Za9 hq)) ?_
  (repeat' (refine Zaa tok (by rfl) ?_; conv => whnf))
  refine .inr ⟨_, _, _, uG (QH.tnM (by simp) (by simp) hPu (by omega) (Za3 rfl rfl rfl rfl (fun q => rfl)) rfl (fun q hq => Zan hq)), ?_⟩
  conv => whnf
  skip
  refine ⟨n - 1, ⟨by omega, by rw [← e2]; exact hn2, ?_⟩, by omega, weakCW (.cons (.bp rfl rfl) (.cons (.bp rfl rfl) .nil)) rfl rfl rfl rfl rfl rfl (fun q hq => Za9 hq)⟩
  obtain ⟨j, j1, j2⟩ := hn3
  refine ⟨j, ?_, j2⟩
  rcases Nat.lt_or_ge j n with h3 | h3
  ·omega
  ·have : j = n := by omega
   subst this; exact absurd j2 hno
set_option linter.unusedSimpArgs false
theorem weakW {n : Nat} {tl : List (Nat × AV)} {el : List (Dv.Id × Zam)} {m : Zai} {s : Mach} {σ : ASt} {L : List Dv.Id} (ht : TLg (srcL []) σ.h (orH (Zay (el ++ memL m s)) (famW s.stack)) σ.tm tl) (he : HLs (srcL []) σ.h (orH (Zay (el ++ memL m s)) (famW s.stack)) (el ++ memL m s)) (h5 : ∀ q, q < s.stack.length - 1 → σ.h (945, 0, q) = some (regB (s.stack.getD q default).regs))
  (hL : ∀ i ∈ L, Zer i = true → (orH (Zay (el ++ memL m s)) (famW s.stack) i).isSome = true ∧ srcL [] i = some i) : Weak n L σ (mkF tl (el ++ memL m s) (famW s.stack)) := by
 exact Weak.fam [] rfl (fun c hc => by cases hc) ht he (Zfh (fun _ _ => rfl) h5) hL
set_option maxHeartbeats 4000000 in
theorem c_mStepT (m : Zai) (s s1 : Mach) (f : Zap) (hf : topF s = f) (h : 0 < s.stack.length) (h32 : s.stack.length ≤ 32) (hF : OkF m f) (he : endB m f = false) (hl : s1.stack.length = s.stack.length) (hat0 : 0 ≤ (topF s1).at_) (hat : (topF s1).at_ < 1000000)
  (hI : HG Tryz.prog LW 113 (mem m s) [.bp jB 0, .rp jF 5 (s.stack.length - 1) 0, .agg (Zbe ((Zao m f).ins.getD f.at_.toNat default))] (.bool true) (mem m s1)) :
  HG Tryz.prog [jB] 64 (mem m s) [.bp jB 0] (.tup []) (mem m (Zbx s1 (goOn (topF s1)))) := by
 refine Za7 tok Tryz.func64 rfl (by decide +kernel) (nB rfl) ?_
 have hmx : mL = 4294967296 := rfl
 have hft : s.stack.getD (s.stack.length - 1) default = f := hf
 have hT := Zf7 m s h (by omega)
 have hB := Zdu m s (s.stack.length - 1) (by omega) (by rw [hft]; exact hF)
 rw [hft] at hB
 have hE : ¬ f.at_ = (Zao m f).ins.length := fun e => by
  have : endB m f = true := decide_eq_true e
  rw [he] at this; cases this
 have hgen : ∃ b, Zao m f = b := ⟨_, rfl⟩
 obtain ⟨b, hbe⟩ := hgen
 have a0 := hF.a0
 have a1 := hF.a1
 rw [hbe] at hB hE a1 hI
 (repeat' ((fail_if_success (show Rg 0)); refine Zab ?_))
 (repeat' (refine Zaa tok (by rfl) ?_; conv => whnf))
 refine .inr ⟨_, _, _, uG (QH.tnM (by simp) (by simp) hT h32 (Za3 rfl rfl rfl rfl (fun _ => rfl)) rfl (fun q hq => Zan hq)), ?_⟩
 conv => whnf
 (repeat' ((fail_if_success (show Rg 1)); refine Zab ?_))
 (repeat' (refine Zaa tok (by rfl) ?_; conv => whnf))
 refine .inr ⟨_, _, _, uG (QH.tnM (by simp) (by simp) hB h32 (Za3 rfl rfl rfl rfl (fun _ => Zbw (fun hq => Zan (by omega)))) rfl (fun q hq => (Zbw (fun hq => Zan (by omega))).trans (Zan hq))), ?_⟩
 conv => whnf
 ((repeat' ((fail_if_success (show Rg 3)); (fail_if_success (show Rg 5)); first | refine Zab ?_ | (refine Zas tok mix (by rfl) ?_; conv => whnf) | (refine Zag ?_; conv => whnf) | refine Zaf rfl (fun hb => ?_) (fun hb => ?_) | (refine uA ?_ ?_; rotate_left; (conv => whnf); rotate_right))); all_goals (try ((guard_target = Zac _ _ _ _); refine Zae ?_; (all_goals (try simp only [Zac, kZ, kA, kB, mL, Zad] at *)); all_goals omega)))
 ·clear hb
  refine Zar (weakW (m := m) (s := s) (L := [jB]) (tl := [(0, .bp jB 0), (2, .rp jF 5 (s.stack.length - 1) 0), (3, .bp (3, 0, 0) 0)]) (el := [((3, 0, 0), Za2 (Za5 b))]) ?_ ?_ (fun q hq => Za9 hq) (fun i hi _ => by rw [List.mem_singleton.1 hi]; exact ⟨rfl, rfl⟩)) ?_
  ·exact .cons (.bp rfl rfl) (.cons (.rp rfl rfl rfl) (.cons (.bp rfl rfl) .nil))
  ·exact .old rfl rfl (GB.one (GVs.imm rfl) (fun _ => rfl)) (Zcs rfl rfl rfl rfl (fun _ => rfl) rfl rfl rfl rfl rfl rfl rfl (fun q hq => Zcf hq))
  have hle : s.stack.length - 1 < s.stack.length := by omega
  have hat1 : (s.stack.getD (s.stack.length - 1) default).at_.toNat < b.ins.length := by rw [hft]; omega
  have hat0' : 0 ≤ (s.stack.getD (s.stack.length - 1) default).at_ := by rw [hft]; omega
  have hI' : HG Tryz.prog LW 113 (mem m s) [.bp jB 0, .rp jF 5 (s.stack.length - 1) 0, .agg (Zbe (b.ins.getD (s.stack.getD (s.stack.length - 1) default).at_.toNat default))] (.bool true) (mem m s1) := by rw [hft]; exact hI
  have hle1 : s.stack.length - 1 < s1.stack.length := by omega
  have htp : s1.stack.getD (s.stack.length - 1) default = topF s1 := by rw [← hl]; rfl
  have hatt : 0 ≤ (s1.stack.getD (s.stack.length - 1) default).at_ ∧ (s1.stack.getD (s.stack.length - 1) default).at_ < 1000000 := by rw [htp]; exact ⟨hat0, hat⟩
  ((repeat' first | (refine Zas tok mix (by rfl) ?_; conv => whnf) | (refine uA ?_ ?_; rotate_left; (conv => whnf); rotate_right)); all_goals (try ((guard_target = Zac _ _ _ _); refine Zae ?_; (all_goals (try simp only [Zac, kZ, kA, kB, mL, Zad] at *)); all_goals omega)))
  refine .inr ⟨_, _, _, uG (QH.tnM (by simp) (by simp) hI' h32 (Za3 rfl rfl rfl rfl (fun _ => rfl)) rfl (fun q hq => Zan hq)), ?_⟩
  conv => whnf
  (repeat' ((fail_if_success (show Rg 4)); first | (refine Zag ?_; conv => whnf) | (refine Zak ?_; conv => whnf) | refine Zaf rfl (fun hb => ?_) (fun hb => ?_)))
  all_goals (try (exfalso; cases hb; done))
  clear hb
  ((repeat' first | (refine Zaa tok (by rfl) ?_; conv => whnf) | (refine uA ?_ ?_; rotate_left; (conv => whnf); rotate_right)); all_goals (try ((guard_target = Zac _ _ _ _); refine Zae ?_; (all_goals (try simp only [Zac, kZ, kA, kB, mL, Zad] at *)); all_goals omega)))
  refine fAV (x := Zbi s1.stack (s.stack.length - 1)) (y := .rs jT 1 0 (topF s1).regs.length) (Zbg (by omega) (by rw [hl])) ?_
  conv => whnf
  (repeat' (refine Zak ?_; conv => whnf))
  refine ⟨_, srcT jE jT, rfl, ?_⟩
  rw [← and_assoc]
  refine ⟨leaveG (s := s1) (g := goOn (topF s1)) (n' := s1.stack.length) (by omega) rfl rfl (.inr (.inl rfl)) (.inr (.inr rfl)) rfl ?_ rfl (Nat.le_refl _) (fun q hq => ?_) ?_ rfl (Zd8 _) rfl (Zb0 _) (fun q hq => Za9 (s := s1) hq), .tup .nil, fun i hi hp => keepT i (by rw [List.mem_singleton.1 hi]; exact .head _) hp⟩
  ·exact Zez (s := Zbx s1 (goOn (topF s1))) (Zdq (s := s1) (by omega)).symm rfl rfl rfl rfl
  ·exact Zct (by omega)
  ·rw [hl]
   refine Zds.trans ?_
   rw [htp, wrap64 (by omega) (by omega)]
   rfl
 ·exfalso
  rw [hft] at hb
  simp only [decide_eq_false_iff_not] at hb
  omega
set_option linter.unusedSimpArgs false
theorem renN' {m : Zai} {s s' : Mach} {f : FuncId} {args args' : List AV} {r : AV} (h : HG Tryz.prog [jB] f (mem m s) args r (mem m s')) (ha : GVs (srcL [(jF, some jN)]) (memN m s) (mem m s) args' args) : HG Tryz.prog [jB] f (memN m s) args' r (mem m s') := by
 refine h.ren (srcL [(jF, some jN)]) (Zfl rfl (fun i hi => ?_)) (fun j b e => ?_) ha (fun i hi _ => by rw [List.mem_singleton.1 hi]; exact ⟨rfl, rfl⟩)
 ·rw [List.mem_singleton.1 (show i ∈ [jN] from hi)]; exact .inl rfl
 ·rcases Zcc e with ⟨rfl, rfl⟩ | ⟨rfl, rfl⟩ | ⟨rfl, rfl⟩ | ⟨rfl, rfl⟩ | ⟨q, rfl, hq2, rfl⟩
  ·exact HOk.mk rfl rfl (GB.one (cells22 rfl rfl rfl rfl) (fun e => by cases e))
  ·exact HOk.mk rfl rfl (GB_fr (fun _ _ => rfl) rfl (fun q hq => by rw [Zef, Za1 hq]; rfl) rfl)
  ·exact HOk.mk rfl rfl (Zd8 _)
  ·exact HOk.mk rfl rfl (Zb0 _)
  ·exact HOk.mk rfl (Za1 (l := s.stack) hq2) (Zb0 _)
set_option maxHeartbeats 4000000 in
theorem c_mStepF (m : Zai) (s s1 : Mach) (f : Zap) (hf : topF s = f) (h : 0 < s.stack.length) (h32 : s.stack.length ≤ 32) (hF : OkF m f) (he : endB m f = false)
  (hI : HG Tryz.prog LW 113 (mem m s) [.bp jB 0, .rp jF 5 (s.stack.length - 1) 0, .agg (Zbe ((Zao m f).ins.getD f.at_.toNat default))] (.bool false) (mem m s1)) :
  HG Tryz.prog [jB] 64 (mem m s) [.bp jB 0] (.tup []) (mem m s1) := by
 refine Za7 tok Tryz.func64 rfl (by decide +kernel) (nB rfl) ?_
 have hmx : mL = 4294967296 := rfl
 have hft : s.stack.getD (s.stack.length - 1) default = f := hf
 have hT := Zf7 m s h (by omega)
 have hB := Zdu m s (s.stack.length - 1) (by omega) (by rw [hft]; exact hF)
 rw [hft] at hB
 have hE : ¬ f.at_ = (Zao m f).ins.length := fun e => by
  have : endB m f = true := decide_eq_true e
  rw [he] at this; cases this
 have hgen : ∃ b, Zao m f = b := ⟨_, rfl⟩
 obtain ⟨b, hbe⟩ := hgen
 have a0 := hF.a0
 have a1 := hF.a1
 rw [hbe] at hB hE a1 hI
 (repeat' ((fail_if_success (show Rg 0)); refine Zab ?_))
 (repeat' (refine Zaa tok (by rfl) ?_; conv => whnf))
 refine .inr ⟨_, _, _, uG (QH.tnM (by simp) (by simp) hT h32 (Za3 rfl rfl rfl rfl (fun _ => rfl)) rfl (fun q hq => Zan hq)), ?_⟩
 conv => whnf
 (repeat' ((fail_if_success (show Rg 1)); refine Zab ?_))
 (repeat' (refine Zaa tok (by rfl) ?_; conv => whnf))
 refine .inr ⟨_, _, _, uG (QH.tnM (by simp) (by simp) hB h32 (Za3 rfl rfl rfl rfl (fun _ => Zbw (fun hq => Zan (by omega)))) rfl (fun q hq => (Zbw (fun hq => Zan (by omega))).trans (Zan hq))), ?_⟩
 conv => whnf
 ((repeat' ((fail_if_success (show Rg 3)); (fail_if_success (show Rg 5)); first | refine Zab ?_ | (refine Zas tok mix (by rfl) ?_; conv => whnf) | (refine Zag ?_; conv => whnf) | refine Zaf rfl (fun hb => ?_) (fun hb => ?_) | (refine uA ?_ ?_; rotate_left; (conv => whnf); rotate_right))); all_goals (try ((guard_target = Zac _ _ _ _); refine Zae ?_; (all_goals (try simp only [Zac, kZ, kA, kB, mL, Zad] at *)); all_goals omega)))
 ·clear hb
  refine Zar (weakW (m := m) (s := s) (L := [jB]) (tl := [(0, .bp jB 0), (2, .rp jF 5 (s.stack.length - 1) 0), (3, .bp (3, 0, 0) 0)]) (el := [((3, 0, 0), Za2 (Za5 b))]) ?_ ?_ (fun q hq => Za9 hq) (fun i hi _ => by rw [List.mem_singleton.1 hi]; exact ⟨rfl, rfl⟩)) ?_
  ·exact .cons (.bp rfl rfl) (.cons (.rp rfl rfl rfl) (.cons (.bp rfl rfl) .nil))
  ·exact .old rfl rfl (GB.one (GVs.imm rfl) (fun _ => rfl)) (Zcs rfl rfl rfl rfl (fun _ => rfl) rfl rfl rfl rfl rfl rfl rfl (fun q hq => Zcf hq))
  have hle : s.stack.length - 1 < s.stack.length := by omega
  have hat1 : (s.stack.getD (s.stack.length - 1) default).at_.toNat < b.ins.length := by rw [hft]; omega
  have hat0' : 0 ≤ (s.stack.getD (s.stack.length - 1) default).at_ := by rw [hft]; omega
  have hI' : HG Tryz.prog LW 113 (mem m s) [.bp jB 0, .rp jF 5 (s.stack.length - 1) 0, .agg (Zbe (b.ins.getD (s.stack.getD (s.stack.length - 1) default).at_.toNat default))] (.bool false) (mem m s1) := by rw [hft]; exact hI
  ((repeat' first | (refine Zas tok mix (by rfl) ?_; conv => whnf) | (refine uA ?_ ?_; rotate_left; (conv => whnf); rotate_right)); all_goals (try ((guard_target = Zac _ _ _ _); refine Zae ?_; (all_goals (try simp only [Zac, kZ, kA, kB, mL, Zad] at *)); all_goals omega)))
  refine .inr ⟨_, _, _, uG (QH.tnM (by simp) (by simp) hI' h32 (Za3 rfl rfl rfl rfl (fun _ => rfl)) rfl (fun q hq => Zan hq)), ?_⟩
  conv => whnf
  (repeat' ((fail_if_success (show Rg 4)); first | (refine Zag ?_; conv => whnf) | (refine Zak ?_; conv => whnf) | refine Zaf rfl (fun hb => ?_) (fun hb => ?_)))
  all_goals (try (exfalso; cases hb; done))
  clear hb
  skip
  refine ⟨_, srcL [], rfl, ?_⟩
  rw [← and_assoc]
  exact ⟨Zd1 (s := s1) rfl rfl rfl (Zcm rfl rfl rfl) rfl rfl rfl (fun q hq => Za9 hq), .tup .nil, fun i hi hp => Zc4 i (by rw [List.mem_singleton.1 hi]; exact .head _) hp⟩
 ·exfalso
  rw [hft] at hb
  simp only [decide_eq_false_iff_not] at hb
  omega
set_option maxHeartbeats 4000000 in
theorem c_mStepC (m : Zai) (s s1 : Mach) (f : Zap) (hf : topF s = f) (h : 0 < s.stack.length) (h32 : s.stack.length ≤ 32) (hF : OkF m f) (he : endB m f = false)
  (hI : HG Tryz.prog [jB] 113 (mem m s) [.bp jB 0, .rp jF 5 (s.stack.length - 1) 0, .agg (Zbe ((Zao m f).ins.getD f.at_.toNat default))] (.bool false) (mem m s1)) :
  HG Tryz.prog [jB] 64 (mem m s) [.bp jB 0] (.tup []) (mem m s1) := by
 refine Za7 tok Tryz.func64 rfl (by decide +kernel) (nB rfl) ?_
 have hmx : mL = 4294967296 := rfl
 have hft : s.stack.getD (s.stack.length - 1) default = f := hf
 have hT := Zf7 m s h (by omega)
 have hB := Zdu m s (s.stack.length - 1) (by omega) (by rw [hft]; exact hF)
 rw [hft] at hB
 have hE : ¬ f.at_ = (Zao m f).ins.length := fun e => by
  have : endB m f = true := decide_eq_true e
  rw [he] at this; cases this
 have hgen : ∃ b, Zao m f = b := ⟨_, rfl⟩
 obtain ⟨b, hbe⟩ := hgen
 have a0 := hF.a0
 have a1 := hF.a1
 rw [hbe] at hB hE a1 hI
 (repeat' ((fail_if_success (show Rg 0)); refine Zab ?_))
 (repeat' (refine Zaa tok (by rfl) ?_; conv => whnf))
 refine .inr ⟨_, _, _, uG (QH.tnM (by simp) (by simp) hT h32 (Za3 rfl rfl rfl rfl (fun _ => rfl)) rfl (fun q hq => Zan hq)), ?_⟩
 conv => whnf
 (repeat' ((fail_if_success (show Rg 1)); refine Zab ?_))
 (repeat' (refine Zaa tok (by rfl) ?_; conv => whnf))
 refine .inr ⟨_, _, _, uG (QH.tnM (by simp) (by simp) hB h32 (Za3 rfl rfl rfl rfl (fun _ => Zbw (fun hq => Zan (by omega)))) rfl (fun q hq => (Zbw (fun hq => Zan (by omega))).trans (Zan hq))), ?_⟩
 conv => whnf
 ((repeat' ((fail_if_success (show Rg 3)); (fail_if_success (show Rg 5)); first | refine Zab ?_ | (refine Zas tok mix (by rfl) ?_; conv => whnf) | (refine Zag ?_; conv => whnf) | refine Zaf rfl (fun hb => ?_) (fun hb => ?_) | (refine uA ?_ ?_; rotate_left; (conv => whnf); rotate_right))); all_goals (try ((guard_target = Zac _ _ _ _); refine Zae ?_; (all_goals (try simp only [Zac, kZ, kA, kB, mL, Zad] at *)); all_goals omega)))
 ·clear hb
  refine Zar (Weak.fam (L := [jB]) (tl := [(0, .bp jB 0), (2, .rp jN 5 (s.stack.length - 1) 0), (3, .bp (3, 0, 0) 0)]) (hl := [((3, 0, 0), Za2 (Za5 b))] ++ memNL m s) (F := famW s.stack) [(jN, some jF)] rfl (fun c hc => ?_) ?_ ?_ ?_ (fun i hi _ => by rw [List.mem_singleton.1 hi]; exact ⟨rfl, rfl⟩)) ?_
  ·rw [List.mem_singleton.1 (show c ∈ [jF] from hc)]; exact .inl rfl
  ·exact .cons (.bp rfl rfl) (.cons (.rp rfl rfl rfl) (.cons (.bp rfl rfl) .nil))
  ·refine .old rfl rfl (GB.one (GVs.imm rfl) (fun _ => rfl)) ?_
   exact HLs_memN rfl rfl rfl rfl (fun _ => rfl) rfl rfl rfl rfl rfl rfl rfl rfl (fun q hq => Zcf hq)
  ·exact Zfh (fun _ _ => rfl) (fun q hq => Za9 hq)
  have hle : s.stack.length - 1 < s.stack.length := by omega
  have hat1 : (s.stack.getD (s.stack.length - 1) default).at_.toNat < b.ins.length := by rw [hft]; omega
  have hat0' : 0 ≤ (s.stack.getD (s.stack.length - 1) default).at_ := by rw [hft]; omega
  have hI' : HG Tryz.prog [jB] 113 (memN m s) [.bp jB 0, .rp jN 5 (s.stack.length - 1) 0, .agg (Zbe (b.ins.getD (s.stack.getD (s.stack.length - 1) default).at_.toNat default))] (.bool false) (mem m s1) := by rw [hft]; exact renN' hI (.cons (.bp rfl rfl) (.cons (.rp rfl rfl rfl) (.i .nil)))
  ((repeat' first | (refine Zas tok mix (by rfl) ?_; conv => whnf) | (refine uA ?_ ?_; rotate_left; (conv => whnf); rotate_right)); all_goals (try ((guard_target = Zac _ _ _ _); refine Zae ?_; (all_goals (try simp only [Zac, kZ, kA, kB, mL, Zad] at *)); all_goals omega)))
  refine .inr ⟨_, _, _, uG (QH.ddM (by simp) hI' h32 (memN_sub rfl rfl rfl rfl (fun _ => rfl)) rfl rfl (fun q hq => Zan hq)), ?_⟩
  conv => whnf
  (repeat' ((fail_if_success (show Rg 4)); first | (refine Zag ?_; conv => whnf) | (refine Zak ?_; conv => whnf) | refine Zaf rfl (fun hb => ?_) (fun hb => ?_)))
  all_goals (try (exfalso; cases hb; done))
  clear hb
  skip
  refine ⟨_, srcL [], rfl, ?_⟩
  rw [← and_assoc]
  exact ⟨Zd1 (s := s1) rfl rfl rfl (Zcm rfl rfl rfl) rfl rfl rfl (fun q hq => Za9 hq), .tup .nil, fun i hi hp => Zc4 i (by rw [List.mem_singleton.1 hi]; exact .head _) hp⟩
 ·exfalso
  rw [hft] at hb
  simp only [decide_eq_false_iff_not] at hb
  omega
end Go.Proofs.YtoelbgjpmpoolaaGreat
namespace Go.Proofs.YtoelbgjpmpoolaaGreat
open Go Dv
set_option maxRecDepth 10000
set_option linter.unusedSimpArgs false
set_option maxHeartbeats 4000000 in
theorem c_mStep1 (m : Zai) (s : Mach) (f : Zap) (b : Zcn) (hf : topF s = f) (hbe : Zao m f = b) (h : 0 < s.stack.length) (h32 : s.stack.length ≤ 32) (hF : OkF m f) (he : endB m f = true) (hk : b.fin.kind = 1) (ha : 0 ≤ b.fin.a ∧ b.fin.a < f.regs.length) (hc : HG Tryz.prog LW 114 (mem m s) [.bp jB 0, .int .u16 (regA f b.fin.a)] (.tup []) (mem m (Zbr m s (regA f b.fin.a)))) :
  HG Tryz.prog [jB] 64 (mem m s) [.bp jB 0] (.tup []) (mem m (Zbr m s (regA f b.fin.a))) := by
 refine Za7 tok Tryz.func64 rfl (by decide +kernel) (nB rfl) ?_
 have hmx : mL = 4294967296 := rfl
 have hft : s.stack.getD (s.stack.length - 1) default = f := hf
 have hT := Zf7 m s h (by omega)
 have hB := Zdu m s (s.stack.length - 1) (by omega) (by rw [hft]; exact hF)
 rw [hft] at hB
 have hE : f.at_ = (Zao m f).ins.length := of_decide_eq_true he
 have a0 := hF.a0
 have a1 := hF.a1
 rw [hbe] at hB hE a1
 (repeat' ((fail_if_success (show Rg 0)); refine Zab ?_))
 (repeat' (refine Zaa tok (by rfl) ?_; conv => whnf))
 refine .inr ⟨_, _, _, uG (QH.tnM (by simp) (by simp) hT h32 (Za3 rfl rfl rfl rfl (fun _ => rfl)) rfl (fun q hq => Zan hq)), ?_⟩
 conv => whnf
 (repeat' ((fail_if_success (show Rg 1)); refine Zab ?_))
 (repeat' (refine Zaa tok (by rfl) ?_; conv => whnf))
 refine .inr ⟨_, _, _, uG (QH.tnM (by simp) (by simp) hB h32 (Za3 rfl rfl rfl rfl (fun _ => Zbw (fun hq => Zan (by omega)))) rfl (fun q hq => (Zbw (fun hq => Zan (by omega))).trans (Zan hq))), ?_⟩
 conv => whnf
 ((repeat' ((fail_if_success (show Rg 3)); (fail_if_success (show Rg 5)); first | refine Zab ?_ | (refine Zas tok mix (by rfl) ?_; conv => whnf) | (refine Zag ?_; conv => whnf) | refine Zaf rfl (fun hb => ?_) (fun hb => ?_) | (refine uA ?_ ?_; rotate_left; (conv => whnf); rotate_right))); all_goals (try ((guard_target = Zac _ _ _ _); refine Zae ?_; (all_goals (try simp only [Zac, kZ, kA, kB, mL, Zad] at *)); all_goals omega)))
 ·exfalso
  rw [hft] at hb
  simp only [decide_eq_true_eq] at hb
  omega
 clear hb
 refine Zar (weakW (m := m) (s := s) (L := [jB]) (tl := [(0, .bp jB 0), (2, .rp jF 5 (s.stack.length - 1) 0), (3, .bp (3, 0, 0) 0)]) (el := [((3, 0, 0), Za2 (Za5 b))]) ?_ ?_ (fun q hq => Za9 hq) (fun i hi _ => by rw [List.mem_singleton.1 hi]; exact ⟨rfl, rfl⟩)) ?_
 ·exact .cons (.bp rfl rfl) (.cons (.rp rfl rfl rfl) (.cons (.bp rfl rfl) .nil))
 ·exact .old rfl rfl (GB.one (GVs.imm rfl) (fun _ => rfl)) (Zcs rfl rfl rfl rfl (fun _ => rfl) rfl rfl rfl rfl rfl rfl rfl (fun q hq => Zcf hq))
 have hle : s.stack.length - 1 < s.stack.length := by omega
 (repeat' ((fail_if_success (show Rg 8)); (fail_if_success (show Rg 9)); first | refine Zab ?_ | (refine Zaa tok (by rfl) ?_; conv => whnf) | refine Zah ?_ | refine Zaf rfl (fun hb => ?_) (fun hb => ?_)))
 rotate_left
 ·exfalso; simp only [decide_eq_false_iff_not] at hb; omega
 clear hb
 have haa : b.fin.a.toNat < (topF s).regs.length := by rw [hf]; omega
 have hc' : HG Tryz.prog LW 114 (mem m s) [.bp jB 0, .int .u16 ((topF s).regs.getD (0 + b.fin.a.toNat) 0)] (.tup []) (mem m (Zbr m s (regA f b.fin.a))) := by rw [Nat.zero_add, hf]; exact hc
 ((repeat' first | (refine Zas tok mix (by rfl) ?_; conv => whnf) | (refine uA ?_ ?_; rotate_left; (conv => whnf); rotate_right)); all_goals (try ((guard_target = Zac _ _ _ _); refine Zae ?_; (all_goals (try simp only [Zac, kZ, kA, kB, mL, Zad] at *)); all_goals omega)))
 refine fAV (x := Zbi s.stack (s.stack.length - 1)) (y := .rs jT 1 0 (topF s).regs.length) (Zbg h rfl) ?_
 conv => whnf
 ((repeat' (refine uA ?_ ?_; rotate_left; (conv => whnf); rotate_right)); all_goals (try ((guard_target = Zac _ _ _ _); refine Zae ?_; (all_goals (try simp only [Zac, kZ, kA, kB, mL, Zad] at *)); all_goals omega)))
 refine .inr ⟨_, _, _, uG (QH.tnM (by simp) (by simp) hc' h32 (Za3 rfl rfl rfl rfl (fun _ => rfl)) rfl (fun q hq => Zan hq)), ?_⟩
 conv => whnf
 skip
 refine ⟨_, srcL [], rfl, ?_⟩
 rw [← and_assoc]
 exact ⟨Zd1 (s := Zbr m s (regA f b.fin.a)) rfl rfl rfl (Zcm rfl rfl rfl) rfl rfl rfl (fun q hq => Za9 hq), .tup .nil, fun i hi hp => Zc4 i (by rw [List.mem_singleton.1 hi]; exact .head _) hp⟩
set_option maxHeartbeats 4000000 in
theorem c_mStep5 (m : Zai) (s : Mach) (f : Zap) (b : Zcn) (hf : topF s = f) (hbe : Zao m f = b) (h : 0 < s.stack.length) (h32 : s.stack.length ≤ 32) (hF : OkF m f) (he : endB m f = true) (hk : b.fin.kind = 5) (ha : 0 ≤ b.fin.a ∧ b.fin.a < f.regs.length) (hc : HG Tryz.prog LW 117 (mem m s) [.bp jB 0, .int .u16 (regA f b.fin.a)] (.tup []) (mem m (Zbu m s (regA f b.fin.a)))) :
  HG Tryz.prog [jB] 64 (mem m s) [.bp jB 0] (.tup []) (mem m (Zbu m s (regA f b.fin.a))) := by
 refine Za7 tok Tryz.func64 rfl (by decide +kernel) (nB rfl) ?_
 have hmx : mL = 4294967296 := rfl
 have hft : s.stack.getD (s.stack.length - 1) default = f := hf
 have hT := Zf7 m s h (by omega)
 have hB := Zdu m s (s.stack.length - 1) (by omega) (by rw [hft]; exact hF)
 rw [hft] at hB
 have hE : f.at_ = (Zao m f).ins.length := of_decide_eq_true he
 have a0 := hF.a0
 have a1 := hF.a1
 rw [hbe] at hB hE a1
 (repeat' ((fail_if_success (show Rg 0)); refine Zab ?_))
 (repeat' (refine Zaa tok (by rfl) ?_; conv => whnf))
 refine .inr ⟨_, _, _, uG (QH.tnM (by simp) (by simp) hT h32 (Za3 rfl rfl rfl rfl (fun _ => rfl)) rfl (fun q hq => Zan hq)), ?_⟩
 conv => whnf
 (repeat' ((fail_if_success (show Rg 1)); refine Zab ?_))
 (repeat' (refine Zaa tok (by rfl) ?_; conv => whnf))
 refine .inr ⟨_, _, _, uG (QH.tnM (by simp) (by simp) hB h32 (Za3 rfl rfl rfl rfl (fun _ => Zbw (fun hq => Zan (by omega)))) rfl (fun q hq => (Zbw (fun hq => Zan (by omega))).trans (Zan hq))), ?_⟩
 conv => whnf
 ((repeat' ((fail_if_success (show Rg 3)); (fail_if_success (show Rg 5)); first | refine Zab ?_ | (refine Zas tok mix (by rfl) ?_; conv => whnf) | (refine Zag ?_; conv => whnf) | refine Zaf rfl (fun hb => ?_) (fun hb => ?_) | (refine uA ?_ ?_; rotate_left; (conv => whnf); rotate_right))); all_goals (try ((guard_target = Zac _ _ _ _); refine Zae ?_; (all_goals (try simp only [Zac, kZ, kA, kB, mL, Zad] at *)); all_goals omega)))
 ·exfalso
  rw [hft] at hb
  simp only [decide_eq_true_eq] at hb
  omega
 clear hb
 refine Zar (weakW (m := m) (s := s) (L := [jB]) (tl := [(0, .bp jB 0), (2, .rp jF 5 (s.stack.length - 1) 0), (3, .bp (3, 0, 0) 0)]) (el := [((3, 0, 0), Za2 (Za5 b))]) ?_ ?_ (fun q hq => Za9 hq) (fun i hi _ => by rw [List.mem_singleton.1 hi]; exact ⟨rfl, rfl⟩)) ?_
 ·exact .cons (.bp rfl rfl) (.cons (.rp rfl rfl rfl) (.cons (.bp rfl rfl) .nil))
 ·exact .old rfl rfl (GB.one (GVs.imm rfl) (fun _ => rfl)) (Zcs rfl rfl rfl rfl (fun _ => rfl) rfl rfl rfl rfl rfl rfl rfl (fun q hq => Zcf hq))
 have hle : s.stack.length - 1 < s.stack.length := by omega
 (repeat' ((fail_if_success (show Rg 8)); (fail_if_success (show Rg 9)); first | refine Zab ?_ | (refine Zaa tok (by rfl) ?_; conv => whnf) | refine Zah ?_ | refine Zaf rfl (fun hb => ?_) (fun hb => ?_)))
 ·exfalso; simp only [decide_eq_true_eq] at hb; omega
 clear hb
 (repeat' ((fail_if_success (show Rg 10)); (fail_if_success (show Rg 11)); first | refine Zab ?_ | (refine Zaa tok (by rfl) ?_; conv => whnf) | refine Zaf rfl (fun hb => ?_) (fun hb => ?_)))
 ·exfalso; simp only [decide_eq_true_eq] at hb; omega
 clear hb
 (repeat' ((fail_if_success (show Rg 12)); (fail_if_success (show Rg 16)); first | refine Zab ?_ | (refine Zaa tok (by rfl) ?_; conv => whnf) | refine Zaf rfl (fun hb => ?_) (fun hb => ?_)))
 ·exfalso; simp only [decide_eq_true_eq] at hb; omega
 clear hb
 (repeat' ((fail_if_success (show Rg 17)); (fail_if_success (show Rg 18)); first | refine Zab ?_ | (refine Zaa tok (by rfl) ?_; conv => whnf) | refine Zaf rfl (fun hb => ?_) (fun hb => ?_)))
 ·exfalso; simp only [decide_eq_true_eq] at hb; omega
 clear hb
 (repeat' ((fail_if_success (show Rg 19)); (fail_if_success (show Rg 20)); first | refine Zab ?_ | (refine Zaa tok (by rfl) ?_; conv => whnf) | refine Zaf rfl (fun hb => ?_) (fun hb => ?_)))
 rotate_left
 ·exfalso; simp only [decide_eq_false_iff_not] at hb; omega
 clear hb
 have haa : b.fin.a.toNat < (topF s).regs.length := by rw [hf]; omega
 have hc' : HG Tryz.prog LW 117 (mem m s) [.bp jB 0, .int .u16 ((topF s).regs.getD (0 + b.fin.a.toNat) 0)] (.tup []) (mem m (Zbu m s (regA f b.fin.a))) := by rw [Nat.zero_add, hf]; exact hc
 ((repeat' first | (refine Zas tok mix (by rfl) ?_; conv => whnf) | (refine uA ?_ ?_; rotate_left; (conv => whnf); rotate_right)); all_goals (try ((guard_target = Zac _ _ _ _); refine Zae ?_; (all_goals (try simp only [Zac, kZ, kA, kB, mL, Zad] at *)); all_goals omega)))
 refine fAV (x := Zbi s.stack (s.stack.length - 1)) (y := .rs jT 1 0 (topF s).regs.length) (Zbg h rfl) ?_
 conv => whnf
 ((repeat' (refine uA ?_ ?_; rotate_left; (conv => whnf); rotate_right)); all_goals (try ((guard_target = Zac _ _ _ _); refine Zae ?_; (all_goals (try simp only [Zac, kZ, kA, kB, mL, Zad] at *)); all_goals omega)))
 refine .inr ⟨_, _, _, uG (QH.tnM (by simp) (by simp) hc' h32 (Za3 rfl rfl rfl rfl (fun _ => rfl)) rfl (fun q hq => Zan hq)), ?_⟩
 conv => whnf
 skip
 refine ⟨_, srcL [], rfl, ?_⟩
 rw [← and_assoc]
 exact ⟨Zd1 (s := Zbu m s (regA f b.fin.a)) rfl rfl rfl (Zcm rfl rfl rfl) rfl rfl rfl (fun q hq => Za9 hq), .tup .nil, fun i hi hp => Zc4 i (by rw [List.mem_singleton.1 hi]; exact .head _) hp⟩
set_option maxHeartbeats 4000000 in
theorem c_mStep6 (m : Zai) (s : Mach) (f : Zap) (b : Zcn) (hf : topF s = f) (hbe : Zao m f = b) (h : 0 < s.stack.length) (h32 : s.stack.length ≤ 32) (hF : OkF m f) (he : endB m f = true) (hk : b.fin.kind = 6) (hc : HG Tryz.prog LW 117 (mem m s) [.bp jB 0, .int .u16 f.fly] (.tup []) (mem m (Zbu m s f.fly))) :
  HG Tryz.prog [jB] 64 (mem m s) [.bp jB 0] (.tup []) (mem m (Zbu m s f.fly)) := by
 refine Za7 tok Tryz.func64 rfl (by decide +kernel) (nB rfl) ?_
 have hmx : mL = 4294967296 := rfl
 have hft : s.stack.getD (s.stack.length - 1) default = f := hf
 have hT := Zf7 m s h (by omega)
 have hB := Zdu m s (s.stack.length - 1) (by omega) (by rw [hft]; exact hF)
 rw [hft] at hB
 have hE : f.at_ = (Zao m f).ins.length := of_decide_eq_true he
 have a0 := hF.a0
 have a1 := hF.a1
 rw [hbe] at hB hE a1
 (repeat' ((fail_if_success (show Rg 0)); refine Zab ?_))
 (repeat' (refine Zaa tok (by rfl) ?_; conv => whnf))
 refine .inr ⟨_, _, _, uG (QH.tnM (by simp) (by simp) hT h32 (Za3 rfl rfl rfl rfl (fun _ => rfl)) rfl (fun q hq => Zan hq)), ?_⟩
 conv => whnf
 (repeat' ((fail_if_success (show Rg 1)); refine Zab ?_))
 (repeat' (refine Zaa tok (by rfl) ?_; conv => whnf))
 refine .inr ⟨_, _, _, uG (QH.tnM (by simp) (by simp) hB h32 (Za3 rfl rfl rfl rfl (fun _ => Zbw (fun hq => Zan (by omega)))) rfl (fun q hq => (Zbw (fun hq => Zan (by omega))).trans (Zan hq))), ?_⟩
 conv => whnf
 ((repeat' ((fail_if_success (show Rg 3)); (fail_if_success (show Rg 5)); first | refine Zab ?_ | (refine Zas tok mix (by rfl) ?_; conv => whnf) | (refine Zag ?_; conv => whnf) | refine Zaf rfl (fun hb => ?_) (fun hb => ?_) | (refine uA ?_ ?_; rotate_left; (conv => whnf); rotate_right))); all_goals (try ((guard_target = Zac _ _ _ _); refine Zae ?_; (all_goals (try simp only [Zac, kZ, kA, kB, mL, Zad] at *)); all_goals omega)))
 ·exfalso
  rw [hft] at hb
  simp only [decide_eq_true_eq] at hb
  omega
 clear hb
 refine Zar (weakW (m := m) (s := s) (L := [jB]) (tl := [(0, .bp jB 0), (2, .rp jF 5 (s.stack.length - 1) 0), (3, .bp (3, 0, 0) 0)]) (el := [((3, 0, 0), Za2 (Za5 b))]) ?_ ?_ (fun q hq => Za9 hq) (fun i hi _ => by rw [List.mem_singleton.1 hi]; exact ⟨rfl, rfl⟩)) ?_
 ·exact .cons (.bp rfl rfl) (.cons (.rp rfl rfl rfl) (.cons (.bp rfl rfl) .nil))
 ·exact .old rfl rfl (GB.one (GVs.imm rfl) (fun _ => rfl)) (Zcs rfl rfl rfl rfl (fun _ => rfl) rfl rfl rfl rfl rfl rfl rfl (fun q hq => Zcf hq))
 have hle : s.stack.length - 1 < s.stack.length := by omega
 (repeat' ((fail_if_success (show Rg 8)); (fail_if_success (show Rg 9)); first | refine Zab ?_ | (refine Zaa tok (by rfl) ?_; conv => whnf) | refine Zah ?_ | refine Zaf rfl (fun hb => ?_) (fun hb => ?_)))
 ·exfalso; simp only [decide_eq_true_eq] at hb; omega
 clear hb
 (repeat' ((fail_if_success (show Rg 10)); (fail_if_success (show Rg 11)); first | refine Zab ?_ | (refine Zaa tok (by rfl) ?_; conv => whnf) | refine Zaf rfl (fun hb => ?_) (fun hb => ?_)))
 ·exfalso; simp only [decide_eq_true_eq] at hb; omega
 clear hb
 (repeat' ((fail_if_success (show Rg 12)); (fail_if_success (show Rg 16)); first | refine Zab ?_ | (refine Zaa tok (by rfl) ?_; conv => whnf) | refine Zaf rfl (fun hb => ?_) (fun hb => ?_)))
 ·exfalso; simp only [decide_eq_true_eq] at hb; omega
 clear hb
 (repeat' ((fail_if_success (show Rg 17)); (fail_if_success (show Rg 18)); first | refine Zab ?_ | (refine Zaa tok (by rfl) ?_; conv => whnf) | refine Zaf rfl (fun hb => ?_) (fun hb => ?_)))
 ·exfalso; simp only [decide_eq_true_eq] at hb; omega
 clear hb
 (repeat' ((fail_if_success (show Rg 19)); (fail_if_success (show Rg 20)); first | refine Zab ?_ | (refine Zaa tok (by rfl) ?_; conv => whnf) | refine Zaf rfl (fun hb => ?_) (fun hb => ?_)))
 ·exfalso; simp only [decide_eq_true_eq] at hb; omega
 clear hb
 (repeat' ((fail_if_success (show Rg 21)); first | (refine Zaa tok (by rfl) ?_; conv => whnf) | (refine Zag ?_; conv => whnf) | refine Zaf rfl (fun hb => ?_) (fun hb => ?_)))
 rotate_left
 ·exfalso; simp only [decide_eq_false_iff_not] at hb; omega
 clear hb
 have hc' : HG Tryz.prog LW 117 (mem m s) [.bp jB 0, .int .u16 (s.stack.getD (s.stack.length - 1) default).fly] (.tup []) (mem m (Zbu m s f.fly)) := by rw [hft]; exact hc
 ((repeat' first | (refine Zaa tok (by rfl) ?_; conv => whnf) | (refine uA ?_ ?_; rotate_left; (conv => whnf); rotate_right)); all_goals (try ((guard_target = Zac _ _ _ _); refine Zae ?_; (all_goals (try simp only [Zac, kZ, kA, kB, mL, Zad] at *)); all_goals omega)))
 refine .inr ⟨_, _, _, uG (QH.tnM (by simp) (by simp) hc' h32 (Za3 rfl rfl rfl rfl (fun _ => rfl)) rfl (fun q hq => Zan hq)), ?_⟩
 conv => whnf
 skip
 refine ⟨_, srcL [], rfl, ?_⟩
 rw [← and_assoc]
 exact ⟨Zd1 (s := Zbu m s f.fly) rfl rfl rfl (Zcm rfl rfl rfl) rfl rfl rfl (fun q hq => Za9 hq), .tup .nil, fun i hi hp => Zc4 i (by rw [List.mem_singleton.1 hi]; exact .head _) hp⟩
set_option maxHeartbeats 4000000 in
theorem c_mStep4 (m : Zai) (s : Mach) (f : Zap) (b : Zcn) (hf : topF s = f) (hbe : Zao m f = b) (h : 0 < s.stack.length) (h32 : s.stack.length ≤ 32) (hF : OkF m f) (he : endB m f = true) (hk : b.fin.kind = 4) (hc : HG Tryz.prog [jB] 116 (mem m s) [.bp jB 0, iv b.fin.f, ints b.fin.args] (.tup []) (mem m (Zb2 m s b.fin.f b.fin.args))) :
  HG Tryz.prog [jB] 64 (mem m s) [.bp jB 0] (.tup []) (mem m (Zb2 m s b.fin.f b.fin.args)) := by
 refine Za7 tok Tryz.func64 rfl (by decide +kernel) (nB rfl) ?_
 have hmx : mL = 4294967296 := rfl
 have hft : s.stack.getD (s.stack.length - 1) default = f := hf
 have hT := Zf7 m s h (by omega)
 have hB := Zdu m s (s.stack.length - 1) (by omega) (by rw [hft]; exact hF)
 rw [hft] at hB
 have hE : f.at_ = (Zao m f).ins.length := of_decide_eq_true he
 have a0 := hF.a0
 have a1 := hF.a1
 rw [hbe] at hB hE a1
 (repeat' ((fail_if_success (show Rg 0)); refine Zab ?_))
 (repeat' (refine Zaa tok (by rfl) ?_; conv => whnf))
 refine .inr ⟨_, _, _, uG (QH.tnM (by simp) (by simp) hT h32 (Za3 rfl rfl rfl rfl (fun _ => rfl)) rfl (fun q hq => Zan hq)), ?_⟩
 conv => whnf
 (repeat' ((fail_if_success (show Rg 1)); refine Zab ?_))
 (repeat' (refine Zaa tok (by rfl) ?_; conv => whnf))
 refine .inr ⟨_, _, _, uG (QH.tnM (by simp) (by simp) hB h32 (Za3 rfl rfl rfl rfl (fun _ => Zbw (fun hq => Zan (by omega)))) rfl (fun q hq => (Zbw (fun hq => Zan (by omega))).trans (Zan hq))), ?_⟩
 conv => whnf
 ((repeat' ((fail_if_success (show Rg 3)); (fail_if_success (show Rg 5)); first | refine Zab ?_ | (refine Zas tok mix (by rfl) ?_; conv => whnf) | (refine Zag ?_; conv => whnf) | refine Zaf rfl (fun hb => ?_) (fun hb => ?_) | (refine uA ?_ ?_; rotate_left; (conv => whnf); rotate_right))); all_goals (try ((guard_target = Zac _ _ _ _); refine Zae ?_; (all_goals (try simp only [Zac, kZ, kA, kB, mL, Zad] at *)); all_goals omega)))
 ·exfalso
  rw [hft] at hb
  simp only [decide_eq_true_eq] at hb
  omega
 clear hb
 refine Zar (Weak.fam (L := [jB]) (tl := [(0, .bp jB 0), (2, .rp jN 5 (s.stack.length - 1) 0), (3, .bp (3, 0, 0) 0)]) (hl := [((3, 0, 0), Za2 (Za5 b))] ++ memNL m s) (F := famW s.stack) [(jN, some jF)] rfl (fun c hc => ?_) ?_ ?_ ?_ (fun i hi _ => by rw [List.mem_singleton.1 hi]; exact ⟨rfl, rfl⟩)) ?_
 ·rw [List.mem_singleton.1 (show c ∈ [jF] from hc)]; exact .inl rfl
 ·exact .cons (.bp rfl rfl) (.cons (.rp rfl rfl rfl) (.cons (.bp rfl rfl) .nil))
 ·refine .old rfl rfl (GB.one (GVs.imm rfl) (fun _ => rfl)) ?_
  exact HLs_memN rfl rfl rfl rfl (fun _ => rfl) rfl rfl rfl rfl rfl rfl rfl rfl (fun q hq => Zcf hq)
 ·exact Zfh (fun _ _ => rfl) (fun q hq => Za9 hq)
 have hle : s.stack.length - 1 < s.stack.length := by omega
 (repeat' ((fail_if_success (show Rg 8)); (fail_if_success (show Rg 9)); first | refine Zab ?_ | (refine Zaa tok (by rfl) ?_; conv => whnf) | refine Zah ?_ | refine Zaf rfl (fun hb => ?_) (fun hb => ?_)))
 ·exfalso; simp only [decide_eq_true_eq] at hb; omega
 clear hb
 (repeat' ((fail_if_success (show Rg 10)); (fail_if_success (show Rg 11)); first | refine Zab ?_ | (refine Zaa tok (by rfl) ?_; conv => whnf) | refine Zaf rfl (fun hb => ?_) (fun hb => ?_)))
 ·exfalso; simp only [decide_eq_true_eq] at hb; omega
 clear hb
 (repeat' ((fail_if_success (show Rg 12)); (fail_if_success (show Rg 16)); first | refine Zab ?_ | (refine Zaa tok (by rfl) ?_; conv => whnf) | refine Zaf rfl (fun hb => ?_) (fun hb => ?_)))
 ·exfalso; simp only [decide_eq_true_eq] at hb; omega
 clear hb
 (repeat' ((fail_if_success (show Rg 17)); (fail_if_success (show Rg 18)); first | refine Zab ?_ | (refine Zaa tok (by rfl) ?_; conv => whnf) | refine Zaf rfl (fun hb => ?_) (fun hb => ?_)))
 rotate_left
 ·exfalso; simp only [decide_eq_false_iff_not] at hb; omega
 clear hb
 have hc' := renN' hc (.cons (.bp rfl rfl) (.i (.i .nil)))
 (repeat' (refine Zaa tok (by rfl) ?_; conv => whnf))
 refine .inr ⟨_, _, _, uG (QH.ddM (by simp) hc' h32 (memN_sub rfl rfl rfl rfl (fun _ => rfl)) rfl rfl (fun q hq => Zan hq)), ?_⟩
 conv => whnf
 skip
 refine ⟨_, srcL [], rfl, ?_⟩
 rw [← and_assoc]
 exact ⟨Zd1 (s := Zb2 m s b.fin.f b.fin.args) rfl rfl rfl (Zcm rfl rfl rfl) rfl rfl rfl (fun q hq => Za9 hq), .tup .nil, fun i hi hp => Zc4 i (by rw [List.mem_singleton.1 hi]; exact .head _) hp⟩
set_option maxHeartbeats 4000000 in
theorem c_mStep2 (m : Zai) (s : Mach) (f : Zap) (b : Zcn) (hf : topF s = f) (hbe : Zao m f = b) (h : 0 < s.stack.length) (h32 : s.stack.length ≤ 32) (hF : OkF m f) (he : endB m f = true) (hk : b.fin.kind = 2) :
  HG Tryz.prog [jB] 64 (mem m s) [.bp jB 0] (.tup []) (mem m (Zbx s (goF b f))) := by
 refine Za7 tok Tryz.func64 rfl (by decide +kernel) (nB rfl) ?_
 have hmx : mL = 4294967296 := rfl
 have hft : s.stack.getD (s.stack.length - 1) default = f := hf
 have hT := Zf7 m s h (by omega)
 have hB := Zdu m s (s.stack.length - 1) (by omega) (by rw [hft]; exact hF)
 rw [hft] at hB
 have hE : f.at_ = (Zao m f).ins.length := of_decide_eq_true he
 have a0 := hF.a0
 have a1 := hF.a1
 rw [hbe] at hB hE a1
 (repeat' ((fail_if_success (show Rg 0)); refine Zab ?_))
 (repeat' (refine Zaa tok (by rfl) ?_; conv => whnf))
 refine .inr ⟨_, _, _, uG (QH.tnM (by simp) (by simp) hT h32 (Za3 rfl rfl rfl rfl (fun _ => rfl)) rfl (fun q hq => Zan hq)), ?_⟩
 conv => whnf
 (repeat' ((fail_if_success (show Rg 1)); refine Zab ?_))
 (repeat' (refine Zaa tok (by rfl) ?_; conv => whnf))
 refine .inr ⟨_, _, _, uG (QH.tnM (by simp) (by simp) hB h32 (Za3 rfl rfl rfl rfl (fun _ => Zbw (fun hq => Zan (by omega)))) rfl (fun q hq => (Zbw (fun hq => Zan (by omega))).trans (Zan hq))), ?_⟩
 conv => whnf
 ((repeat' ((fail_if_success (show Rg 3)); (fail_if_success (show Rg 5)); first | refine Zab ?_ | (refine Zas tok mix (by rfl) ?_; conv => whnf) | (refine Zag ?_; conv => whnf) | refine Zaf rfl (fun hb => ?_) (fun hb => ?_) | (refine uA ?_ ?_; rotate_left; (conv => whnf); rotate_right))); all_goals (try ((guard_target = Zac _ _ _ _); refine Zae ?_; (all_goals (try simp only [Zac, kZ, kA, kB, mL, Zad] at *)); all_goals omega)))
 ·exfalso
  rw [hft] at hb
  simp only [decide_eq_true_eq] at hb
  omega
 clear hb
 refine Zar (weakW (m := m) (s := s) (L := [jB]) (tl := [(0, .bp jB 0), (2, .rp jF 5 (s.stack.length - 1) 0), (3, .bp (3, 0, 0) 0)]) (el := [((3, 0, 0), Za2 (Za5 b))]) ?_ ?_ (fun q hq => Za9 hq) (fun i hi _ => by rw [List.mem_singleton.1 hi]; exact ⟨rfl, rfl⟩)) ?_
 ·exact .cons (.bp rfl rfl) (.cons (.rp rfl rfl rfl) (.cons (.bp rfl rfl) .nil))
 ·exact .old rfl rfl (GB.one (GVs.imm rfl) (fun _ => rfl)) (Zcs rfl rfl rfl rfl (fun _ => rfl) rfl rfl rfl rfl rfl rfl rfl (fun q hq => Zcf hq))
 have hle : s.stack.length - 1 < s.stack.length := by omega
 (repeat' ((fail_if_success (show Rg 8)); (fail_if_success (show Rg 9)); first | refine Zab ?_ | (refine Zaa tok (by rfl) ?_; conv => whnf) | refine Zah ?_ | refine Zaf rfl (fun hb => ?_) (fun hb => ?_)))
 ·exfalso; simp only [decide_eq_true_eq] at hb; omega
 clear hb
 (repeat' ((fail_if_success (show Rg 10)); (fail_if_success (show Rg 11)); first | refine Zab ?_ | (refine Zaa tok (by rfl) ?_; conv => whnf) | refine Zaf rfl (fun hb => ?_) (fun hb => ?_)))
 rotate_left
 ·exfalso; simp only [decide_eq_false_iff_not] at hb; omega
 clear hb
 have hG := c_Go (topF s) b.fin.to
 have hGo : goF b f = { topF s with block := b.fin.to, at_ := 0 } := by unfold goF; rw [if_neg (fun e => by omega), hf]
 refine Zdv tok mix (by rfl) [0, 1, 2, 3, 4, 5, 7] 30 (by rfl) (by rfl) (by rfl) ?_
 conv => whnf
 (repeat' first
  | (refine fAV (x := Zbi s.stack (s.stack.length - 1)) (y := .rs jT 1 0 (topF s).regs.length) (Zbg h rfl) ?_; (conv => whnf))
  | (refine uA ?_ ?_; rotate_left; (conv => whnf); rotate_right)
  | (guard_target = And _ _; refine @And.intro (gOp _ _ _ _ _ _ _ _ _) _ (by (conv => whnf); first | exact ⟨rfl, rfl⟩ | (refine fAV (x := Zbi s.stack (s.stack.length - 1)) (y := .rs jT 1 0 (topF s).regs.length) (Zbg h rfl) ?_; (conv => whnf); exact ⟨rfl, rfl⟩)) ?_; conv => whnf)
  | (guard_target = And _ _; refine And.intro ?_ ?_ <;> (conv => whnf)))
 all_goals (try ((guard_target = Zac _ _ _ _); refine Zae ?_; (all_goals (try simp only [Zac, kZ, kA, kB, mL, Zad] at *)); all_goals omega))
 all_goals (try (show AV.agg [_, _, _, Zbi s.stack (s.stack.length - 1), _] = AV.agg [_, _, _, .rs jT 1 0 (topF s).regs.length, _]; rw [Zbg h rfl]; done))
 refine .inr ⟨_, _, _, uG (QH.lendF (rd := [jT]) hG (.cons (.agg (.i (.i (.i (.cons (.row rfl (.head _) rfl rfl (fun q hq => rfl)) (.i .nil)))))) (.i .nil)) (fun i hi => by rw [Zdm hi]; rfl) rfl (fun j b e => by
  obtain ⟨rfl, rfl⟩ := lendOne j b e
  exact fun i hi => rfl)), ?_⟩
 conv => whnf
 (repeat' first
  | (refine fAV (x := Zbi s.stack (s.stack.length - 1)) (y := .rs jT 1 0 (topF s).regs.length) (Zbg h rfl) ?_; (conv => whnf))
  | (refine uA ?_ ?_; rotate_left; (conv => whnf); rotate_right)
  | (guard_target = And _ _; refine @And.intro (gOp _ _ _ _ _ _ _ _ _) _ (by (conv => whnf); first | exact ⟨rfl, rfl⟩ | (refine fAV (x := Zbi s.stack (s.stack.length - 1)) (y := .rs jT 1 0 (topF s).regs.length) (Zbg h rfl) ?_; (conv => whnf); exact ⟨rfl, rfl⟩)) ?_; conv => whnf)
  | (guard_target = And _ _; refine And.intro ?_ ?_ <;> (conv => whnf)))
 all_goals (try ((guard_target = Zac _ _ _ _); refine Zae ?_; (all_goals (try simp only [Zac, kZ, kA, kB, mL, Zad] at *)); all_goals omega))
 all_goals (try (show AV.agg [_, _, _, Zbi s.stack (s.stack.length - 1), _] = AV.agg [_, _, _, .rs jT 1 0 (topF s).regs.length, _]; rw [Zbg h rfl]; done))
 skip
 refine ⟨_, srcT jE r0, rfl, ?_⟩
 rw [← and_assoc]
 refine ⟨leaveG (s := s) (g := { topF s with block := b.fin.to, at_ := 0 }) (n' := s.stack.length) h (by rw [hGo]) rfl (.inr (.inl rfl)) (.inl rfl) rfl ?_ rfl (Nat.le_refl _) (fun q hq => ?_) ?_ rfl (Zd8 _) rfl (Zb0 _) (fun q hq => ?_), .tup .nil, fun i hi hp => keepT i (by rw [List.mem_singleton.1 hi]; exact .head _) hp⟩
 ·exact Zez (s := Zbx s (goF b f)) (Zdq (s := s) h).symm rfl rfl rfl rfl
 ·exact Zct (by omega)
 ·exact Zds
 ·refine Zfj (d := []) (u := oneR (topF s).regs) rfl rfl ?_
  exact Za1 hq
set_option maxHeartbeats 4000000 in
theorem c_mStep3 (m : Zai) (s : Mach) (f : Zap) (b : Zcn) (hf : topF s = f) (hbe : Zao m f = b) (h : 0 < s.stack.length) (h32 : s.stack.length ≤ 32) (hF : OkF m f) (he : endB m f = true) (hk : b.fin.kind = 3) (ha : 0 ≤ b.fin.a ∧ b.fin.a < f.regs.length) :
  HG Tryz.prog [jB] 64 (mem m s) [.bp jB 0] (.tup []) (mem m (Zbx s (goF b f))) := by
 refine Za7 tok Tryz.func64 rfl (by decide +kernel) (nB rfl) ?_
 have hmx : mL = 4294967296 := rfl
 have hft : s.stack.getD (s.stack.length - 1) default = f := hf
 have hT := Zf7 m s h (by omega)
 have hB := Zdu m s (s.stack.length - 1) (by omega) (by rw [hft]; exact hF)
 rw [hft] at hB
 have hE : f.at_ = (Zao m f).ins.length := of_decide_eq_true he
 have a0 := hF.a0
 have a1 := hF.a1
 rw [hbe] at hB hE a1
 (repeat' ((fail_if_success (show Rg 0)); refine Zab ?_))
 (repeat' (refine Zaa tok (by rfl) ?_; conv => whnf))
 refine .inr ⟨_, _, _, uG (QH.tnM (by simp) (by simp) hT h32 (Za3 rfl rfl rfl rfl (fun _ => rfl)) rfl (fun q hq => Zan hq)), ?_⟩
 conv => whnf
 (repeat' ((fail_if_success (show Rg 1)); refine Zab ?_))
 (repeat' (refine Zaa tok (by rfl) ?_; conv => whnf))
 refine .inr ⟨_, _, _, uG (QH.tnM (by simp) (by simp) hB h32 (Za3 rfl rfl rfl rfl (fun _ => Zbw (fun hq => Zan (by omega)))) rfl (fun q hq => (Zbw (fun hq => Zan (by omega))).trans (Zan hq))), ?_⟩
 conv => whnf
 ((repeat' ((fail_if_success (show Rg 3)); (fail_if_success (show Rg 5)); first | refine Zab ?_ | (refine Zas tok mix (by rfl) ?_; conv => whnf) | (refine Zag ?_; conv => whnf) | refine Zaf rfl (fun hb => ?_) (fun hb => ?_) | (refine uA ?_ ?_; rotate_left; (conv => whnf); rotate_right))); all_goals (try ((guard_target = Zac _ _ _ _); refine Zae ?_; (all_goals (try simp only [Zac, kZ, kA, kB, mL, Zad] at *)); all_goals omega)))
 ·exfalso
  rw [hft] at hb
  simp only [decide_eq_true_eq] at hb
  omega
 clear hb
 refine Zar (weakW (m := m) (s := s) (L := [jB]) (tl := [(0, .bp jB 0), (2, .rp jF 5 (s.stack.length - 1) 0), (3, .bp (3, 0, 0) 0)]) (el := [((3, 0, 0), Za2 (Za5 b))]) ?_ ?_ (fun q hq => Za9 hq) (fun i hi _ => by rw [List.mem_singleton.1 hi]; exact ⟨rfl, rfl⟩)) ?_
 ·exact .cons (.bp rfl rfl) (.cons (.rp rfl rfl rfl) (.cons (.bp rfl rfl) .nil))
 ·exact .old rfl rfl (GB.one (GVs.imm rfl) (fun _ => rfl)) (Zcs rfl rfl rfl rfl (fun _ => rfl) rfl rfl rfl rfl rfl rfl rfl (fun q hq => Zcf hq))
 have hle : s.stack.length - 1 < s.stack.length := by omega
 (repeat' ((fail_if_success (show Rg 8)); (fail_if_success (show Rg 9)); first | refine Zab ?_ | (refine Zaa tok (by rfl) ?_; conv => whnf) | refine Zah ?_ | refine Zaf rfl (fun hb => ?_) (fun hb => ?_)))
 ·exfalso; simp only [decide_eq_true_eq] at hb; omega
 clear hb
 (repeat' ((fail_if_success (show Rg 10)); (fail_if_success (show Rg 11)); first | refine Zab ?_ | (refine Zaa tok (by rfl) ?_; conv => whnf) | refine Zaf rfl (fun hb => ?_) (fun hb => ?_)))
 ·exfalso; simp only [decide_eq_true_eq] at hb; omega
 clear hb
 (repeat' ((fail_if_success (show Rg 12)); (fail_if_success (show Rg 16)); first | refine Zab ?_ | (refine Zaa tok (by rfl) ?_; conv => whnf) | refine Zaf rfl (fun hb => ?_) (fun hb => ?_)))
 rotate_left
 ·exfalso; simp only [decide_eq_false_iff_not] at hb; omega
 clear hb
 have haa : b.fin.a.toNat < (topF s).regs.length := by rw [hf]; omega
 ((repeat' first | refine Zab ?_ | (refine Zaa tok (by rfl) ?_; conv => whnf) | (refine Zas tok mix (by rfl) ?_; conv => whnf) | (refine uA ?_ ?_; rotate_left; (conv => whnf); rotate_right)); all_goals (try ((guard_target = Zac _ _ _ _); refine Zae ?_; (all_goals (try simp only [Zac, kZ, kA, kB, mL, Zad] at *)); all_goals omega)))
 refine fAV (x := Zbi s.stack (s.stack.length - 1)) (y := .rs jT 1 0 (topF s).regs.length) (Zbg h rfl) ?_
 conv => whnf
 ((repeat' ((fail_if_success (show Rg 14)); (fail_if_success (show Rg 15)); first | (refine Zag ?_; conv => whnf) | refine Zaf rfl (fun hb => ?_) (fun hb => ?_) | (refine uA ?_ ?_; rotate_left; (conv => whnf); rotate_right))); all_goals (try ((guard_target = Zac _ _ _ _); refine Zae ?_; (all_goals (try simp only [Zac, kZ, kA, kB, mL, Zad] at *)); all_goals omega)))
 ·have hz : ¬ regA f b.fin.a = 0 := by
   unfold regA
   rw [Nat.zero_add, hf] at hb
   simpa using hb
  clear hb
  have hG := c_Go (topF s) b.fin.to
  have hGo : goF b f = { topF s with block := b.fin.to, at_ := 0 } := by unfold goF; rw [if_neg (fun e => hz e.2), hf]
  ((repeat' first | (refine Zaa tok (by rfl) ?_; conv => whnf) | (refine uA ?_ ?_; rotate_left; (conv => whnf); rotate_right)); all_goals (try ((guard_target = Zac _ _ _ _); refine Zae ?_; (all_goals (try simp only [Zac, kZ, kA, kB, mL, Zad] at *)); all_goals omega)))
  refine fAV (x := Zbi s.stack (s.stack.length - 1)) (y := .rs jT 1 0 (topF s).regs.length) (Zbg h rfl) ?_
  conv => whnf
  skip
  refine .inr ⟨_, _, _, uG (QH.lendF (rd := [jT]) hG (.cons (.agg (.i (.i (.i (.cons (.row rfl (.head _) rfl rfl (fun q hq => rfl)) (.i .nil)))))) (.i .nil)) (fun i hi => by rw [Zdm hi]; rfl) rfl (fun j b e => by
   obtain ⟨rfl, rfl⟩ := lendOne j b e
   exact fun i hi => rfl)), ?_⟩
  conv => whnf
  ((repeat' (refine uA ?_ ?_; rotate_left; (conv => whnf); rotate_right)); all_goals (try ((guard_target = Zac _ _ _ _); refine Zae ?_; (all_goals (try simp only [Zac, kZ, kA, kB, mL, Zad] at *)); all_goals omega)))
  refine ⟨_, srcT jE r0, rfl, ?_⟩
  rw [← and_assoc]
  refine ⟨leaveG (s := s) (g := { topF s with block := b.fin.to, at_ := 0 }) (n' := s.stack.length) h (by rw [hGo]) rfl (.inr (.inl rfl)) (.inl rfl) rfl ?_ rfl (Nat.le_refl _) (fun q hq => ?_) ?_ rfl (Zd8 _) rfl (Zb0 _) (fun q hq => ?_), .tup .nil, fun i hi hp => keepT i (by rw [List.mem_singleton.1 hi]; exact .head _) hp⟩
  ·exact Zez (s := Zbx s (goF b f)) (Zdq (s := s) h).symm rfl rfl rfl rfl
  ·exact Zct (by omega)
  ·exact Zds
  ·refine Zfj (d := []) (u := oneR (topF s).regs) rfl rfl ?_
   exact Za1 hq
 ·have hz : regA f b.fin.a = 0 := by
   unfold regA
   rw [Nat.zero_add, hf] at hb
   simpa using hb
  clear hb
  have hG := c_Go (topF s) b.fin.els
  have hGo : goF b f = { topF s with block := b.fin.els, at_ := 0 } := by unfold goF; rw [if_pos ⟨hk, hz⟩, hf]
  ((repeat' first | (refine Zaa tok (by rfl) ?_; conv => whnf) | (refine uA ?_ ?_; rotate_left; (conv => whnf); rotate_right)); all_goals (try ((guard_target = Zac _ _ _ _); refine Zae ?_; (all_goals (try simp only [Zac, kZ, kA, kB, mL, Zad] at *)); all_goals omega)))
  refine fAV (x := Zbi s.stack (s.stack.length - 1)) (y := .rs jT 1 0 (topF s).regs.length) (Zbg h rfl) ?_
  conv => whnf
  skip
  refine .inr ⟨_, _, _, uG (QH.lendF (rd := [jT]) hG (.cons (.agg (.i (.i (.i (.cons (.row rfl (.head _) rfl rfl (fun q hq => rfl)) (.i .nil)))))) (.i .nil)) (fun i hi => by rw [Zdm hi]; rfl) rfl (fun j b e => by
   obtain ⟨rfl, rfl⟩ := lendOne j b e
   exact fun i hi => rfl)), ?_⟩
  conv => whnf
  ((repeat' (refine uA ?_ ?_; rotate_left; (conv => whnf); rotate_right)); all_goals (try ((guard_target = Zac _ _ _ _); refine Zae ?_; (all_goals (try simp only [Zac, kZ, kA, kB, mL, Zad] at *)); all_goals omega)))
  refine ⟨_, srcT jE r0, rfl, ?_⟩
  rw [← and_assoc]
  refine ⟨leaveG (s := s) (g := { topF s with block := b.fin.els, at_ := 0 }) (n' := s.stack.length) h (by rw [hGo]) rfl (.inr (.inl rfl)) (.inl rfl) rfl ?_ rfl (Nat.le_refl _) (fun q hq => ?_) ?_ rfl (Zd8 _) rfl (Zb0 _) (fun q hq => ?_), .tup .nil, fun i hi hp => keepT i (by rw [List.mem_singleton.1 hi]; exact .head _) hp⟩
  ·exact Zez (s := Zbx s (goF b f)) (Zdq (s := s) h).symm rfl rfl rfl rfl
  ·exact Zct (by omega)
  ·exact Zds
  ·refine Zfj (d := []) (u := oneR (topF s).regs) rfl rfl ?_
   exact Za1 hq
end Go.Proofs.YtoelbgjpmpoolaaGreat
